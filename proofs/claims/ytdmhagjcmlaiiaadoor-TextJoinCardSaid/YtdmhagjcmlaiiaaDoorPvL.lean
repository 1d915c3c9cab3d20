/- Pv, part L: regions, in the order they are written and in any order. -/
import Derived.Test.YtdmhagjcmlaiiaaDoorPvK
import Derived.Still
set_option linter.unusedVariables false
set_option linter.unusedSimpArgs false
namespace Go.Pv

instance : Inhabited O := ⟨⟨none, [], .mv, [], none⟩⟩
def rd (o : O) : List Nat := (o.ins.filterMap fun x => match x with | .t n => some n | .k _ => none) ++ (match o.guard with | some (g, _) => [g] | none => [])
def wr (o : O) : List Nat := o.kill ++ o.dst.toList
def Act.looks : Act → Bool
  | .bld _ _ _ false | .gld _ _ false => true
  | _ => false
def Act.usesMem (a : Act) : Bool := match a.kind with | .mem | .call false => true | _ => false
def apartK (x y : Act) : Bool :=
  (x.looks && y.looks) ||
  (match x.kind, y.kind with
   | .box d, .box d' => d != d'
   | _, _ => !(x.usesMem && y.usesMem))
def apartO (x y : O) : Bool := (wr x).all (fun t => !(rd y).contains t && !(wr y).contains t) && (wr y).all (fun t => !(rd x).contains t) && apartK x.act y.act

structure Eff where
  K : List Nat
  p : PV
  b : Option (Nat × List PV)
  m : Option Mem
def Eff.app (E : Eff) (dst : Option Nat) (s : St) : St :=
  { env := fun t => if dst = some t then some E.p else if t ∈ E.K then none else s.env t,
    box := fun d => match E.b with | some (d', c) => if d = d' then some c else s.box d | none => s.box d,
    mem := E.m.getD s.mem }
theorem St.ext' {s t : St} (h1 : s.env = t.env) (h2 : s.box = t.box) (h3 : s.mem = t.mem) : s = t := by cases s; cases t; simp_all

theorem put_env (s : St) (dst : Option Nat) (p : PV) : (s.put dst p).env = fun t => if dst = some t then some p else s.env t := by
  cases dst with
  | none => simp [St.put]
  | some d =>
    funext t
    simp only [St.put, upd, Option.some.injEq]
    rcases Decidable.em (t = d) with h | h
    · subst h; simp
    · rw [if_neg h, if_neg (Ne.symm h)]
theorem put_box (s : St) (dst : Option Nat) (p : PV) : (s.put dst p).box = s.box := by cases dst <;> rfl
theorem put_mem (s : St) (dst : Option Nat) (p : PV) : (s.put dst p).mem = s.mem := by cases dst <;> rfl

theorem vals_congr {e e' : Nat → Option PV} {ins : List X} (h : ∀ n, X.t n ∈ ins → e' n = e n) : vals e' ins = vals e ins := by
  induction ins with
  | nil => rfl
  | cons x l ih =>
    simp only [vals]
    rw [ih fun n hn => h n (by simp [hn])]
    cases x with
    | t n => simp only [val]; rw [h n (by simp)]
    | k p => rfl
theorem rd_ins {o : O} {n : Nat} (h : X.t n ∈ o.ins) : n ∈ rd o := by
  simp only [rd, List.mem_append, List.mem_filterMap]
  exact .inl ⟨_, h, rfl⟩
theorem wanted_congr {o : O} {e e' : Nat → Option PV} (h : ∀ t, t ∈ rd o → e' t = e t) : wanted e' o.guard = wanted e o.guard := by
  cases hg : o.guard with
  | none => rfl
  | some gb =>
    obtain ⟨t, b⟩ := gb
    simp only [wanted]
    rw [h t (by simp [rd, hg])]

/-- A step, told by its effect. -/
theorem step_eff {Γ : Env} {CR : CRel} {o : O} {st s1 : St} (h : Step Γ CR o st s1) : ∃ E : Eff, s1 = E.app o.dst st ∧ (∀ t, t ∈ E.K → t ∈ o.kill) ∧
    (∀ d c, E.b = some (d, c) → o.act.kind = .box d ∧ o.act.looks = false) ∧ (E.m.isSome = true → o.act.usesMem = true ∧ o.act.looks = false) ∧
    ∀ st', (∀ t, t ∈ rd o → st'.env t = st.env t) → (∀ d, o.act.kind = .box d → st'.box d = st.box d) → (o.act.usesMem = true → st'.mem = st.mem) → Step Γ CR o st' (E.app o.dst st') := by
  cases h with
  | skip hw =>
    refine ⟨⟨[], undefP, none, none⟩, St.ext' ?_ ?_ ?_, by simp, by simp, by simp, fun st' h1 h2 h3 => ?_⟩
    · rw [put_env]; simp [Eff.app]
    · rw [put_box]; rfl
    · rw [put_mem]; rfl
    · have : (Eff.app ⟨[], undefP, none, none⟩ o.dst st') = st'.put o.dst undefP := St.ext' (by rw [put_env]; simp [Eff.app]) (by rw [put_box]; rfl) (by rw [put_mem]; rfl)
      rw [this]
      exact .skip ((wanted_congr h1).trans hw)
  | @pure l p hw hk hl he =>
    have happ : ∀ s : St, (Eff.app ⟨o.kill, p, none, none⟩ o.dst s) = (s.kill o.kill).put o.dst p := fun s => St.ext' (by rw [put_env]; simp [Eff.app, St.kill]) (by rw [put_box]; rfl) (by rw [put_mem]; rfl)
    refine ⟨⟨o.kill, p, none, none⟩, (happ st).symm, by simp, by simp, by simp, fun st' h1 h2 h3 => ?_⟩
    rw [happ]
    exact .pure ((wanted_congr h1).trans hw) hk ((vals_congr fun n hn => h1 n (rd_ins hn)).trans hl) he
  | @box l d p c hw hk hl he =>
    by_cases hlook : o.act.looks = true
    · have hsame : st.box d = some c := by
        cases hact : o.act <;> rw [hact] at hlook he hk <;> simp [Act.looks] at hlook
        rename_i d' n agg tk
        · cases tk
          case true => simp at hlook
          unfold evalB at he
          simp only at he
          split at he
          · rename_i d2 o2 c0 hb
            split at he
            · rename_i hdd
              simp only [bLd, Bool.false_eq_true, if_false] at he
              split at he
              · obtain ⟨q, _, he⟩ := Option.map_eq_some_iff.1 he
                simp only [Prod.mk.injEq] at he
                rw [hb, he.2]
              · cases he
            · cases he
          · cases he
        · simp [Act.kind] at hk
      have happ : ∀ s : St, s.box d = some c → (Eff.app ⟨o.kill, p, none, none⟩ o.dst s) = ((s.kill o.kill).setBox d c).put o.dst p := fun s hs =>
        St.ext' (by rw [put_env]; simp [Eff.app, St.kill, St.setBox]) (by rw [put_box, setBox_same (show (s.kill o.kill).box d = some c from hs)]; rfl) (by rw [put_mem]; rfl)
      refine ⟨⟨o.kill, p, none, none⟩, (happ st hsame).symm, by simp, by simp, by simp, fun st' h1 h2 h3 => ?_⟩
      rw [happ st' ((h2 d hk).trans hsame)]
      exact .box ((wanted_congr h1).trans hw) hk ((vals_congr fun n hn => h1 n (rd_ins hn)).trans hl) (by rw [h2 d hk]; exact he)
    · have happ : ∀ s : St, (Eff.app ⟨o.kill, p, some (d, c), none⟩ o.dst s) = ((s.kill o.kill).setBox d c).put o.dst p := fun s =>
        St.ext' (by rw [put_env]; simp [Eff.app, St.kill, St.setBox]) (by rw [put_box]; funext t; simp [Eff.app, St.setBox, upd, St.kill]) (by rw [put_mem]; rfl)
      refine ⟨⟨o.kill, p, some (d, c), none⟩, (happ st).symm, by simp, fun d' c' h => ?_, by simp, fun st' h1 h2 h3 => ?_⟩
      · simp at h
        obtain ⟨rfl, rfl⟩ := h
        exact ⟨hk, by simpa using hlook⟩
      · rw [happ]
        exact .box ((wanted_congr h1).trans hw) hk ((vals_congr fun n hn => h1 n (rd_ins hn)).trans hl) (by rw [h2 d hk]; exact he)
  | @mem l p m hw hk hl he =>
    have hum : o.act.usesMem = true := by simp [Act.usesMem, hk]
    by_cases hlook : o.act.looks = true
    · have hsame : st.mem = m := by
        cases hact : o.act <;> rw [hact] at hlook he hk <;> simp [Act.looks] at hlook
        · simp [Act.kind] at hk
        rename_i n agg tk
        · cases tk
          case true => simp at hlook
          unfold evalM at he
          simp only at he
          split at he
          · rename_i i off
            obtain ⟨c0, hb, he1⟩ := Option.bind_eq_some_iff.1 he
            obtain ⟨⟨p1, c1⟩, he2, heq⟩ := Option.map_eq_some_iff.1 he1
            simp only [bLd, Bool.false_eq_true, if_false] at he2
            split at he2
            · obtain ⟨q, _, he3⟩ := Option.map_eq_some_iff.1 he2
              simp only [Prod.mk.injEq] at he3 heq
              rw [← heq.2, ← he3.2, set_same hb]
            · cases he2
          · cases he
      have happ : ∀ s : St, s.mem = m → (Eff.app ⟨o.kill, p, none, none⟩ o.dst s) = ((s.kill o.kill).setMem m).put o.dst p := fun s hs =>
        St.ext' (by rw [put_env]; simp [Eff.app, St.kill, St.setMem]) (by rw [put_box]; rfl) (by rw [put_mem]; exact hs)
      refine ⟨⟨o.kill, p, none, none⟩, (happ st hsame).symm, by simp, by simp, by simp, fun st' h1 h2 h3 => ?_⟩
      rw [happ st' ((h3 hum).trans hsame)]
      exact .mem ((wanted_congr h1).trans hw) hk ((vals_congr fun n hn => h1 n (rd_ins hn)).trans hl) (by rw [h3 hum]; exact he)
    · have happ : ∀ s : St, (Eff.app ⟨o.kill, p, none, some m⟩ o.dst s) = ((s.kill o.kill).setMem m).put o.dst p := fun s =>
        St.ext' (by rw [put_env]; simp [Eff.app, St.kill, St.setMem]) (by rw [put_box]; rfl) (by rw [put_mem]; rfl)
      refine ⟨⟨o.kill, p, none, some m⟩, (happ st).symm, by simp, by simp, fun _ => ⟨hum, by simpa using hlook⟩, fun st' h1 h2 h3 => ?_⟩
      rw [happ]
      exact .mem ((wanted_congr h1).trans hw) hk ((vals_congr fun n hn => h1 n (rd_ins hn)).trans hl) (by rw [h3 hum]; exact he)
  | @callP l as bs f p m hw hk hl ht hkl hp hn hc hpn =>
    have happ : ∀ s : St, (Eff.app ⟨o.kill, p, none, none⟩ o.dst s) = (s.kill o.kill).put o.dst p := fun s => St.ext' (by rw [put_env]; simp [Eff.app, St.kill]) (by rw [put_box]; rfl) (by rw [put_mem]; rfl)
    refine ⟨⟨o.kill, p, none, none⟩, (happ st).symm, by simp, by simp, by simp, fun st' h1 h2 h3 => ?_⟩
    rw [happ]
    exact .callP ((wanted_congr h1).trans hw) hk ((vals_congr fun n hn => h1 n (rd_ins hn)).trans hl) ht hkl hp hn hc hpn
  | @callM l as bs f p m hw hk hl ht hkl hp hc =>
    have hum : o.act.usesMem = true := by simp [Act.usesMem, Act.kind, hk]
    have happ : ∀ s : St, (Eff.app ⟨o.kill, p, none, some m⟩ o.dst s) = ((s.kill o.kill).setMem m).put o.dst p := fun s =>
      St.ext' (by rw [put_env]; simp [Eff.app, St.kill, St.setMem]) (by rw [put_box]; rfl) (by rw [put_mem]; rfl)
    refine ⟨⟨o.kill, p, none, some m⟩, (happ st).symm, by simp, by simp, fun _ => ⟨hum, by simp [hk, Act.looks]⟩, fun st' h1 h2 h3 => ?_⟩
    rw [happ]
    exact .callM ((wanted_congr h1).trans hw) hk ((vals_congr fun n hn => h1 n (rd_ins hn)).trans hl) ht hkl hp (by rw [h3 hum]; exact hc)

theorem apartO_spec {x y : O} (h : apartO x y = true) : (∀ t, t ∈ wr x → t ∉ rd y ∧ t ∉ wr y) ∧ (∀ t, t ∈ wr y → t ∉ rd x) ∧ apartK x.act y.act = true := by
  simp only [apartO, Bool.and_eq_true, List.all_eq_true, Bool.not_eq_true', List.contains_eq_mem, decide_eq_false_iff_not] at h
  exact ⟨h.1.1, h.1.2, h.2⟩

theorem app_env (E : Eff) (dst : Option Nat) (s : St) {t : Nat} (h1 : dst ≠ some t) (h2 : t ∉ E.K) : (E.app dst s).env t = s.env t := by simp [Eff.app, h1, h2]
theorem wr_mem {o : O} {t : Nat} : t ∈ wr o ↔ t ∈ o.kill ∨ o.dst = some t := by simp [wr, eq_comm]

theorem step_comm {Γ : Env} {CR : CRel} {x y : O} {st s1 s2 : St} (hap : apartO x y = true) (hx : Step Γ CR x st s1) (hy : Step Γ CR y s1 s2) : ∃ m, Step Γ CR y st m ∧ Step Γ CR x m s2 := by
  obtain ⟨h1, h2, h3⟩ := apartO_spec hap
  obtain ⟨E, rfl, ek, eb, em, ex⟩ := step_eff hx
  obtain ⟨F, rfl, fk, fb, fm, fy⟩ := step_eff hy
  have hyx : Step Γ CR y st (F.app y.dst st) := by
    refine fy st (fun t ht => ?_) (fun d hd => ?_) (fun hu => ?_)
    · refine (app_env E x.dst st (fun h => (h1 t (wr_mem.2 (.inr h))).1 ht) (fun h => (h1 t (wr_mem.2 (.inl (ek t h)))).1 ht)).symm
    · simp only [Eff.app]
      split
      · rename_i d' c hb
        obtain ⟨k1, k2⟩ := eb d' c hb
        have : d' ≠ d := by
          simp only [apartK, k1, hd, k2, Bool.false_and, Bool.false_or] at h3
          simpa using h3
        rw [if_neg (Ne.symm this)]
      · rfl
    · simp only [Eff.app]
      cases hm : E.m with
      | none => rfl
      | some m =>
        obtain ⟨k1, k2⟩ := em (by simp [hm])
        simp only [apartK, k1, k2, hu, Bool.false_and, Bool.false_or] at h3
        simp only [Act.usesMem] at k1 hu
        split at h3 <;> simp_all
  refine ⟨_, hyx, ?_⟩
  have hxy : Step Γ CR x (F.app y.dst st) (E.app x.dst (F.app y.dst st)) := by
    refine ex _ (fun t ht => ?_) (fun d hd => ?_) (fun hu => ?_)
    · exact app_env F y.dst st (fun h => h2 t (wr_mem.2 (.inr h)) ht) (fun h => h2 t (wr_mem.2 (.inl (fk t h))) ht)
    · simp only [Eff.app]
      split
      · rename_i d' c hb
        obtain ⟨k1, k2⟩ := fb d' c hb
        have : d ≠ d' := by
          simp only [apartK, k1, hd, k2, Bool.and_false, Bool.false_or] at h3
          simpa using h3
        rw [if_neg this]
      · rfl
    · simp only [Eff.app]
      cases hm : F.m with
      | none => rfl
      | some m =>
        obtain ⟨k1, k2⟩ := fm (by simp [hm])
        simp only [apartK, k1, k2, hu, Bool.and_false, Bool.false_or] at h3
        simp only [Act.usesMem] at k1 hu
        split at h3 <;> simp_all
  have heq : E.app x.dst (F.app y.dst st) = F.app y.dst (E.app x.dst st) := by
    refine St.ext' ?_ ?_ ?_
    · funext t
      simp only [Eff.app]
      by_cases a1 : x.dst = some t
      · have := h1 t (wr_mem.2 (.inr a1))
        have a2 : y.dst ≠ some t := fun h => this.2 (wr_mem.2 (.inr h))
        have a3 : t ∉ F.K := fun h => this.2 (wr_mem.2 (.inl (fk t h)))
        simp [a1, a2, a3]
      · by_cases a2 : y.dst = some t
        · have a3 : t ∉ E.K := fun h => (h1 t (wr_mem.2 (.inl (ek t h)))).2 (wr_mem.2 (.inr a2))
          simp [a1, a2, a3]
        · by_cases a3 : t ∈ E.K <;> by_cases a4 : t ∈ F.K <;> simp [a1, a2, a3, a4]
    · funext d
      simp only [Eff.app]
      cases hE : E.b with
      | none => rfl
      | some p =>
        cases hF : F.b with
        | none => rfl
        | some q =>
          obtain ⟨d1, c1⟩ := p
          obtain ⟨d2, c2⟩ := q
          obtain ⟨k1, k2⟩ := eb _ _ hE
          obtain ⟨k3, k4⟩ := fb _ _ hF
          have hne : d1 ≠ d2 := by
            simp only [apartK, k1, k2, k3, Bool.false_and, Bool.false_or] at h3
            simpa using h3
          simp only
          by_cases b1 : d = d1
          · subst b1; simp [hne]
          · simp [b1]
    · simp only [Eff.app]
      cases hE : E.m with
      | none => rfl
      | some p =>
        cases hF : F.m with
        | none => rfl
        | some q =>
          obtain ⟨k1, k2⟩ := em (by simp [hE])
          obtain ⟨k3, k4⟩ := fm (by simp [hF])
          simp only [apartK, k1, k2, k3, Bool.false_and, Bool.false_or] at h3
          simp only [Act.usesMem] at k1 k3
          split at h3 <;> simp_all
  rw [← heq]
  exact hxy

theorem evo_front {Γ : Env} {CR : CRel} {o : O} {l2 : List O} {s1 : St} : ∀ {l1 : List O} {st : St}, (∀ x, x ∈ l1 → apartO x o = true) → EvO Γ CR (l1 ++ o :: l2) st s1 → ∃ m, Step Γ CR o st m ∧ EvO Γ CR (l1 ++ l2) m s1
  | [], st, _, h => by cases h with | cons h1 h2 => exact ⟨_, h1, h2⟩
  | x :: l1, st, hap, h => by
    cases h with
    | cons h1 h2 =>
      obtain ⟨m, h3, h4⟩ := evo_front (fun y hy => hap y (by simp [hy])) h2
      obtain ⟨m', h5, h6⟩ := step_comm (hap x (by simp)) h1 h3
      exact ⟨m', h5, .cons h6 h4⟩

/-! ## Regions -/
def okOps (P : Program) (N : Nat) (ops : Array Oper) : List Oper → List O → Bool
  | [], [] => true
  | o :: l, o' :: l' => okO P N ops o o' && okOps P N ops l l'
  | _, _ => false
def okDrawAt (ops : Array Oper) (os : List O) (i : Nat) : Bool :=
  (ops.getD i default).after.all (fun e => !Region.binds .any e || decide (e.on < i)) &&
  (List.range i).all fun j => (ops.getD i default).after.any (fun e => Region.binds .any e && e.on == j) || apartO (os.getD j default) (os.getD i default)
def okDraw (ops : Array Oper) (os : List O) : Bool := (List.range ops.size).all (okDrawAt ops os)

theorem okOps_get {P : Program} {N : Nat} {ops : Array Oper} : ∀ {l : List Oper} {os : List O}, okOps P N ops l os = true → l.length = os.length ∧ ∀ (i : Nat) (o : Oper) (o' : O), l[i]? = some o → os[i]? = some o' → okO P N ops o o' = true
  | [], [], _ => ⟨rfl, fun i o o' h => by simp at h⟩
  | o :: l, o' :: l', h => by
    simp only [okOps, Bool.and_eq_true] at h
    obtain ⟨h1, h2⟩ := okOps_get h.2
    refine ⟨by simp [h1], fun i a b ha hb => ?_⟩
    cases i with
    | zero => simp at ha hb; subst ha; subst hb; exact h.1
    | succ i => exact h2 i a b (by simpa using ha) (by simpa using hb)
  | [], _ :: _, h => by simp [okOps] at h
  | _ :: _, [], h => by simp [okOps] at h

section
variable {P : Program} {J : Ix} {Γ : Env} {CR : CRel} {ops : Array Oper} {N : Nat} {Q : Exit → Go.Act → World → Prop}

theorem list_sound (hC : ∀ f as m r m', CR f as m r m' → CallOk P J f as m r m') : ∀ {l : List Oper} {os : List O}, okOps P N ops l os = true → ∀ {g : G} {st st1 : St} {a : Go.Act} {w : World}, EvO Γ CR os st st1 → Rel g st a w → Sz J N g a w →
    (∀ g1 a1 w1, Rel g1 st1 a1 w1 → Fwd g w g1 w1 → Sz J N g1 a1 w1 → Q .normal a1 w1) → wpList P ops Q l a w
  | [], [], _, g, st, st1, a, w, hE, hR, hN, hQ => by cases hE; exact wpList_nil (hQ g a w hR (.refl _ _) hN)
  | o :: l, o' :: l', hok, g, st, st1, a, w, hE, hR, hN, hQ => by
    simp only [okOps, Bool.and_eq_true] at hok
    cases hE with
    | cons h1 h2 =>
      refine wpList_step fun K hK => step_sound hC hok.1 hR hN h1 fun g1 a1 w1 hR1 hF1 hN1 => hK _ _ ?_
      exact list_sound hC hok.2 h2 hR1 hN1 fun g2 a2 w2 hR2 hF2 hN2 => hQ g2 a2 w2 hR2 (hF1.trans hF2) hN2
  | [], _ :: _, hok, _, _, _, _, _, _, _, _, _ => by simp [okOps] at hok
  | _ :: _, [], hok, _, _, _, _, _, _, _, _, _ => by simp [okOps] at hok

def unl (ops : Array Oper) (listed : Array Bool) : List Nat := (List.range ops.size).filter fun i => !listed.getD i true

theorem getD_lt {α : Type} {l : Array α} {i : Nat} {d : α} (h : i < l.size) : l[i]? = some (l.getD i d) := by simp [Array.getD, h]

theorem any_sound (hC : ∀ f as m r m', CR f as m r m' → CallOk P J f as m r m') {os : List O} (hok : okOps P N ops ops.toList os = true) (hd : okDraw ops os = true) :
    ∀ (fuel : Nat) (listed : Array Bool) {g : G} {st st1 : St} {a : Go.Act} {w : World}, listed.size = ops.size → (unl ops listed).length ≤ fuel → EvO Γ CR ((unl ops listed).map (os.getD · default)) st st1 → Rel g st a w → Sz J N g a w →
    (∀ g1 a1 w1, Rel g1 st1 a1 w1 → Fwd g w g1 w1 → Sz J N g1 a1 w1 → Q .normal a1 w1) → wpAny P .any ops Q fuel listed a w := by
  have hlen : ops.size = os.length := by simpa using (okOps_get hok).1
  have hready : ∀ listed : Array Bool, listed.size = ops.size → Region.ready .any ops listed = [] → unl ops listed = [] := by
    intro listed hsz hr
    cases hu : unl ops listed with
    | nil => rfl
    | cons i r =>
      exfalso
      have hi : i ∈ unl ops listed := by rw [hu]; simp
      have hsorted : (unl ops listed).Pairwise (· < ·) := List.Pairwise.filter _ List.pairwise_lt_range
      simp only [unl, List.mem_filter, List.mem_range, Bool.not_eq_true'] at hi
      have hmem : i ∈ Region.ready .any ops listed := by
        refine mem_ready.2 ⟨hi.2, _, getD_lt (d := default) hi.1, fun e he hb => ?_⟩
        have hat := List.all_eq_true.1 hd i (List.mem_range.2 hi.1)
        simp only [okDrawAt, Bool.and_eq_true] at hat
        have := (Array.all_eq_true_iff_forall_mem.1 hat.1) e he
        simp only [hb, Bool.not_true, Bool.false_or, decide_eq_true_eq] at this
        cases hv : listed.getD e.on true with
        | true => simpa [Array.getD, show e.on < listed.size by omega] using hv
        | false =>
          have : e.on ∈ unl ops listed := by simp only [unl, List.mem_filter, List.mem_range, Bool.not_eq_true']; exact ⟨by omega, hv⟩
          rw [hu] at this hsorted
          rcases List.mem_cons.1 this with h | h
          · omega
          · have := (List.pairwise_cons.1 hsorted).1 _ h
            omega
      rw [hr] at hmem
      cases hmem
  intro fuel
  induction fuel with
  | zero =>
    intro listed g st st1 a w hsz hf hE hR hN hQ
    have hu : unl ops listed = [] := by cases h : unl ops listed <;> simp_all
    rw [hu] at hE
    cases hE
    refine ⟨?_, hQ g a w hR (.refl _ _) hN⟩
    rw [List.eq_nil_iff_forall_not_mem]
    intro i hi
    obtain ⟨h1, o, h2, _⟩ := mem_ready.1 hi
    have : i ∈ unl ops listed := by simp only [unl, List.mem_filter, List.mem_range, Bool.not_eq_true']; exact ⟨(Array.getElem?_eq_some_iff.1 h2).1, h1⟩
    rw [hu] at this
    cases this
  | succ fuel ih =>
    intro listed g st st1 a w hsz hf hE hR hN hQ
    refine ⟨fun hr => ?_, fun i hi => ?_⟩
    · rw [hready listed hsz hr] at hE
      cases hE
      exact hQ g a w hR (.refl _ _) hN
    · obtain ⟨h1, oi, h2, h3⟩ := mem_ready.1 hi
      have hlt := (Array.getElem?_eq_some_iff.1 h2).1
      have hmem : i ∈ unl ops listed := by simp only [unl, List.mem_filter, List.mem_range, Bool.not_eq_true']; exact ⟨hlt, h1⟩
      have hsorted : (unl ops listed).Pairwise (· < ·) := List.Pairwise.filter _ List.pairwise_lt_range
      obtain ⟨l1, l2, hu⟩ := List.append_of_mem hmem
      rw [hu] at hsorted hE hf
      have hs1 := List.pairwise_append.1 hsorted
      have hlt1 : ∀ j, j ∈ l1 → j < i := fun j hj => hs1.2.2 j hj i (by simp)
      have hlt2 : ∀ j, j ∈ l2 → i < j := fun j hj => (List.pairwise_cons.1 hs1.2.1).1 j hj
      have hu' : unl ops (listed.setIfInBounds i true) = l1 ++ l2 := by
        have : unl ops (listed.setIfInBounds i true) = (unl ops listed).filter (fun j => j != i) := by
          simp only [unl, List.filter_filter]
          congr 1
          funext j
          by_cases hji : j = i
          · subst hji
            simp [Array.getD]
          · rw [getD_set_ne true (Ne.symm hji)]
            simp [hji]
        rw [this, hu, List.filter_append, List.filter_cons]
        simp only [bne_self_eq_false, Bool.false_eq_true, if_false]
        rw [List.filter_eq_self.2 (fun j hj => by have := hlt1 j hj; simp; omega), List.filter_eq_self.2 (fun j hj => by have := hlt2 j hj; simp; omega)]
      have hat := List.all_eq_true.1 hd i (List.mem_range.2 hlt)
      simp only [okDrawAt, Bool.and_eq_true, List.all_eq_true, List.mem_range] at hat
      rw [List.map_append, List.map_cons] at hE
      obtain ⟨m, hstep, hrest⟩ := evo_front (fun x hx => by
        obtain ⟨j, hj, rfl⟩ := List.mem_map.1 hx
        have hji := hlt1 j hj
        rcases (Bool.or_eq_true _ _).mp (hat.2 j hji) with h | h
        · exfalso
          obtain ⟨k, hk, he⟩ := Array.any_eq_true.1 h
          simp only [Bool.and_eq_true, beq_iff_eq] at he
          have hoi : ops.getD i default = oi := by have := getD_lt (d := default) hlt; rw [h2] at this; injection this with this; exact this.symm
          have hin : (ops.getD i default).after[k] ∈ oi.after := by rw [← hoi]; exact Array.getElem_mem hk
          have hlj := h3 _ hin he.1
          rw [he.2] at hlj
          have hju : j ∈ unl ops listed := by rw [hu]; simp [hj]
          simp only [unl, List.mem_filter, List.mem_range, Bool.not_eq_true'] at hju
          have := hju.2
          simp only [Array.getD, show j < listed.size by omega, dif_pos] at this hlj
          rw [this] at hlj
          cases hlj
        · exact h) hE
      have hoo : okO P N ops oi (os.getD i default) = true := by
        refine (okOps_get hok).2 i oi _ (by simpa using h2) ?_
        rw [List.getD_eq_getElem?_getD, List.getElem?_eq_getElem (by omega)]
        rfl
      have hgo := step_sound hC hoo hR hN hstep (K := wpAny P .any ops Q fuel (listed.setIfInBounds i true)) (Q := Q) fun g1 a1 w1 hR1 hF1 hN1 => by
        refine ih _ (by simpa using hsz) ?_ (st1 := st1) ?_ hR1 hN1 fun g2 a2 w2 hR2 hF2 hN2 => hQ g2 a2 w2 hR2 (hF1.trans hF2) hN2
        · rw [hu']; simp at hf ⊢; omega
        · rw [hu', List.map_append]; exact hrest
      simp only [wpOp, h2]
      split
      · rename_i hw
        rw [if_pos hw] at hgo
        exact .inl hgo
      · rename_i hw
        rw [if_neg hw] at hgo
        exact hgo

theorem draw_sound (hm : P.follows .mixedOrders = true) (hC : ∀ f as m r m', CR f as m r m' → CallOk P J f as m r m') {os : List O} (hok : okOps P N ops ops.toList os = true) (hd : okDraw ops os = true) {id : Nat}
    {g : G} {st st1 : St} {a : Go.Act} {w : World} (hE : EvO Γ CR os st st1) (hR : Rel g st a w) (hN : Sz J N g a w)
    (hQ : ∀ g1 a1 w1, Rel g1 st1 a1 w1 → Fwd g w g1 w1 → Sz J N g1 a1 w1 → Q .normal a1 w1) : (Code.region id ops true).wp P Q a w := by
  have hlen : ops.size = os.length := by simpa using (okOps_get hok).1
  have hfw : Fwd g w g { w with drawn := w.drawn + 1 } := (keep_drawn (K := fun _ => False)).toFwd
  have hu : unl ops (Array.replicate ops.size false) = List.range ops.size := by
    simp only [unl]
    refine List.filter_eq_self.2 fun i hi => ?_
    rw [List.mem_range] at hi
    simp [Array.getD, hi]
  have hmap : (List.range ops.size).map (os.getD · default) = os := by
    refine List.ext_getElem (by simp [hlen]) fun i h1 h2 => ?_
    simp [List.getD_eq_getElem?_getD, h2]
  refine wp_region_any hm (any_sound (Γ := Γ) hC hok hd _ _ (by simp) ?_ (st1 := st1) ?_ (hR.drawn _) (hN.fwd hfw) fun g1 a1 w1 h1 h2 h3 => hQ g1 a1 w1 h1 (hfw.trans h2) h3)
  · rw [hu]; simp
  · rw [hu, hmap]; exact hE
end
end Go.Pv
