/- Pv, part K: one operation, whatever its kind, steps as the model's does. -/
import Derived.Test.YtdmhagjcmlaiiaaDoorPvJ
set_option linter.unusedVariables false
set_option linter.unusedSimpArgs false
namespace Go.Pv

theorem rxL_pt {g : G} {w : World} : ∀ {xs : List X} {l : List PV} {vs : List Value}, RxL g w xs l vs → xs.length = l.length ∧ l.length = vs.length ∧
    ∀ (j : Nat) (c : PV) (u : Value), l[j]? = some c → vs[j]? = some u → ∃ x, xs[j]? = some x ∧ Rx g w x c u
  | [], [], [], _ => ⟨rfl, rfl, fun j c u h => by simp at h⟩
  | x :: xs, p :: l, v :: vs, h => by
    obtain ⟨h1, h2, h3⟩ := rxL_pt h.2
    refine ⟨by simp [h1], by simp [h2], fun j c u hc hu => ?_⟩
    cases j with
    | zero => simp at hc hu; subst hc; subst hu; exact ⟨x, rfl, h.1⟩
    | succ j => exact h3 j c u (by simpa using hc) (by simpa using hu)
  | [], [], _ :: _, h => h.elim
  | [], _ :: _, _, h => h.elim
  | _ :: _, [], _, h => h.elim
  | _ :: _, _ :: _, [], h => h.elim

def ownAt (own : Option (Nat × Nat)) (i : Nat) : Option Nat := match own with | some (j, e) => if i = j then some e else none | none => none
theorem passFrom_get {own : Option (Nat × Nat)} : ∀ {as bs : List PV} {i : Nat}, passFrom own i as = some bs → bs.length = as.length ∧ ∀ (j : Nat) (c : PV), as[j]? = some c → ∃ q, bs[j]? = some q ∧ passOne (ownAt own (i + j)) c = some q
  | [], bs, i, h => by simp [passFrom] at h; subst h; exact ⟨rfl, fun j c h => by simp at h⟩
  | p :: as, bs, i, h => by
    simp only [passFrom] at h
    obtain ⟨q, hq, h⟩ := Option.bind_eq_some_iff.1 h
    obtain ⟨r, hr, rfl⟩ := Option.map_eq_some_iff.1 h
    obtain ⟨h1, h2⟩ := passFrom_get hr
    refine ⟨by simp [h1], fun j c hj => ?_⟩
    cases j with
    | zero => simp at hj; subst hj; exact ⟨q, rfl, hq⟩
    | succ j =>
      obtain ⟨q', e1, e2⟩ := h2 j c (by simpa using hj)
      exact ⟨q', by simpa using e1, by rwa [show i + (j + 1) = i + 1 + j by omega]⟩

theorem norm_notTup {p : PV} (h : ∀ cs, p ≠ .tup cs) : ∀ cs, p.norm ≠ .tup cs := by
  intro cs
  cases p <;> simp [PV.norm, PV.normLeaf]
  rename_i l
  exact absurd rfl (h l)
theorem passOne_none {c q : PV} (h : passOne none c = some q) : q = c.norm ∧ c.isLoc = false ∧ ∀ cs, c ≠ .tup cs := by
  simp only [passOne] at h
  split at h
  · cases h
  · cases h
  · rename_i h1 h2
    simp at h
    refine ⟨h.symm, ?_, h2⟩
    cases c <;> simp [PV.isLoc]
    exact absurd rfl (h1 _ _)
theorem passOne_some {e : Nat} {c q : PV} (h : passOne (some e) c = some q) : ∃ m nl xs, c = .sl m nl xs ∧ (m = .full ∨ m = .sp e) ∧ q = .sl (.sp e) nl xs := by
  cases c with
  | sl m nl xs =>
    cases m with
    | ro => simp [passOne] at h
    | full => simp [passOne] at h; exact ⟨_, _, _, rfl, .inl rfl, h.symm⟩
    | sp e' =>
      simp only [passOne] at h
      split at h
      · rename_i he
        simp at h
        exact ⟨_, _, _, rfl, .inr (by rw [he]), h.symm⟩
      · cases h
  | _ => simp [passOne] at h

section
variable {P : Program} {g : G} {w : World} {own : Option (Nat × Nat)} {s : Option Nat} {pure : Bool}

theorem give_rr {p : PV} {v : Value} (h : Rr g w p v) (hp : pure = true → p.noPtr = true) : Rr (g.give own s pure) w p v := by
  cases pure
  · exact Rr.mono (g := g) (g' := g.give own s false) ⟨fun _ => Nat.le_refl _, fun _ _ _ => rfl, Nat.le_refl _, fun _ _ => rfl⟩ h
  · exact Rr.far (g := g) (g' := g.give own s true) (fun _ => Nat.le_refl _) (fun _ _ _ => rfl) h (hp rfl)

/-- An argument as the callee has it. -/
theorem pass_arg {i : Nat} {c q : PV} {u : Value} {x : X} (hx : Rx g w x c u) (hp : passOne (ownAt own i) c = some q) (hs : ∀ e, ownAt own i = some e → ∀ t, x = .t t → s = some t) (hn : pure = true → q.noPtr = true) :
    Rr (g.give own s pure) w q u ∧ OwnP (g.give own s pure) w (.slot i) q u := by
  cases ho : ownAt own i with
  | none =>
    rw [ho] at hp
    obtain ⟨rfl, hl, ht⟩ := passOne_none hp
    exact ⟨give_rr (hx.rr hl).norm hn, ownP_of (fun _ _ _ => norm_own) (norm_notTup ht)⟩
  | some e =>
    rw [ho] at hp
    obtain ⟨m, nl, xs, rfl, hm, rfl⟩ := passOne_some hp
    have hr := hx.rr rfl
    refine ⟨give_rr (hr.weakSl (by simp) (by simp)) hn, ?_, by intro cs vs hc; cases hc⟩
    intro e' nl' xs' hc
    cases hc
    rcases hm with rfl | rfl
    · obtain ⟨A, cap, hu, _, _, _, hf, _⟩ := hr.inv_sl
      exact ⟨A, cap, hu, .inl (hf rfl)⟩
    · cases x with
      | k p => exact absurd rfl (hx.2.1 _ _ _)
      | t t =>
        obtain rfl := hs e ho t rfl
        obtain ⟨A, cap, hu, h | ⟨b, o, vs', ty', hA, hcl, hfl, hh, hsz⟩⟩ := (hx.own rfl (s := t) (by simp)).1 _ _ _ rfl
        · exact ⟨A, cap, hu, .inl h⟩
        · refine ⟨A, cap, hu, .inr ⟨b, o, vs', ty', hA, ?_, hfl, hh, hsz⟩⟩
          show shown own (some t) pure (g.cl b) = _
          rw [hcl]
          unfold ownAt at ho
          split at ho
          · rename_i j e0 
            split at ho
            · rename_i hij
              subst hij
              simp [shown]
            · cases ho
          · cases ho
end

/-- Which slot gives its end. -/
def givenSlot (own : Option (Nat × Nat)) (ins : List X) : Option Nat :=
  match own, ins with
  | some (i, _), _ :: xs => (match xs[i]? with | some (.t s) => some s | _ => none)
  | _, _ => none
theorem givenSlot_kill {own : Option (Nat × Nat)} {ins : List X} {K : List Nat} (h : killOk own ins K = true) : ∀ t, givenSlot own ins = some t → t ∈ K := by
  intro t ht
  unfold givenSlot at ht
  split at ht
  · rename_i i e x xs
    split at ht
    · rename_i s hs
      cases ht
      cases x with
      | t n => simp [killOk] at h
      | k p => cases p <;> simp [killOk, hs] at h; exact h
    · cases ht
  · cases ht

theorem map_get {α β : Type} {f : α → β} {l : List α} {j : Nat} {u : β} (h : (l.map f)[j]? = some u) : ∃ x, l[j]? = some x ∧ f x = u := by simpa using h

/-- The callee and its arguments, as the model sees them. -/
theorem call_args {P : Program} {g : G} {w : World} {f : FuncId} {ins : List X} {l as : List PV} {fv : Value} {vs : List Value} (h : RxL g w ins l (fv :: vs)) (ht : target l = some (f, as)) :
    ∃ A B : List Value, fv = .func (.func f) A.toArray B.toArray ∧ as.length = (A ++ vs ++ B).length ∧
      ((A = [] ∧ B = [] ∧ ∃ x xs, ins = x :: xs ∧ RxL g w xs as vs) ∨ ((∃ f' a' b' r, l = .clo f' a' b' :: r) ∧ ∀ (j : Nat) (c : PV) (u : Value), as[j]? = some c → (A ++ vs ++ B)[j]? = some u → c.isLoc = false → Rr g w c u)) := by
  obtain ⟨x, xs, p, l', rfl, rfl, hx, hl⟩ := rxL_cons h
  unfold target at ht
  split at ht
  · rename_i f0 a b l0 heq
    cases heq
    split at ht
    · rename_i hab
      cases ht
      have ha : a = #[] := by simpa using hab.1
      have hb : b = #[] := by simpa using hab.2
      subst ha; subst hb
      have hv := (hx.rr rfl).inv_v
      exact ⟨[], [], by simpa using hv, by simpa using (rxL_pt hl).2.1, .inl ⟨rfl, rfl, x, xs, rfl, hl⟩⟩
    · cases ht
  · rename_i f0 a b l0 heq
    cases heq
    cases ht
    obtain ⟨A, B, rfl, h1, h2, h3, h4⟩ := (hx.rr rfl).inv_clo
    obtain ⟨e1, e2, e3⟩ := rxL_pt hl
    refine ⟨A, B, rfl, by simp [h1, h2, e2], .inr ⟨⟨_, _, _, _, rfl⟩, fun j c u hc hu hnl => ?_⟩⟩
    rcases Nat.lt_or_ge j a.length with hj | hj
    · rw [List.append_assoc, List.getElem?_append_left hj] at hc
      rw [List.append_assoc, List.getElem?_append_left (by omega)] at hu
      exact h3 j c u hc hu
    · rw [List.append_assoc, List.getElem?_append_right hj] at hc
      rw [List.append_assoc, List.getElem?_append_right (by omega), ← h1] at hu
      rcases Nat.lt_or_ge (j - a.length) l'.length with hj' | hj'
      · rw [List.getElem?_append_left hj'] at hc
        rw [List.getElem?_append_left (by omega)] at hu
        obtain ⟨x', _, hx'⟩ := e3 _ c u hc hu
        exact hx'.rr hnl
      · rw [List.getElem?_append_right hj'] at hc
        rw [List.getElem?_append_right (by omega), ← e2] at hu
        exact h4 _ c u hc hu
  · cases ht

theorem vals_head {env : Nat → Option PV} {ins : List X} {p : PV} {l : List PV} (h : vals env ins = some (p :: l)) : ∃ x xs, ins = x :: xs ∧ val env x = some p := by
  cases ins with
  | nil => simp [vals] at h
  | cons x xs =>
    simp only [vals, Option.bind_eq_some_iff, Option.map_eq_some_iff] at h
    obtain ⟨q, hq, r, _, h⟩ := h
    cases h
    exact ⟨x, xs, rfl, hq⟩

/-- The arguments as the callee's contract wants them. -/
theorem call_shown {P : Program} {g : G} {w : World} {f : FuncId} {env : Nat → Option PV} {ins : List X} {l as bs : List PV} {own : Option (Nat × Nat)} {fv : Value} {vs : List Value} {pure : Bool} {K : List Nat}
    (hv : vals env ins = some l) (h : RxL g w ins l (fv :: vs)) (ht : target l = some (f, as)) (hp : pass own as = some bs) (hk : killOk own ins K = true) (hn : pure = true → PV.noPtrL bs = true) :
    ∃ A B : List Value, fv = .func (.func f) A.toArray B.toArray ∧ bs.length = (A ++ vs ++ B).length ∧
      ∀ (j : Nat) (c : PV) (u : Value), bs[j]? = some c → (A ++ vs ++ B)[j]? = some u → Rr (g.give own (givenSlot own ins) pure) w c u ∧ OwnP (g.give own (givenSlot own ins) pure) w (.slot j) c u := by
  obtain ⟨A, B, h1, h2, h3⟩ := call_args (P := P) h ht
  obtain ⟨p1, p2⟩ := passFrom_get hp
  refine ⟨A, B, h1, p1.trans h2, fun j c u hc hu => ?_⟩
  have hj : j < as.length := by rw [← p1]; exact lt_of_get hc
  obtain ⟨q, hq, hpass⟩ := p2 j _ (List.getElem?_eq_getElem hj)
  rw [hc] at hq
  cases hq
  have hn' : pure = true → c.noPtr = true := fun e => noPtrL_get (hn e) hc
  rw [Nat.zero_add] at hpass
  rcases h3 with ⟨rfl, rfl, x, xs, rfl, hx⟩ | ⟨⟨f', a', b', r, rfl⟩, hx⟩
  · obtain ⟨x', hx', hrx⟩ := (rxL_pt hx).2.2 j _ u (List.getElem?_eq_getElem hj) (by simpa using hu)
    refine pass_arg hrx hpass (fun e he t ht => ?_) hn'
    subst ht
    unfold ownAt at he
    split at he
    · rename_i k e0
      split at he
      · rename_i hjk
        subst hjk
        simp [givenSlot, hx']
      · cases he
    · cases he
  · obtain ⟨x, xs, rfl, hval⟩ := vals_head hv
    have hown : own = none := by
      cases own with
      | none => rfl
      | some p =>
        cases x with
        | t n => simp [killOk] at hk
        | k q =>
          simp [val] at hval
          subst hval
          simp [killOk] at hk
    subst hown
    have hpass' : passOne none as[j] = some c := hpass
    obtain ⟨rfl, hnl, hnt⟩ := passOne_none hpass'
    exact ⟨give_rr (hx j _ u (List.getElem?_eq_getElem hj) hu hnl).norm hn', ownP_of (fun _ _ _ => norm_own) (norm_notTup hnt)⟩

theorem run_call {ρ : Operand → Value} {o : Oper} {c : Call} {fo : Operand} (ho : o.op = .call c) (hc : c.callee = .value fo) {f : FuncId} {A B : List Value} (hf : ρ fo = .func (.func f) A.toArray B.toArray) :
    execOp ρ o = callFunc f (A ++ c.args.toList.map ρ ++ B).toArray := by
  have : ((A.toArray ++ c.args.map ρ) ++ B.toArray : Array Value) = (A ++ c.args.toList.map ρ ++ B).toArray := by
    apply Array.ext'
    simp
  rw [← this]
  simp only [execOp, ho, resolve, hc, hf, Deferred.ofValue, pure_bind]
  rfl

theorem wp_of_callGo {P : Program} {o : Oper} {a : Go.Act} {w : World} {K : Go.Act → World → Prop} {Q : Exit → Go.Act → World → Prop} {f : FuncId} {args : Array Value} {R : Value → World → Prop} (he : execOp a.eval o = callFunc f args)
    (h : CallGo P f args w R) (hR : ∀ v w', R v w' → K (a.put o.dst v) w') : o.wp P a w K Q := by
  unfold Oper.wp
  rw [he]
  rcases h with ⟨h1, h2⟩ | ⟨v, w', h1, h2⟩
  · rw [h1, Oper.upon_enter]
    refine h2.mono fun e w' he => ?_
    cases e with
    | returned v => exact hR v w' he
    | panicked c => exact he.elim
    | outgrown => exact he.elim
  · rw [h1, Oper.upon_value]
    exact hR v w' h2

theorem Runs.wp {P : Program} {o : Oper} {a : Go.Act} {w : World} {g : G} {st1 : St} {K : Go.Act → World → Prop} {Q : Exit → Go.Act → World → Prop} (h : Runs P o a w g st1)
    (hK : ∀ g1 a1 w1, Rel g1 st1 a1 w1 → Fwd g w g1 w1 → a1.tmps.size = a.tmps.size → K a1 w1) : o.wp P a w K Q := by
  obtain ⟨v, w', g', h1 | ⟨h1, hv⟩, h2, h3⟩ := h
  · unfold Oper.wp
    rw [h1, Oper.upon_value]
    exact hK _ _ _ h2 h3 (put_size ..)
  · unfold Oper.wp
    rw [h1, Oper.upon_skip]
    subst hv
    exact hK _ _ _ h2 h3 (put_size ..)

/-- One operation. -/
theorem step_sound {P : Program} {J : Ix} {Γ : Env} {CR : CRel} (hC : ∀ f as m r m', CR f as m r m' → CallOk P J f as m r m') {ops : Array Oper} {oper : Oper} {o : O} {g : G} {st st1 : St} {a : Go.Act} {w : World} {N : Nat}
    (hok : okO P N ops oper o = true) (hR : Rel g st a w) (hN : Sz J N g a w) (hs : Step Γ CR o st st1) {K : Go.Act → World → Prop} {Q : Exit → Go.Act → World → Prop}
    (hK : ∀ g1 a1 w1, Rel g1 st1 a1 w1 → Fwd g w g1 w1 → Sz J N g1 a1 w1 → K a1 w1) :
    if Region.wanted oper (yielded ops a.tmps) then oper.wp P a w K Q else K (a.put oper.dst undef) w := by
  have hfix := hN.2
  replace hN := hN.1
  replace hK : ∀ g1 a1 w1, Rel g1 st1 a1 w1 → Fwd g w g1 w1 → a1.tmps.size = N → K a1 w1 := fun g1 a1 w1 h1 h2 h3 => hK g1 a1 w1 h1 h2 ⟨h3, hfix.fwd h2⟩
  simp only [okO, Bool.and_eq_true, beq_iff_eq] at hok
  obtain ⟨⟨⟨hdst, hdN⟩, hg⟩, hact⟩ := hok
  have hd : ∀ d, o.dst = some d → d < a.tmps.size := fun d h => by
    rw [h] at hdN
    rw [hN]
    simpa using hdN
  subst hN
  cases hs with
  | skip hw =>
    rw [wanted_of hg hR hw, if_neg (by simp)]
    have := hR.putU (dst := o.dst) hd
    rw [hdst]
    exact hK _ _ _ this (.refl _ _) (put_size ..)
  | @pure l p hw hk hl he =>
    rw [wanted_of hg hR hw, if_pos rfl]
    simp only [okAct, hk, Bool.and_eq_true] at hact
    exact Runs.wp ((pure_sound (ty := 0) hR hact.1 hact.2 hl he).runs hR hdst hd) hK
  | @box l d p c hw hk hl he =>
    rw [wanted_of hg hR hw, if_pos rfl]
    simp only [okAct, hk] at hact
    exact Runs.wp (box_sound hR hk hact hd hdst hl he) hK
  | @mem l p m hw hk hl he =>
    rw [wanted_of hg hR hw, if_pos rfl]
    simp only [okAct, hk] at hact
    exact Runs.wp (mem_sound hR hk hact hd hdst hl he) hK
  | @callP l as bs f p m hw hk hl ht hkl hp hn hc hpn =>
    rw [wanted_of hg hR hw, if_pos rfl]
    simp only [okAct, hk, Act.kind] at hact
    split at hact
    · rename_i fo args ats ho
      have hxs := rxL_of hR hact hl
      rw [List.map_cons] at hxs
      obtain ⟨A, B, hf, hlen, hargs⟩ := call_shown (P := P) (pure := true) hl hxs ht hp hkl (fun _ => hn)
      refine wp_of_callGo (run_call ho rfl hf) (hC _ _ _ _ _ hc (g.give (Γ.sig f).own (givenSlot (Γ.sig f).own o.ins) true) w _ hlen hargs (give_settled_pure hR.settled rfl) (give_fix hfix)) ?_
      rintro v w' ⟨g', hfwd, hr, hown, hset⟩
      have hv : Rr (g.back (g.give (Γ.sig f).own (givenSlot (Γ.sig f).own o.ins) true) g' w.heap.size true o.dst) w' p v := Rr.far (g := g') (g' := g.back (g.give (Γ.sig f).own (givenSlot (Γ.sig f).own o.ins) true) g' w.heap.size true o.dst) (fun _ => Nat.le_refl _) (fun _ _ _ => rfl) hr hpn
      have := back_rel (pure := true) hR (givenSlot_kill hkl) hfwd hset (fun _ => .inr trivial) hd hv hown
      rw [hdst]
      exact hK _ _ _ this (back_fwd hfwd) (put_size ..)
    · cases hact
  | @callM l as bs f p m hw hk hl ht hkl hp hc =>
    rw [wanted_of hg hR hw, if_pos rfl]
    simp only [okAct, hk, Act.kind] at hact
    split at hact
    · rename_i fo args ats ho
      have hxs := rxL_of hR hact hl
      rw [List.map_cons] at hxs
      obtain ⟨A, B, hf, hlen, hargs⟩ := call_shown (P := P) (pure := false) hl hxs ht hp hkl (by simp)
      refine wp_of_callGo (run_call ho rfl hf) (hC _ _ _ _ _ hc (g.give (Γ.sig f).own (givenSlot (Γ.sig f).own o.ins) false) w _ hlen hargs (give_settled hR.settled rfl) (give_fix hfix)) ?_
      rintro v w' ⟨g', hfwd, hr, hown, hset⟩
      have hv : Rr (g.back (g.give (Γ.sig f).own (givenSlot (Γ.sig f).own o.ins) false) g' w.heap.size false o.dst) w' p v := hr.mono (back_mono rfl)
      have := back_rel (pure := false) hR (givenSlot_kill hkl) hfwd hset (by simp) hd hv hown
      rw [hdst]
      exact hK _ _ _ this (back_fwd hfwd) (put_size ..)
    · cases hact
end Go.Pv
