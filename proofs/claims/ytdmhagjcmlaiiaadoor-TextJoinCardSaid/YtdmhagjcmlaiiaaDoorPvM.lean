/- Pv, part M: whole bodies, and functions that call functions. -/
import Derived.Test.YtdmhagjcmlaiiaaDoorPvL
import Derived.LoopN
set_option linter.unusedVariables false
set_option linter.unusedSimpArgs false
namespace Go.Pv

def okC (P : Program) (N : Nat) : Code → C → Bool
  | .skip, .skip => true
  | .label _, .skip => true
  | .region _ ops dr, .reg dr' os => dr == dr' && okOps P N ops ops.toList os && (!dr || okDraw ops os)
  | .seq a b, .seq a' b' => okC P N a a' && okC P N b b'
  | .cond x a b, .cond x' a' b' => okX x x' && okC P N a a' && okC P N b b'
  | .block id c, .block id' c' => id == id' && okC P N c c'
  | .loop c, .loop c' => okC P N c c'
  | .exit id, .exit id' => id == id'
  | .ret, .ret => true
  | _, .dead => true
  | _, _ => false

def Ex.toExit : Ex → Exit
  | .nor => .normal
  | .exit id => .exit id
  | .ret => .ret

section
variable {P : Program} {J : Ix} {Γ : Env} {CR : CRel} {N : Nat}

/-- What running the piece comes to, whatever code stands for it. -/
def GoodC (P : Program) (J : Ix) (N : Nat) (c : C) (st : St) (e : Ex) (s1 : St) : Prop :=
  (∀ code, okC P N code c = true → ∀ (g : G) (a : Go.Act) (w : World) (Q : Exit → Go.Act → World → Prop), Rel g st a w → Sz J N g a w → (∀ g1 a1 w1, Rel g1 s1 a1 w1 → Fwd g w g1 w1 → Sz J N g1 a1 w1 → Q e.toExit a1 w1) → code.wp P Q a w) ∧
  (∀ c', c = .loop c' → ∃ n, ∀ code, okC P N code c' = true → ∀ (g : G) (a : Go.Act) (w : World) (Q : Exit → Go.Act → World → Prop), Rel g st a w → Sz J N g a w →
    (∀ g1 a1 w1, Rel g1 s1 a1 w1 → Fwd g w g1 w1 → Sz J N g1 a1 w1 → Q e.toExit a1 w1) → Code.rounds P code Q n a w)

theorem good_of {c : C} {st : St} {e : Ex} {s1 : St} (hl : ∀ c', c ≠ .loop c')
    (h : ∀ code, okC P N code c = true → ∀ (g : G) (a : Go.Act) (w : World) (Q : Exit → Go.Act → World → Prop), Rel g st a w → Sz J N g a w → (∀ g1 a1 w1, Rel g1 s1 a1 w1 → Fwd g w g1 w1 → Sz J N g1 a1 w1 → Q e.toExit a1 w1) → code.wp P Q a w) :
    GoodC P J N c st e s1 := ⟨h, fun c' hc => absurd hc (hl c')⟩
theorem good_loop {c : C} {st : St} {e : Ex} {s1 : St} {n : Nat} (h : ∀ code, okC P N code c = true → ∀ (g : G) (a : Go.Act) (w : World) (Q : Exit → Go.Act → World → Prop), Rel g st a w → Sz J N g a w →
    (∀ g1 a1 w1, Rel g1 s1 a1 w1 → Fwd g w g1 w1 → Sz J N g1 a1 w1 → Q e.toExit a1 w1) → Code.rounds P code Q n a w) : GoodC P J N (.loop c) st e s1 := by
  refine ⟨fun code hok g a w Q hR hN hQ => ?_, fun c' hc => ?_⟩
  · unfold okC at hok
    split at hok <;> try (rename_i heq; cases heq)
    all_goals try cases hok
    rename_i code0
    exact wp_loop_rounds n (h _ hok g a w Q hR hN hQ)
  · cases hc
    exact ⟨n, h⟩

theorem then_exit {e : Ex} (he : e ≠ .nor) {next : Go.Act → World → Prop} {Q : Exit → Go.Act → World → Prop} {a : Go.Act} {w : World} (h : Q e.toExit a w) : Exit.then next Q e.toExit a w := by
  cases e with
  | nor => exact absurd rfl he
  | exit i => exact h
  | ret => exact h

theorem code_sound (hm : P.follows .mixedOrders = true) (hC : ∀ f as m r m', CR f as m r m' → CallOk P J f as m r m') {c : C} {st : St} {e : Ex} {s1 : St} (h : EvC Γ CR c st e s1) : GoodC P J N c st e s1 := by
  induction h with
  | skip =>
    refine good_of (by simp) fun code hok g a w Q hR hN hQ => ?_
    cases code <;> simp [okC] at hok
    · exact wp_skip (hQ g a w hR (.refl _ _) hN)
    · exact wp_label (hQ g a w hR (.refl _ _) hN)
  | @reg b l st s1 hE =>
    refine good_of (by simp) fun code hok g a w Q hR hN hQ => ?_
    cases code <;> simp only [okC, Bool.false_eq_true] at hok
    rename_i id ops dr
    simp only [Bool.and_eq_true, beq_iff_eq] at hok
    obtain ⟨⟨rfl, hops⟩, hd⟩ := hok
    cases dr
    · exact wp_region_list (list_sound hC hops hE hR hN hQ)
    · exact draw_sound hm hC hops (by simpa using hd) hE hR hN hQ
  | @seqN x y st s1 s2 e _ _ ih1 ih2 =>
    refine good_of (by simp) fun code hok g a w Q hR hN hQ => ?_
    cases code <;> simp only [okC, Bool.false_eq_true] at hok
    simp only [Bool.and_eq_true] at hok
    exact wp_seq (ih1.1 _ hok.1 g a w _ hR hN fun g1 a1 w1 hR1 hF1 hN1 => ih2.1 _ hok.2 g1 a1 w1 Q hR1 hN1 fun g2 a2 w2 hR2 hF2 hN2 => hQ g2 a2 w2 hR2 (hF1.trans hF2) hN2)
  | @seqX x y st s1 e _ he ih =>
    refine good_of (by simp) fun code hok g a w Q hR hN hQ => ?_
    cases code <;> simp only [okC, Bool.false_eq_true] at hok
    simp only [Bool.and_eq_true] at hok
    exact wp_seq (ih.1 _ hok.1 g a w _ hR hN fun g1 a1 w1 hR1 hF1 hN1 => then_exit he (hQ g1 a1 w1 hR1 hF1 hN1))
  | @cond x ca cb st s1 e t hx _ ih =>
    refine good_of (by simp) fun code hok g a w Q hR hN hQ => ?_
    cases code <;> simp only [okC, Bool.false_eq_true] at hok
    simp only [Bool.and_eq_true] at hok
    have hv := ((rx_of hR hok.1.1 hx).rr rfl).inv_v
    refine wp_cond hv ?_
    cases t
    · exact ih.1 _ hok.2 g a w Q hR hN hQ
    · exact ih.1 _ hok.1.2 g a w Q hR hN hQ
  | @block id c st s1 e _ ih =>
    refine good_of (by simp) fun code hok g a w Q hR hN hQ => ?_
    cases code <;> simp only [okC, Bool.false_eq_true] at hok
    simp only [Bool.and_eq_true, beq_iff_eq] at hok
    obtain ⟨rfl, hok⟩ := hok
    refine wp_block (ih.1 _ hok g a w _ hR hN fun g1 a1 w1 hR1 hF1 hN1 => ?_)
    have := hQ g1 a1 w1 hR1 hF1 hN1
    cases e with
    | nor => exact this
    | ret => exact this
    | exit i =>
      simp only [Ex.inBlock] at this
      simp only [Ex.toExit, Exit.inBlock]
      split
      · rename_i h; rw [if_pos h] at this; exact this
      · rename_i h; rw [if_neg h] at this; exact this
  | @loopN c st s1 s2 e _ _ ih1 ih2 =>
    obtain ⟨n, hn⟩ := ih2.2 c rfl
    refine good_loop (n := n + 1) fun code hok g a w Q hR hN hQ => ?_
    rw [rounds_succ]
    exact ih1.1 _ hok g a w _ hR hN fun g1 a1 w1 hR1 hF1 hN1 => hn code hok g1 a1 w1 Q hR1 hN1 fun g2 a2 w2 hR2 hF2 hN2 => hQ g2 a2 w2 hR2 (hF1.trans hF2) hN2
  | @loopX c st s1 e _ he ih =>
    refine good_loop (n := 1) fun code hok g a w Q hR hN hQ => ?_
    rw [rounds_succ]
    exact ih.1 _ hok g a w _ hR hN fun g1 a1 w1 hR1 hF1 hN1 => then_exit he (hQ g1 a1 w1 hR1 hF1 hN1)
  | @exit id st =>
    refine good_of (by simp) fun code hok g a w Q hR hN hQ => ?_
    cases code <;> simp only [okC, Bool.false_eq_true] at hok
    simp only [beq_iff_eq] at hok
    subst hok
    exact wp_exit (hQ g a w hR (.refl _ _) hN)
  | ret =>
    refine good_of (by simp) fun code hok g a w Q hR hN hQ => ?_
    cases code <;> simp only [okC, Bool.false_eq_true] at hok
    exact wp_ret (hQ g a w hR (.refl _ _) hN)
  | weak hle _ ih =>
    refine ⟨fun code hok g a w Q hR hN hQ => ih.1 code hok g a w Q (hR.le hle) hN hQ, fun c' hc => ?_⟩
    obtain ⟨n, hn⟩ := ih.2 c' hc
    exact ⟨n, fun code hok g a w Q hR hN hQ => hn code hok g a w Q (hR.le hle) hN hQ⟩
  | post hle _ ih =>
    refine ⟨fun code hok g a w Q hR hN hQ => ih.1 code hok g a w Q hR hN fun g1 a1 w1 hR1 => hQ g1 a1 w1 (hR1.le hle), fun c' hc => ?_⟩
    obtain ⟨n, hn⟩ := ih.2 c' hc
    exact ⟨n, fun code hok g a w Q hR hN hQ => hn code hok g a w Q hR hN fun g1 a1 w1 hR1 => hQ g1 a1 w1 (hR1.le hle)⟩
end

/-! ## Results -/
def okRes (P : Program) : List ResultVar → List RV → Bool
  | [], [] => true
  | .tmp t :: l, .slot t' :: l' => t == t' && okRes P l l'
  | .cell a ty :: l, .cell d n agg :: l' => a == d && varIs P ty n agg && okRes P l l'
  | _, _ => false
def RV.pos : RV → Pos
  | .slot t => .slot t
  | .cell d _ _ => .box d
/-- Where each kept result's end was claimed. -/
def srcs : List (Option Nat) → List RV → List (Option Pos)
  | _, [] => []
  | k, r :: l => (match k.headD none with | some _ => some r.pos | none => none) :: srcs k.tail l
def srcsOk (l : List (Option Pos)) : Bool := (List.range l.length).all fun k => match l.getD k none with | some q => l.findIdx? (· == some q) == some k | none => true
def moveR (l : List (Option Pos)) : Cl → Cl
  | .row (.slot t) 0 => match l.findIdx? (· == some (.slot t)) with | some k => .row (.ret 0) k | none => .row (.slot t) 0
  | .row (.box d) 0 => match l.findIdx? (· == some (.box d)) with | some k => .row (.ret 0) k | none => .row (.box d) 0
  | c => c
theorem moveR_out {l : List (Option Pos)} (c : Cl) : moveR l c = .out ↔ c = .out := by
  unfold moveR
  split
  · split <;> simp
  · split <;> simp
  · rfl
theorem moveR_obj {l : List (Option Pos)} (i : Nat) : moveR l (.obj i) = .obj i := rfl
theorem moveR_row {l : List (Option Pos)} (i j : Nat) : moveR l (.row (.obj i) j) = .row (.obj i) j := rfl
theorem moveR_free {l : List (Option Pos)} : moveR l .free = .free := rfl

theorem srcs_get : ∀ {k : List (Option Nat)} {l : List RV} {i : Nat} {r : RV} {e : Nat}, l[i]? = some r → k.getD i none = some e → (srcs k l)[i]? = some (some r.pos)
  | k, [], i, r, e, h, _ => by simp at h
  | k, r0 :: l, 0, r, e, h, hk => by
    simp at h
    subst h
    cases k with
    | nil => simp at hk
    | cons a k => simp at hk; subst hk; simp [srcs]
  | k, r0 :: l, i + 1, r, e, h, hk => by
    have := srcs_get (k := k.tail) (l := l) (i := i) (r := r) (e := e) (by simpa using h) (by cases k with | nil => simp at hk | cons a k => simpa using hk)
    simpa [srcs] using this
theorem srcs_move {k : List (Option Nat)} {l : List RV} (hok : srcsOk (srcs k l) = true) {i : Nat} {r : RV} {e : Nat} (h : l[i]? = some r) (hk : k.getD i none = some e) : moveR (srcs k l) (.row r.pos 0) = .row (.ret 0) i := by
  have hg := srcs_get h hk
  have hi := lt_of_get hg
  have := List.all_eq_true.1 hok i (List.mem_range.2 hi)
  rw [List.getD_eq_getElem?_getD, hg] at this
  simp only [Option.getD_some, beq_iff_eq] at this
  cases r <;> simp only [RV.pos, moveR] at this ⊢ <;> rw [this]

section
variable {P : Program} {g : G} {w : World}

theorem passRes1_get : ∀ {ps rs : List PV} {k : List (Option Nat)}, passRes1 k ps = some rs → rs.length = ps.length ∧ ∀ (j : Nat) (c : PV), ps[j]? = some c → ∃ q, rs[j]? = some q ∧ passOne (k.getD j none) c = some q
  | [], rs, k, h => by simp [passRes1] at h; subst h; exact ⟨rfl, fun j c h => by simp at h⟩
  | p :: ps, rs, k, h => by
    simp only [passRes1] at h
    obtain ⟨q, hq, h⟩ := Option.bind_eq_some_iff.1 h
    obtain ⟨r, hr, rfl⟩ := Option.map_eq_some_iff.1 h
    obtain ⟨h1, h2⟩ := passRes1_get hr
    refine ⟨by simp [h1], fun j c hj => ?_⟩
    cases j with
    | zero => simp at hj; subst hj; exact ⟨q, rfl, by cases k <;> simpa using hq⟩
    | succ j =>
      obtain ⟨q', e1, e2⟩ := h2 j c (by simpa using hj)
      exact ⟨q', by simpa using e1, by cases k <;> simpa using e2⟩

theorem res_one {k : Option Nat} {p r : PV} {v : Value} {q : Pos} {f : Cl → Cl} {j : Nat} (h : passOne k p = some r) (hr : Rr g w p v) (ho : Own1 g w q 0 p v) (hf : ∀ e, k = some e → f (.row q 0) = .row (.ret 0) j) :
    Rr (g.re f) w r v ∧ Own1 (g.re f) w (.ret 0) j r v ∧ ∀ cs, r ≠ .tup cs := by
  cases k with
  | none =>
    obtain ⟨rfl, hl, ht⟩ := passOne_none h
    exact ⟨hr.norm.re, .of_ne (fun _ _ _ => norm_own), norm_notTup ht⟩
  | some e =>
    obtain ⟨m, nl, xs, rfl, hm, rfl⟩ := passOne_some h
    refine ⟨(hr.weakSl (by simp) (by simp)).re, ?_, by simp⟩
    have h1 : Own1 g w q 0 (.sl (.sp e) nl xs) v := by
      intro e' nl' xs' hc
      cases hc
      rcases hm with rfl | rfl
      · obtain ⟨A, cap, hu, _, _, _, hf', _⟩ := hr.inv_sl
        exact ⟨A, cap, hu, .inl (hf' rfl)⟩
      · exact ho _ _ _ rfl
    exact h1.re (hf e rfl)

def readVar (tmps : Array Value) : ResultVar → Sem Value
  | .tmp t => pure (tmps.getD t undef)
  | .cell x t => do loadVar t (← asAddr (tmps.getD x undef))

/-- One result, read. -/
theorem res_read {st : St} {a : Go.Act} (hR : Rel g st a w) {rv : ResultVar} {r : RV} (hok : okRes P [rv] [r] = true) {p : PV} (hp : readRV st r = some p) :
    ∃ v, (readVar a.tmps rv).run P w = .ok v w ∧ Rr g w p v ∧ Own1 g w r.pos 0 p v := by
  unfold okRes at hok
  split at hok
  · rename_i heq; cases heq
  · rename_i t l t' l' h1 h2
    cases h1; cases h2
    simp only [Bool.and_eq_true, beq_iff_eq] at hok
    obtain ⟨rfl, _⟩ := hok
    simp only [readRV] at hp
    obtain ⟨q, hq, hp⟩ := Option.bind_eq_some_iff.1 hp
    split at hp
    · cases hp
    · rename_i hnl
      cases hp
      obtain ⟨v, h1, h2⟩ := hR.slots t _ hq
      refine ⟨v, by simp [readVar, h1], ?_⟩
      rcases h2 with ⟨d, o, rfl, _⟩ | ⟨h3, h4⟩
      · simp [PV.isLoc] at hnl
      · exact ⟨h3, h4.1⟩
  · rename_i x ty l d n agg l' h1 h2
    cases h1; cases h2
    simp only [Bool.and_eq_true, beq_iff_eq] at hok
    obtain ⟨⟨rfl, hv⟩, _⟩ := hok
    simp only [readRV] at hp
    split at hp
    · rename_i d' hd
      split at hp
      · rename_i hdd
        subst hdd
        obtain ⟨c, hc, hp1⟩ := Option.bind_eq_some_iff.1 hp
        clear hp
        have hp := hp1
        clear hp1
        split at hp
        · rename_i hlen
          subst hlen
          obtain ⟨u, h1, h2⟩ := hR.slots _ _ hd
          have hu : u = .pointer (some ⟨g.bx d', 0, none⟩) := by
            rcases h2 with ⟨d2, o2, h3, h4⟩ | ⟨h3, _⟩
            · cases h3; exact h4
            · cases h3
          subst hu
          have hcat := hR.boxes _ _ hc
          obtain ⟨us, e1, e2, e3⟩ := hcat.load (off := 0) (n := c.length) (by omega)
          have hrun := run_loadVar (P := P) hv e1 e2
          refine ⟨wholeV agg us, by simp [readVar, h1, asAddr, hrun], one_rr (by simp [e1]) hp (by simpa using e3), ?_⟩
          obtain ⟨vs, ty', fz', k1, k2', k3, k4, k5⟩ := hcat
          have k2 := k2'.2.2 ⟨_, rfl⟩
          cases agg with
          | true =>
            simp [one] at hp
            subst hp
            exact .of_ne (by simp)
          | false =>
            have hn := (varIs_agg hv w).2 rfl
            match c, hn with
            | [x], _ =>
              simp [one] at hp
              subst hp
              have hvs : vs[0]? = some (vs[0]'(by rw [k2]; simp)) := getElem?_pos ..
              have := (k5 0 x _ rfl hvs).2
              match us, e1 with
              | [u], _ =>
                have hcell := e2 0 u rfl
                simp only [World.cell?, k1, Nat.add_zero] at hcell
                rw [hvs] at hcell
                cases hcell
                simpa [wholeV, RV.pos] using this
        · cases hp
      · cases hp
    · cases hp
  · cases hok

theorem okRes_get : ∀ {l : List ResultVar} {l' : List RV}, okRes P l l' = true → l.length = l'.length ∧ ∀ (i : Nat) (x : ResultVar) (y : RV), l[i]? = some x → l'[i]? = some y → okRes P [x] [y] = true
  | [], [], _ => ⟨rfl, fun i x y h => by simp at h⟩
  | x :: l, y :: l', h => by
    have h2 : okRes P [x] [y] = true ∧ okRes P l l' = true := by
      unfold okRes at h
      split at h
      · rename_i heq; cases heq
      · rename_i h1 h2
        cases h1; cases h2
        simp only [Bool.and_eq_true] at h
        exact ⟨by simp [okRes, h.1], h.2⟩
      · rename_i h1 h2
        cases h1; cases h2
        simp only [Bool.and_eq_true] at h
        exact ⟨by simp [okRes, h.1], h.2⟩
      · cases h
    obtain ⟨e1, e2⟩ := okRes_get h2.2
    refine ⟨by simp [e1], fun i a b ha hb => ?_⟩
    cases i with
    | zero => simp at ha hb; subst ha; subst hb; exact h2.1
    | succ i => exact e2 i a b (by simpa using ha) (by simpa using hb)
  | [], _ :: _, h => by simp [okRes] at h
  | _ :: _, [], h => by simp [okRes] at h

theorem readRVs_get {st : St} : ∀ {l : List RV} {ps : List PV}, readRVs st l = some ps → l.length = ps.length ∧ ∀ (i : Nat) (r : RV) (p : PV), l[i]? = some r → ps[i]? = some p → readRV st r = some p ∧ ∀ cs, p ≠ .tup cs
  | [], ps, h => by simp [readRVs] at h; subst h; exact ⟨rfl, fun i r p h => by simp at h⟩
  | r :: l, ps, h => by
    simp only [readRVs] at h
    obtain ⟨p, hp0, h⟩ := Option.bind_eq_some_iff.1 h
    obtain ⟨q, hq, rfl⟩ := Option.map_eq_some_iff.1 h
    obtain ⟨e1, e2⟩ := readRVs_get hq
    have hp : readRV st r = some p ∧ ∀ cs, p ≠ .tup cs := by
      obtain ⟨p0, h0, h1⟩ := Option.bind_eq_some_iff.1 hp0
      cases p0 <;> simp [flatP] at h1 <;> subst h1 <;> exact ⟨h0, by simp⟩
    refine ⟨by simp [e1], fun i a b ha hb => ?_⟩
    cases i with
    | zero => simp at ha hb; subst ha; subst hb; exact hp
    | succ i => exact e2 i a b (by simpa using ha) (by simpa using hb)

theorem run_mapM {α β : Type} {f : α → Sem β} : ∀ {l : List α}, (∀ (i : Nat) (x : α), l[i]? = some x → ∃ v, (f x).run P w = .ok v w) →
    ∃ vs : List β, (l.mapM f).run P w = .ok vs w ∧ l.length = vs.length ∧ ∀ (i : Nat) (x : α) (v : β), l[i]? = some x → vs[i]? = some v → (f x).run P w = .ok v w
  | [], _ => ⟨[], by simp, rfl, fun i x v h => by simp at h⟩
  | x :: l, h => by
    obtain ⟨v, hv⟩ := h 0 x rfl
    obtain ⟨vs, h1, h2, h3⟩ := run_mapM (l := l) fun i y hy => h (i + 1) y (by simpa using hy)
    refine ⟨v :: vs, by simp [List.mapM_cons, hv, h1], by simp [h2], fun i y u hy hu => ?_⟩
    cases i with
    | zero => simp at hy hu; subst hy; subst hu; exact hv
    | succ i => exact h3 i y u (by simpa using hy) (by simpa using hu)

theorem readRes_shape {st : St} {l : List RV} {raw : PV} (h : readRes st l = some raw) : ∃ ps, readRVs st l = some ps ∧ ((∃ p, ps = [p] ∧ raw = p) ∨ (ps.length ≠ 1 ∧ raw = .tup ps)) := by
  obtain ⟨ps, h1, h2⟩ := Option.map_eq_some_iff.1 h
  refine ⟨ps, h1, ?_⟩
  match ps, h2 with
  | [], h2 => exact .inr ⟨by simp, h2.symm⟩
  | [p], h2 => exact .inl ⟨p, rfl, h2.symm⟩
  | _ :: _ :: _, h2 => exact .inr ⟨by simp, h2.symm⟩

/-- The results, as the caller gets them. -/
theorem results_ok {st : St} {a : Go.Act} (hR : Rel g st a w) {func : Func} {l : List RV} {keep : List (Option Nat)} (hok : okRes P func.results.toList l = true) (hs : srcsOk (srcs keep l) = true) {raw res : PV}
    (hr : readRes st l = some raw) (hp : passRes keep raw = some res) :
    ∃ v, (results func a.tmps).run P w = .ok v w ∧ Rr (g.re (moveR (srcs keep l))) w res v ∧ OwnP (g.re (moveR (srcs keep l))) w (.ret 0) res v := by
  obtain ⟨ps, h1, h2⟩ := readRes_shape hr
  obtain ⟨r1, r2⟩ := readRVs_get h1
  obtain ⟨k1, k2⟩ := okRes_get hok
  have hread : ∀ (i : Nat) (x : ResultVar), func.results.toList[i]? = some x → ∃ y p, l[i]? = some y ∧ ps[i]? = some p ∧ ∃ v, (readVar a.tmps x).run P w = .ok v w ∧ Rr g w p v ∧ Own1 g w y.pos 0 p v := by
    intro i x hx
    have hi := lt_of_get hx
    have hl : l[i]? = some (l[i]'(by omega)) := List.getElem?_eq_getElem _
    have hps : ps[i]? = some (ps[i]'(by omega)) := List.getElem?_eq_getElem _
    exact ⟨_, _, hl, hps, res_read hR (k2 i x _ hx hl) (r2 i _ _ hl hps).1⟩
  obtain ⟨vs, hrun, e1, e2⟩ := run_mapM (P := P) (w := w) (l := func.results.toList) (f := readVar a.tmps) fun i x hx => by
    obtain ⟨y, p, _, _, v, h, _⟩ := hread i x hx
    exact ⟨v, h⟩
  have hres : (results func a.tmps).run P w = .ok (if h : vs.toArray.size = 1 then vs.toArray[0] else .tuple vs.toArray) w := by
    have h0 : results func a.tmps = (func.results.mapM (readVar a.tmps) >>= fun vs => pure (if h : vs.size = 1 then vs[0] else .tuple vs)) := rfl
    rw [h0, Array.mapM_eq_mapM_toList]
    simp [bind_map_left, hrun, Sem.run_bind]
  have hone : ∀ (i : Nat) (p : PV) (v : Value), ps[i]? = some p → vs[i]? = some v → ∀ r, passOne (keep.getD i none) p = some r → Rr (g.re (moveR (srcs keep l))) w r v ∧ Own1 (g.re (moveR (srcs keep l))) w (.ret 0) i r v ∧ ∀ cs, r ≠ .tup cs := by
    intro i p v hp' hv r hpass
    have hi := lt_of_get hp'
    have hx : func.results.toList[i]? = some (func.results.toList[i]'(by omega)) := List.getElem?_eq_getElem _
    obtain ⟨y, q, hy, hq, u, h3, h4, h5⟩ := hread i _ hx
    rw [hp'] at hq
    cases hq
    have := e2 i _ v hx hv
    rw [h3] at this
    cases this
    exact res_one hpass h4 h5 fun e he => srcs_move hs hy he
  rcases h2 with ⟨p, rfl, rfl⟩ | ⟨hne, rfl⟩
  · have hlen : vs.length = 1 := by simp at r1; omega
    obtain ⟨v, rfl⟩ := List.length_eq_one_iff.1 hlen
    refine ⟨v, by simpa using hres, ?_⟩
    have hnt : ∀ cs, raw ≠ .tup cs := by
      obtain ⟨y, rfl⟩ := List.length_eq_one_iff.1 (show l.length = 1 by simpa using r1)
      exact (r2 0 y raw rfl rfl).2
    have hp' : passOne (keep.getD 0 none) raw = some res := by
      cases raw <;> first | (rename_i cs; exact absurd rfl (hnt cs)) | (cases keep <;> simpa [passRes] using hp)
    obtain ⟨x1, x2, x3⟩ := hone 0 raw v rfl rfl res hp'
    exact ⟨x1, x2, fun cs us hc => absurd hc (x3 cs)⟩
  · have hlen : vs.length ≠ 1 := by omega
    refine ⟨.tuple vs.toArray, by simpa [hlen] using hres, ?_⟩
    simp only [passRes] at hp
    obtain ⟨rs, hrs, rfl⟩ := Option.map_eq_some_iff.1 hp
    obtain ⟨q1, q2⟩ := passRes1_get hrs
    have hall : ∀ (j : Nat) (c : PV) (u : Value), rs[j]? = some c → vs[j]? = some u → Rr (g.re (moveR (srcs keep l))) w c u ∧ Own1 (g.re (moveR (srcs keep l))) w (.ret 0) j c u := by
      intro j c u hc hu
      have hj : j < ps.length := by have := lt_of_get hc; omega
      have hpj : ps[j]? = some (ps[j]) := List.getElem?_eq_getElem _
      obtain ⟨q, hq, hpass⟩ := q2 j _ hpj
      rw [hc] at hq
      cases hq
      obtain ⟨x1, x2, x3⟩ := hone j _ u hpj hu c hpass
      exact ⟨x1, x2⟩
    refine ⟨.tup (by omega) fun j c u hc hu => (hall j c u hc hu).1, .of_ne (by simp), fun cs us h1 h2 j x y hx hy => ?_⟩
    cases h1
    have : us = vs.toArray := by injection h2 with h2; exact h2.symm
    subst this
    exact (hall j x y hx (by simpa using hy)).2
end
end Go.Pv
