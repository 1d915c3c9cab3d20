/- Pv, part J: weaker states, the world's draws, and one operation whatever its kind; calls by the contract. -/
import Derived.Test.YtdmhagjcmlaiiaaDoorPvI
set_option linter.unusedVariables false
set_option linter.unusedSimpArgs false
namespace Go.Pv

theorem Own1.wk {g : G} {w : World} {q : Pos} {j : Nat} {p0 p : PV} {u : Value} (hw : Wk1 p0 p) (hr : Rr g w p u) (h : Own1 g w q j p u) : Own1 g w q j p0 u := by
  cases hw with
  | refl => exact h
  | @sl m m0 nl nl0 xs hm hn =>
    intro e nl' xs' hc
    cases hc
    cases m with
    | ro => simp [Own.le] at hm
    | full =>
      obtain ⟨A, cap, hu, _, _, _, hf, _⟩ := hr.inv_sl
      exact ⟨A, cap, hu, .inl (hf rfl)⟩
    | sp e' =>
      simp [Own.le] at hm
      subst hm
      exact h _ _ _ rfl
theorem Rr.wk1 {g : G} {w : World} {p0 p : PV} {u : Value} (hw : Wk1 p0 p) (hr : Rr g w p u) : Rr g w p0 u := by
  cases hw with
  | refl => exact hr
  | @sl m m0 nl nl0 xs hm hn =>
    refine hr.weakSl (fun h => ?_) (fun b hb => ?_)
    · subst h; cases m <;> simp [Own.le] at hm ⊢
    · rcases hn with rfl | rfl
      · cases hb
      · exact hb
theorem WkL.get : ∀ {l0 l : List PV}, WkL l0 l → l0.length = l.length ∧ ∀ (j : Nat) (p0 : PV), l0[j]? = some p0 → ∃ p, l[j]? = some p ∧ Wk1 p0 p
  | _, _, .nil => ⟨rfl, fun j p0 h => by simp at h⟩
  | _, _, .cons h t => ⟨by simp [t.get.1], fun j p0 hj => by
      cases j with
      | zero => simp at hj; subst hj; exact ⟨_, rfl, h⟩
      | succ j => exact t.get.2 j p0 (by simpa using hj)⟩
theorem Wk1.loc {p : PV} {d o : Nat} (h : Wk1 (.loc d o) p) : p = .loc d o := by cases h; rfl
theorem Wk1.loc' {p0 : PV} {d o : Nat} (h : Wk1 p0 (.loc d o)) : p0 = .loc d o := by cases h; rfl
theorem RSlot.wk {g : G} {w : World} {s : Nat} {p0 p : PV} {u : Value} (hw : Wk p0 p) (h : RSlot g w s p u) : RSlot g w s p0 u := by
  cases hw with
  | one hw =>
    rcases h with ⟨d, off, rfl, rfl⟩ | ⟨h1, h2⟩
    · exact .inl ⟨d, off, hw.loc', rfl⟩
    · refine .inr ⟨h1.wk1 hw, h2.1.wk hw h1, ?_⟩
      cases hw with
      | refl => exact h2.2
      | sl _ _ => intro cs vs hc; cases hc
  | agg hl =>
    rcases h with ⟨d, off, h, _⟩ | ⟨h1, h2⟩
    · cases h
    · obtain ⟨vs, rfl, hlen, hv⟩ := h1.inv_agg
      refine .inr ⟨.agg (hl.get.1.trans hlen) (fun j c u hc hu => ?_), ownP_of (by simp) (by simp)⟩
      obtain ⟨p, hp, hw⟩ := hl.get.2 j c hc
      exact (hv j p u hp hu).wk1 hw
theorem CellsAt.wk {g : G} {w : World} {k : Nat} {cl : Cl} {q : Pos} {c0 c : List PV} (hl : WkL c0 c) (h : CellsAt g w k cl q c) : CellsAt g w k cl q c0 := by
  obtain ⟨vs, ty, fz, h1, h2, h3, h4, h5⟩ := h
  refine ⟨vs, ty, fz, h1, h2.len hl.get.1, h3, h4, fun j x u hx hu => ?_⟩
  obtain ⟨p, hp, hw⟩ := hl.get.2 j x hx
  exact ⟨(h5 j p u hp hu).1.wk1 hw, (h5 j p u hp hu).2.wk hw (h5 j p u hp hu).1⟩
theorem Rel.le {g : G} {s0 st : St} {a : Go.Act} {w : World} (hl : Le s0 st) (h : Rel g st a w) : Rel g s0 a w := by
  refine ⟨fun t p0 hp => ?_, fun d c0 hc => ?_, hl.mem.1.trans h.num, fun i c0 hc => ?_, hl.wf, h.gw, h.fr, h.defers⟩
  · obtain ⟨p, hp', hw⟩ := hl.env t p0 hp
    obtain ⟨v, h1, h2⟩ := h.slots t p hp'
    exact ⟨v, h1, h2.wk hw⟩
  · obtain ⟨c, hc', hw⟩ := hl.box d c0 hc
    exact (h.boxes d c hc').wk hw
  · obtain ⟨c, hc', hw⟩ := hl.mem.2 i c0 hc
    exact (h.objs i c hc').wk hw

/-- The count of draws goes up: nothing else. -/
theorem keep_drawn {K : Nat → Prop} {g : G} {w : World} {n : Nat} : Keep K g w g { w with drawn := n } := by
  have hc : ∀ b i, ({ w with drawn := n } : World).cell? ⟨b, i, none⟩ = w.cell? ⟨b, i, none⟩ := fun b i => cell_of_heap rfl
  exact ⟨⟨⟨fun _ => Nat.le_refl _, fun b i _ => hc b i, Nat.le_refl _, fun _ _ => rfl⟩, rfl, rfl, rfl, Nat.le_refl _, fun _ h _ => ⟨rfl, h, rfl⟩, fun _ h => h⟩,
    fun _ _ _ h _ => ⟨h, rfl, rfl⟩, fun _ _ h => ⟨h, rfl, rfl⟩, fun _ _ h => ⟨h, rfl, rfl⟩, rfl, rfl, rfl, fun h => h, fun h => h⟩
theorem Rel.drawn {g : G} {st : St} {a : Go.Act} {w : World} (h : Rel g st a w) (n : Nat) : Rel g st a { w with drawn := n } := by
  have := h.put (K := []) (dst := none) (p := undefP) (v := undef) (keep_drawn (n := n)) (by simp) (by simp) (by simp [undefP])
  rw [kill_nil] at this
  exact this

theorem put_size (a : Go.Act) (d : Option Nat) (v : Value) : (a.put d v).tmps.size = a.tmps.size := by cases d <;> simp [Act.put]

/-- A call, run to its result. -/
def CallGo (P : Program) (f : FuncId) (args : Array Value) (w : World) (R : Value → World → Prop) : Prop :=
  ((callFunc f args).run P w = .ok (.enter f args) w ∧ Calls P f args w (fun | .returned v, w' => R v w' | _, _ => False)) ∨ ∃ v w', (callFunc f args).run P w = .ok (.value v) w' ∧ R v w'

structure Settled (g : G) (w : World) (m : Mem) : Prop where
  num : m.length = g.n
  objs : ∀ (i : Nat) (c : List PV), m[i]? = some c → CellsAt g w (g.mu i) (.obj i) (.obj i) c
  gw : ∀ b, 0 < g.fill b → ∃ vs ty fr, w.heap[b]? = some (.cells vs ty fr) ∧ g.fill b ≤ vs.size
  fr : ∀ b, w.heap.size ≤ b → g.cl b = .free ∧ g.fill b = 0
theorem Rel.settled {g : G} {st : St} {a : Go.Act} {w : World} (h : Rel g st a w) : Settled g w st.mem := ⟨h.num, h.objs, h.gw, h.fr⟩

/-- The first blocks of the heap, the outside's: how many, and what is known of them. -/
structure Ix where
  N : Nat
  I : (Nat → Option Obj) → Prop
def Ix.none : Ix := ⟨0, fun _ => True⟩
def Fix (J : Ix) (g : G) (w : World) : Prop := J.N ≤ w.heap.size ∧ (∀ b, b < J.N → g.cl b = .out) ∧ ∃ φ, J.I φ ∧ ∀ b, b < J.N → w.heap[b]? = φ b
theorem Fix.fwd {J : Ix} {g g' : G} {w w' : World} (h : Fix J g w) (hf : Fwd g w g' w') : Fix J g' w' := by
  obtain ⟨h1, h2, φ, h3, h4⟩ := h
  refine ⟨Nat.le_trans h1 hf.size, fun b hb => (hf.out b (h2 b hb) (by omega)).2.1, φ, h3, fun b hb => ?_⟩
  rw [(hf.out b (h2 b hb) (by omega)).1]
  exact h4 b hb
def Sz (J : Ix) (N : Nat) (g : G) (a : Go.Act) (w : World) : Prop := a.tmps.size = N ∧ Fix J g w
theorem Sz.fwd {J : Ix} {N : Nat} {g g' : G} {a : Go.Act} {w w' : World} (h : Sz J N g a w) (hf : Fwd g w g' w') : Sz J N g' a w' := ⟨h.1, h.2.fwd hf⟩

/-- The contract of a function at these arguments and objects. -/
def CallOk (P : Program) (J : Ix) (f : FuncId) (as : List PV) (m : Mem) (res : PV) (m' : Mem) : Prop :=
  ∀ (g : G) (w : World) (vs : List Value), as.length = vs.length → (∀ (j : Nat) (c : PV) (u : Value), as[j]? = some c → vs[j]? = some u → Rr g w c u ∧ OwnP g w (.slot j) c u) → Settled g w m → Fix J g w →
    CallGo P f vs.toArray w fun v w' => ∃ g', Fwd g w g' w' ∧ Rr g' w' res v ∧ OwnP g' w' (.ret 0) res v ∧ Settled g' w' m'

def okGuard (ops : Array Oper) : Option (Nat × Bool) → Option (Nat × Bool) → Bool
  | none, none => true
  | some (j, b), some (t, b') => b == b' && ((ops[j]?).bind (·.dst)) == some t
  | _, _ => false
def okAct (P : Program) (op : Op) (o : O) : Bool :=
  match o.act.kind with
  | .pure => okA P op o.act o.ins && okKill o.act o.ins o.kill
  | .box _ | .mem => okE P op o.act o.ins o.dst o.kill
  | .call _ => match op with
    | .call { callee := .value f, args, .. } => okXs (f :: args.toList) o.ins
    | _ => false
def okO (P : Program) (N : Nat) (ops : Array Oper) (oper : Oper) (o : O) : Bool :=
  oper.dst == o.dst && (match o.dst with | some d => decide (d < N) | none => true) && okGuard ops oper.guard o.guard && okAct P oper.op o

theorem Rr.inv_bool {g : G} {w : World} {p : PV} {b : Bool} (h : Rr g w p (.bool b)) : p = .v (.bool b) := by cases h; rfl

theorem wanted_of {ops : Array Oper} {oper : Oper} {o : O} (hok : okGuard ops oper.guard o.guard = true) {g : G} {st : St} {a : Go.Act} {w : World} (hR : Rel g st a w) {b : Bool} (hw : wanted st.env o.guard = some b) :
    Region.wanted oper (yielded ops a.tmps) = b := by
  unfold okGuard at hok
  split at hok
  · rename_i h1 h2
    rw [h2] at hw
    simp [wanted] at hw
    subst hw
    simp [Region.wanted, h1]
  · rename_i j c t c' h1 h2
    simp only [Bool.and_eq_true, beq_iff_eq] at hok
    obtain ⟨rfl, hj⟩ := hok
    rw [h2] at hw
    simp only [wanted] at hw
    have hy : yielded ops a.tmps j = (match a.tmps[t]? with | some (.bool b) => some b | _ => none) := by
      simp only [yielded, hj, Option.bind_some]
      cases a.tmps[t]? with
      | none => rfl
      | some v => cases v <;> rfl
    split at hw
    · rename_i x hx
      obtain ⟨v, hv, hs⟩ := hR.slots _ _ hx
      simp at hw
      rcases hs with ⟨_, _, h, _⟩ | ⟨hr, _⟩
      · cases h
      · cases hr
        rw [hv] at hy
        simp only at hy
        simp only [Region.wanted, h1, hy]
        rw [← hw]
        cases x <;> cases c <;> rfl
    · rename_i p hp hx
      simp at hw
      subst hw
      obtain ⟨v, hv, hs⟩ := hR.slots _ _ hx
      have hnb : ∀ b, v ≠ .bool b := by
        rintro b rfl
        rcases hs with ⟨_, _, _, h⟩ | ⟨hr, _⟩
        · cases h
        · exact hp b hr.inv_bool
      rw [hv] at hy
      have hy' : yielded ops a.tmps j = none := by
        rw [hy]
        split
        · rename_i b hb
          cases hb
          exact absurd rfl (hnb b)
        · rfl
      simp only [Region.wanted, h1, hy']
      cases c <;> rfl
    · cases hw
  · cases hok

/-! ## A call -/

/-- What the callee is shown of the claims. -/
def shown (own : Option (Nat × Nat)) (s : Option Nat) (pure : Bool) : Cl → Cl
  | .free => .free
  | .out => .out
  | .box _ => .out
  | .obj i => if pure then .out else .obj i
  | .row (.obj i) j => if pure then .out else .row (.obj i) j
  | .row (.slot t) j => match own, s with
    | some (i, _), some s => if t = s ∧ j = 0 then .row (.slot i) 0 else .out
    | _, _ => .out
  | .row _ _ => .out
def G.give (g : G) (own : Option (Nat × Nat)) (s : Option Nat) (pure : Bool) : G := { g with cl := fun b => shown own s pure (g.cl b), n := if pure then 0 else g.n }
/-- What comes back of them. -/
def takenB (pure : Bool) (dst : Option Nat) : Cl → Cl
  | .obj i => if pure then .free else .obj i
  | .row (.obj i) j => if pure then .free else .row (.obj i) j
  | .row (.ret 0) j => match dst with | some d => .row (.slot d) j | none => .free
  | _ => .free
def G.back (g gc g' : G) (size : Nat) (pure : Bool) (dst : Option Nat) : G :=
  { fill := g'.fill, cl := fun b => if b < size ∧ gc.cl b = .out then g.cl b else takenB pure dst (g'.cl b), bx := g.bx, mu := if pure then g.mu else g'.mu, n := if pure then g.n else g'.n }

theorem shown_out {own : Option (Nat × Nat)} {s : Option Nat} {p : Bool} {c : Cl} (h : c = .out) : shown own s p c = .out := by subst h; rfl

section
variable {P : Program} {g g' : G} {w w' : World} {own : Option (Nat × Nat)} {s : Option Nat} {pure : Bool} {dst : Option Nat}

theorem takenB_out (c : Cl) : takenB pure dst c ≠ .out := by
  unfold takenB
  split
  · split <;> simp
  · split <;> simp
  · split <;> simp
  · simp

theorem give_fix {J : Ix} {g : G} {w : World} {own : Option (Nat × Nat)} {s : Option Nat} {pure : Bool} (h : Fix J g w) : Fix J (g.give own s pure) w := by
  obtain ⟨h1, h2, h3⟩ := h
  refine ⟨h1, fun b hb => ?_, h3⟩
  show shown own s pure (g.cl b) = _
  rw [h2 b hb]
  rfl
theorem give_settled {m : Mem} (h : Settled g w m) (hp : pure = false) : Settled (g.give own s pure) w m := by
  subst hp
  have hm : Mono g w (g.give own s false) w := ⟨fun _ => Nat.le_refl _, fun _ _ _ => rfl, Nat.le_refl _, fun _ _ => rfl⟩
  refine ⟨by simp [G.give]; exact h.num, fun i c hc => ?_, h.gw, fun b hb => ⟨by simp [G.give, (h.fr b hb).1, shown], (h.fr b hb).2⟩⟩
  obtain ⟨vs, ty, fz, h1, h2, h3, h4, h5⟩ := h.objs i c hc
  refine ⟨vs, ty, fz, h1, h2, by show shown own s false (g.cl (g.mu i)) = _; rw [h3]; rfl, h4, fun j x u hx hu => ⟨(h5 j x u hx hu).1.mono hm, ?_⟩⟩
  intro e nl xs hx'
  obtain ⟨A, cap, hu', h | ⟨b, o, vs', ty', hA, hcl, hf, hh, hs⟩⟩ := (h5 j x u hx hu).2 e nl xs hx'
  · exact ⟨A, cap, hu', .inl h⟩
  · exact ⟨A, cap, hu', .inr ⟨b, o, vs', ty', hA, by show shown own s false (g.cl b) = _; rw [hcl]; rfl, hf, hh, hs⟩⟩
theorem give_settled_pure {m : Mem} (h : Settled g w m) (hp : pure = true) : Settled (g.give own s pure) w [] := by
  subst hp
  exact ⟨by simp [G.give], fun i c hc => by simp at hc, h.gw, fun b hb => ⟨by simp [G.give, (h.fr b hb).1, shown], (h.fr b hb).2⟩⟩

/-- After the call, seen by the caller. -/
theorem back_fwd (hf : Fwd (g.give own s pure) w g' w') : Fwd g w (g.back (g.give own s pure) g' w.heap.size pure dst) w' := by
  refine ⟨⟨hf.mono.fill, hf.mono.cell, ?_, ?_⟩, hf.os, hf.tape, hf.output, hf.size, fun b hb hl => ?_, fun b hb => ?_⟩
  · cases pure
    · exact hf.mono.n
    · exact Nat.le_refl _
  · intro i hi
    cases pure
    · exact hf.mono.mu i hi
    · rfl
  · have ho : (g.give own s pure).cl b = .out := shown_out hb
    obtain ⟨h1, h2, h3⟩ := hf.out b ho hl
    exact ⟨h1, by simp only [G.back]; rw [if_pos ⟨hl, ho⟩]; exact hb, h3⟩
  · simp only [G.back] at hb
    split at hb
    · exact hb
    · exact absurd hb (takenB_out _)

/-- What the callee was not shown is as it was. -/
theorem back_out (hf : Fwd (g.give own s pure) w g' w') {b : Nat} (hl : b < w.heap.size) (ho : (g.give own s pure).cl b = .out) :
    (g.back (g.give own s pure) g' w.heap.size pure dst).cl b = g.cl b ∧ (g.back (g.give own s pure) g' w.heap.size pure dst).fill b = g.fill b ∧ w'.heap[b]? = w.heap[b]? := by
  obtain ⟨h1, h2, h3⟩ := hf.out b ho hl
  exact ⟨by simp only [G.back]; rw [if_pos ⟨hl, ho⟩], h3, h1⟩

theorem heap_lt {b : Nat} {o : Obj} (h : w.heap[b]? = some o) : b < w.heap.size := by
  rcases Nat.lt_or_ge b w.heap.size with h' | h'
  · exact h'
  · rw [Array.getElem?_eq_none h'] at h; cases h

theorem back_own (hf : Fwd (g.give own s pure) w g' w') {q : Pos} {j : Nat} (hq : shown own s pure (.row q j) = .out) {p : PV} {v : Value} (h : Own1 g w q j p v) :
    Own1 (g.back (g.give own s pure) g' w.heap.size pure dst) w' q j p v := by
  intro e nl xs hx'
  obtain ⟨A, cap, hu', h | ⟨b, o, vs', ty', hA, hcl, hfl, hh, hs⟩⟩ := h e nl xs hx'
  · exact ⟨A, cap, hu', .inl h⟩
  · obtain ⟨k1, k2, k3⟩ := back_out (dst := dst) hf (heap_lt hh) (by show shown own s pure (g.cl b) = _; rw [hcl]; exact hq)
    exact ⟨A, cap, hu', .inr ⟨b, o, vs', ty', hA, k1.trans hcl, k2.trans hfl, k3.trans hh, hs⟩⟩
theorem back_ownP (hf : Fwd (g.give own s pure) w g' w') {q : Pos} (hq : ∀ j, shown own s pure (.row q j) = .out) {p : PV} {v : Value} (h : OwnP g w q p v) :
    OwnP (g.back (g.give own s pure) g' w.heap.size pure dst) w' q p v :=
  ⟨back_own hf (hq 0) h.1, fun cs vs h1 h2 j x y hx hy => back_own hf (hq j) (h.2 cs vs h1 h2 j x y hx hy)⟩
theorem back_cells (hf : Fwd (g.give own s pure) w g' w') {q : Pos} {cl : Cl} (hq : ∀ j, shown own s pure (.row q j) = .out) (hcl : shown own s pure cl = .out) {k : Nat} {c : List PV} (h : CellsAt g w k cl q c) :
    CellsAt (g.back (g.give own s pure) g' w.heap.size pure dst) w' k cl q c := by
  obtain ⟨vs, ty, fz, h1, h2, h3, h4, h5⟩ := h
  obtain ⟨k1, k2, k3⟩ := back_out (dst := dst) hf (heap_lt h1) (by show shown own s pure (g.cl k) = _; rw [h3]; exact hcl)
  exact ⟨vs, ty, fz, k3.trans h1, h2, k1.trans h3, k2.trans h4, fun j x u hx hu => ⟨(h5 j x u hx hu).1.mono (back_fwd hf).mono, back_own hf (hq j) (h5 j x u hx hu).2⟩⟩

/-- Not of the caller's: it was claimed by the callee when it ended. -/
theorem back_new (hf : Fwd (g.give own s pure) w g' w') {b : Nat} (ho : g'.cl b ≠ .out) : (g.back (g.give own s pure) g' w.heap.size pure dst).cl b = takenB pure dst (g'.cl b) := by
  simp only [G.back]
  rw [if_neg]
  rintro ⟨hl, h⟩
  exact ho (hf.out b h hl).2.1
theorem back_mono (hp : pure = false) : Mono g' w' (g.back (g.give own s pure) g' w.heap.size pure dst) w' := by
  subst hp
  exact ⟨fun _ => Nat.le_refl _, fun _ _ _ => rfl, Nat.le_refl _, fun _ _ => rfl⟩
theorem back_res_own (hf : Fwd (g.give own s pure) w g' w') {d : Nat} (hd : dst = some d) {j : Nat} {p : PV} {v : Value} (h : Own1 g' w' (.ret 0) j p v) :
    Own1 (g.back (g.give own s pure) g' w.heap.size pure dst) w' (.slot d) j p v := by
  intro e nl xs hx'
  obtain ⟨A, cap, hu', h | ⟨b, o, vs', ty', hA, hcl, hfl, hh, hs⟩⟩ := h e nl xs hx'
  · exact ⟨A, cap, hu', .inl h⟩
  · refine ⟨A, cap, hu', .inr ⟨b, o, vs', ty', hA, ?_, hfl, hh, hs⟩⟩
    rw [back_new hf (by rw [hcl]; simp), hcl, hd]
    rfl
theorem back_obj (hf : Fwd (g.give own s pure) w g' w') (hp : pure = false) {i : Nat} {c : List PV} (h : CellsAt g' w' (g'.mu i) (.obj i) (.obj i) c) :
    CellsAt (g.back (g.give own s pure) g' w.heap.size pure dst) w' (g'.mu i) (.obj i) (.obj i) c := by
  obtain ⟨vs, ty, fz, h1, h2, h3, h4, h5⟩ := h
  refine ⟨vs, ty, fz, h1, h2, ?_, h4, fun j x u hx hu => ⟨(h5 j x u hx hu).1.mono (back_mono hp), ?_⟩⟩
  · rw [back_new hf (by rw [h3]; simp), h3]
    simp [takenB, hp]
  · intro e nl xs hx'
    obtain ⟨A, cap, hu', h | ⟨b, o, vs', ty', hA, hcl, hfl, hh, hs⟩⟩ := (h5 j x u hx hu).2 e nl xs hx'
    · exact ⟨A, cap, hu', .inl h⟩
    · refine ⟨A, cap, hu', .inr ⟨b, o, vs', ty', hA, ?_, hfl, hh, hs⟩⟩
      rw [back_new hf (by rw [hcl]; simp), hcl]
      simp [takenB, hp]

/-- The caller's state after a call. -/
theorem back_rel {st : St} {a : Go.Act} (hR : Rel g st a w) {K : List Nat} (hs : ∀ t, s = some t → t ∈ K) (hf : Fwd (g.give own s pure) w g' w') {m' : Mem} (hm : Settled g' w' m') (hpm : pure = true → m' = [] ∨ True)
    (hsz : ∀ d, dst = some d → d < a.tmps.size) {p : PV} {v : Value} (hv : Rr (g.back (g.give own s pure) g' w.heap.size pure dst) w' p v) (ho : OwnP g' w' (.ret 0) p v) :
    Rel (g.back (g.give own s pure) g' w.heap.size pure dst) (((if pure then st.kill K else (st.kill K).setMem m')).put dst p) (a.put dst v) w' := by
  have hslot : ∀ t, t ∉ K → ∀ j, shown own s pure (.row (.slot t) j) = .out := by
    intro t ht j
    unfold shown
    split <;> try rfl
    · rename_i heq; cases heq
    all_goals (try (rename_i heq; cases heq))
    all_goals try rfl
    split
    · rename_i h1 h2
      rw [if_neg]
      rintro ⟨rfl, _⟩
      exact ht (hs _ rfl)
    · rfl
  have hnl : p.isLoc = false := hv.notLoc
  have henv : ∀ t q, (((if pure then st.kill K else (st.kill K).setMem m')).put dst p).env t = some q → (dst = some t ∧ q = p) ∨ (t ∉ K ∧ st.env t = some q ∧ dst ≠ some t) := by
    intro t q hq
    have he : ((if pure then st.kill K else (st.kill K).setMem m')).env = (st.kill K).env := by cases pure <;> rfl
    cases dst with
    | none =>
      simp only [St.put, he] at hq
      exact .inr ⟨(hR.slots_kill K t q hq).1, (hR.slots_kill K t q hq).2, by simp⟩
    | some d =>
      simp only [St.put, upd, he] at hq
      split at hq
      · rename_i e
        cases hq
        exact .inl ⟨by rw [e], rfl⟩
      · rename_i hne
        exact .inr ⟨(hR.slots_kill K t q hq).1, (hR.slots_kill K t q hq).2, by simp; exact Ne.symm hne⟩
  have hbox : ∀ d c, (((if pure then st.kill K else (st.kill K).setMem m')).put dst p).box d = some c ↔ st.box d = some c := by
    intro d c
    cases pure <;> cases dst <;> exact Iff.rfl
  have hmem : (((if pure then st.kill K else (st.kill K).setMem m')).put dst p).mem = if pure then st.mem else m' := by
    cases pure <;> cases dst <;> rfl
  refine ⟨fun t q hq => ?_, fun d c hc => ?_, ?_, fun i c hc => ?_, fun t d o hq => ?_, hm.gw, fun b hb => ?_, by cases dst <;> exact hR.defers⟩
  · rcases henv t q hq with ⟨hd, rfl⟩ | ⟨hK, hq, hne⟩
    · subst hd
      exact ⟨v, by simp [Act.put, hsz t rfl], .inr ⟨hv, back_res_own hf rfl ho.1, fun cs vs h1 h2 j x y hx hy => back_res_own hf rfl (ho.2 cs vs h1 h2 j x y hx hy)⟩⟩
    · obtain ⟨u, h1, h2⟩ := hR.slots t q hq
      refine ⟨u, ?_, ?_⟩
      · cases dst with
        | none => exact h1
        | some d => simp [Act.put, Array.getElem?_setIfInBounds_ne (show d ≠ t by rintro rfl; exact hne rfl)]; exact h1
      · rcases h2 with ⟨d, off, e1, e2⟩ | ⟨h3, h4⟩
        · exact .inl ⟨d, off, e1, e2⟩
        · exact .inr ⟨h3.mono (back_fwd hf).mono, back_ownP hf (hslot t hK) h4⟩
  · exact back_cells hf (fun j => rfl) rfl (hR.boxes d c ((hbox d c).1 hc))
  · rw [hmem]
    cases pure
    · exact hm.num
    · exact hR.num
  · rw [hmem] at hc
    cases hp : pure
    · subst hp
      exact back_obj hf rfl (hm.objs i c hc)
    · subst hp
      exact back_cells hf (fun j => rfl) rfl (hR.objs i c hc)
  · rcases henv t _ hq with ⟨hd, rfl⟩ | ⟨hK, hq, hne⟩
    · simp [PV.isLoc] at hnl
    · obtain ⟨c, hc⟩ := hR.wf t d o hq
      exact ⟨c, (hbox d c).2 hc⟩
  · refine ⟨?_, (hm.fr b hb).2⟩
    rw [back_new hf (by rw [(hm.fr b hb).1]; simp), (hm.fr b hb).1]
    rfl
end
end Go.Pv
