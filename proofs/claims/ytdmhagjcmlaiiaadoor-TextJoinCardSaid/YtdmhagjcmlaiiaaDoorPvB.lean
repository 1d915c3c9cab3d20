/- Pv, part B: what the abstract machine's values and states say of the model's (the relation), and how it is carried along. -/
import Derived.Test.YtdmhagjcmlaiiaaDoorPvA
set_option linter.unusedVariables false
namespace Go.Pv

inductive Pos where
  | slot (s : Nat) | box (d : Nat) | obj (i : Nat) | ret (k : Nat)
  deriving DecidableEq
/-- Who may write a block: nobody here (free), somebody outside, a local variable, an object, the slice at a position (what lies behind its end). -/
inductive Cl where
  | free | out | box (d : Nat) | obj (i : Nat) | row (p : Pos) (j : Nat)
  deriving DecidableEq
structure G where
  fill : Nat → Nat
  cl : Nat → Cl
  bx : Nat → Nat
  mu : Nat → Nat
  n : Nat

inductive Rr (g : G) (w : World) : PV → Value → Prop where
  | v (x : Value) : Rr g w (.v x) x
  | agg {cs : List PV} {vs : List Value} : cs.length = vs.length → (∀ (j : Nat) (c : PV) (u : Value), cs[j]? = some c → vs[j]? = some u → Rr g w c u) → Rr g w (.agg cs) (.agg vs.toArray)
  | tup {cs : List PV} {vs : List Value} : cs.length = vs.length → (∀ (j : Nat) (c : PV) (u : Value), cs[j]? = some c → vs[j]? = some u → Rr g w c u) → Rr g w (.tup cs) (.tuple vs.toArray)
  | nil {m : Own} {nl : Option Bool} {A : Option Addr} {cap : Nat} : (∀ b, nl = some b → A.isNone = b) → (A = none → cap = 0) → (m = .full → cap = 0) → (∀ ad, A = some ad → ad.spot = none) →
      Rr g w (.sl m nl []) (.slice A 0 cap)
  | sl {m : Own} {nl : Option Bool} {xs : List PV} {b o cap sz : Nat} {u : Nat → Nat → Value} : xs ≠ [] → nl ≠ some true → xs.length ≤ cap → (m = .full → cap = xs.length) → o + xs.length * sz ≤ g.fill b →
      (∀ (i : Nat) (p : PV), xs[i]? = some p → p.cells.length = sz ∧ p.cells.all PV.leaf = true) → (∀ (i j : Nat) (p c : PV), xs[i]? = some p → p.cells[j]? = some c → w.cell? ⟨b, o + i * sz + j, none⟩ = some (u i j)) →
      (∀ (i j : Nat) (p c : PV), xs[i]? = some p → p.cells[j]? = some c → Rr g w c (u i j)) → Rr g w (.sl m nl xs) (.slice (some ⟨b, o, none⟩) xs.length cap)
  | el {cs : List PV} {off b o : Nat} {u : Nat → Value} : o + cs.length ≤ g.fill b → (∀ (j : Nat) (c : PV), cs[j]? = some c → w.cell? ⟨b, o + j, none⟩ = some (u j)) → (∀ (j : Nat) (c : PV), cs[j]? = some c → Rr g w c (u j)) →
      Rr g w (.el cs off) (.pointer (some ⟨b, o + off, none⟩))
  | ptr {id off : Nat} : id < g.n → Rr g w (.ptr id off) (.pointer (some ⟨g.mu id, off, none⟩))
  | os {id off len cap : Nat} : id < g.n → Rr g w (.os id off len) (.slice (some ⟨g.mu id, off, none⟩) len cap)
  | clo {f : FuncId} {a b : List PV} {vs us : List Value} : a.length = vs.length → b.length = us.length → (∀ (j : Nat) (c : PV) (u : Value), a[j]? = some c → vs[j]? = some u → Rr g w c u) →
      (∀ (j : Nat) (c : PV) (u : Value), b[j]? = some c → us[j]? = some u → Rr g w c u) → Rr g w (.clo f a b) (.func (.func f) vs.toArray us.toArray)
  | ifc {t : TypeId} {x : PV} {u : Value} : Rr g w x u → Rr g w (.ifc t x) (.iface t u)

/-- What was settled stays. -/
structure Mono (g : G) (w : World) (g' : G) (w' : World) : Prop where
  fill : ∀ b, g.fill b ≤ g'.fill b
  cell : ∀ b i, i < g.fill b → w'.cell? ⟨b, i, none⟩ = w.cell? ⟨b, i, none⟩
  n : g.n ≤ g'.n
  mu : ∀ i, i < g.n → g'.mu i = g.mu i
theorem Mono.refl (g : G) (w : World) : Mono g w g w := ⟨fun _ => Nat.le_refl _, fun _ _ _ => rfl, Nat.le_refl _, fun _ _ => rfl⟩
theorem Mono.trans {g g1 g2 : G} {w w1 w2 : World} (h : Mono g w g1 w1) (k : Mono g1 w1 g2 w2) : Mono g w g2 w2 :=
  ⟨fun b => Nat.le_trans (h.fill b) (k.fill b), fun b i hi => (k.cell b i (Nat.lt_of_lt_of_le hi (h.fill b))).trans (h.cell b i hi), Nat.le_trans h.n k.n,
    fun i hi => (k.mu i (Nat.lt_of_lt_of_le hi h.n)).trans (h.mu i hi)⟩

theorem lt_of_get {α : Type} {l : List α} {i : Nat} {x : α} (h : l[i]? = some x) : i < l.length := (List.getElem?_eq_some_iff.1 h).1

theorem mul_bound {i j n sz : Nat} (hi : i < n) (hj : j < sz) : i * sz + j < n * sz := by
  have : (i + 1) * sz ≤ n * sz := Nat.mul_le_mul_right _ hi
  rw [Nat.add_mul] at this
  omega

theorem Rr.mono {g g' : G} {w w' : World} (hm : Mono g w g' w') {p : PV} {v : Value} (h : Rr g w p v) : Rr g' w' p v := by
  induction h with
  | v x => exact .v x
  | agg hl _ ih => exact .agg hl ih
  | tup hl _ ih => exact .tup hl ih
  | nil h1 h2 h3 h4 => exact .nil h1 h2 h3 h4
  | @sl m nl xs b o cap sz u h1 h2 h3 h4 h5 h6 h7 h8 ih =>
    refine .sl (u := u) h1 h2 h3 h4 (Nat.le_trans h5 (hm.fill b)) h6 (fun i j p c hp hc => ?_) ih
    have := lt_of_get hc
    have := mul_bound (lt_of_get hp) (show j < sz by rw [← (h6 i p hp).1]; exact this)
    rw [hm.cell b _ (by omega)]
    exact h7 i j p c hp hc
  | @el cs off b o u h1 h2 h3 ih =>
    refine .el (u := u) (Nat.le_trans h1 (hm.fill b)) (fun j c hc => ?_) ih
    have := lt_of_get hc
    rw [hm.cell b _ (by omega)]
    exact h2 j c hc
  | ptr h =>
    rw [← hm.mu _ h]
    exact .ptr (Nat.lt_of_lt_of_le h hm.n)
  | os h =>
    rw [← hm.mu _ h]
    exact .os (Nat.lt_of_lt_of_le h hm.n)
  | clo h1 h2 _ _ ih1 ih2 => exact .clo h1 h2 ih1 ih2
  | ifc _ ih => exact .ifc ih

theorem noPtrL_get {l : List PV} (h : PV.noPtrL l = true) : ∀ {j : Nat} {c : PV}, l[j]? = some c → c.noPtr = true := by
  induction l with
  | nil => intro j c hc; simp at hc
  | cons p l ih =>
    intro j c hc
    simp only [PV.noPtrL, Bool.and_eq_true] at h
    cases j with
    | zero => simp at hc; subst hc; exact h.1
    | succ j => exact ih h.2 (by simpa using hc)
theorem noPtrL_of {l : List PV} (h : ∀ c, c ∈ l → c.noPtr = true) : PV.noPtrL l = true := by
  induction l with
  | nil => rfl
  | cons p l ih => simp only [PV.noPtrL, Bool.and_eq_true]; exact ⟨h p (by simp), ih fun c hc => h c (by simp [hc])⟩
theorem noPtr_cells {p : PV} (h : p.noPtr = true) : ∀ {j : Nat} {c : PV}, p.cells[j]? = some c → c.noPtr = true := by
  intro j c hc
  cases p with
  | agg cs => simp only [PV.noPtr] at h; exact noPtrL_get h hc
  | _ => simp [PV.cells] at hc; cases j <;> simp at hc; subst hc; exact h

/-- What bears no object reads so whatever the objects are. -/
theorem Rr.far {g g' : G} {w w' : World} (hf : ∀ b, g.fill b ≤ g'.fill b) (hc : ∀ b i, i < g.fill b → w'.cell? ⟨b, i, none⟩ = w.cell? ⟨b, i, none⟩) {p : PV} {v : Value} (h : Rr g w p v) (hp : p.noPtr = true) : Rr g' w' p v := by
  induction h with
  | v x => exact .v x
  | agg hl _ ih => exact .agg hl fun j c u hj hu => ih j c u hj hu (noPtrL_get (by simpa [PV.noPtr] using hp) hj)
  | tup hl _ ih => exact .tup hl fun j c u hj hu => ih j c u hj hu (noPtrL_get (by simpa [PV.noPtr] using hp) hj)
  | nil h1 h2 h3 h4 => exact .nil h1 h2 h3 h4
  | @sl m nl xs b o cap sz u h1 h2 h3 h4 h5 h6 h7 h8 ih =>
    refine .sl (u := u) h1 h2 h3 h4 (Nat.le_trans h5 (hf b)) h6 (fun i j p c hp' hc' => ?_) (fun i j p c hi hj => ih i j p c hi hj (noPtr_cells (noPtrL_get (by simpa [PV.noPtr] using hp) hi) hj))
    have := lt_of_get hc'
    have := mul_bound (lt_of_get hp') (show j < sz by rw [← (h6 i p hp').1]; exact this)
    rw [hc b _ (by omega)]
    exact h7 i j p c hp' hc'
  | @el cs off b o u h1 h2 h3 ih =>
    refine .el (u := u) (Nat.le_trans h1 (hf b)) (fun j c hj => ?_) (fun j c hj => ih j c hj (noPtrL_get (by simpa [PV.noPtr] using hp) hj))
    have := lt_of_get hj
    rw [hc b _ (by omega)]
    exact h2 j c hj
  | ptr h => simp [PV.noPtr] at hp
  | os h => simp [PV.noPtr] at hp
  | clo h1 h2 _ _ ih1 ih2 =>
    simp only [PV.noPtr, Bool.and_eq_true] at hp
    exact .clo h1 h2 (fun j c u hj hu => ih1 j c u hj hu (noPtrL_get hp.1 hj)) (fun j c u hj hu => ih2 j c u hj hu (noPtrL_get hp.2 hj))
  | ifc _ ih => exact .ifc (ih (by simpa [PV.noPtr] using hp))

/-- The slice's end: it alone writes behind it, or there is nothing behind it. -/
def Own1 (g : G) (w : World) (p : Pos) (j : Nat) (c : PV) (u : Value) : Prop :=
  ∀ e nl xs, c = .sl (.sp e) nl xs → ∃ A cap, u = .slice A xs.length cap ∧
    (cap = xs.length ∨ ∃ b o vs ty, A = some ⟨b, o, none⟩ ∧ g.cl b = .row p j ∧ g.fill b = o + xs.length * e ∧ w.heap[b]? = some (.cells vs ty (0, 0)) ∧ o + cap * e ≤ vs.size)
def OwnP (g : G) (w : World) (p : Pos) (c : PV) (u : Value) : Prop :=
  Own1 g w p 0 c u ∧ ∀ cs vs, c = .tup cs → u = .tuple vs → ∀ (j : Nat) (x : PV) (y : Value), cs[j]? = some x → vs[j]? = some y → Own1 g w p j x y
def RSlot (g : G) (w : World) (s : Nat) (p : PV) (v : Value) : Prop :=
  (∃ d off, p = .loc d off ∧ v = .pointer (some ⟨g.bx d, off, none⟩)) ∨ (Rr g w p v ∧ OwnP g w (.slot s) p v)
/-- The cells have room, none of them frozen; a local variable fills its block. -/
def Room (cl : Cl) (n size : Nat) (fz : Nat × Nat) : Prop := n ≤ size ∧ (fz.2 = 0 ∨ size ≤ fz.1) ∧ ((∃ d, cl = .box d) → size = n)
theorem Room.whole {cl : Cl} {n size : Nat} (h : size = n) : Room cl n size (0, 0) := ⟨by omega, .inl rfl, fun _ => h⟩
theorem Room.len {cl : Cl} {n n' size : Nat} {fz : Nat × Nat} (h : Room cl n size fz) (e : n' = n) : Room cl n' size fz := by subst e; exact h
/-- A variable of cells c lies at block k, claimed as cl. -/
def CellsAt (g : G) (w : World) (k : Nat) (cl : Cl) (p : Pos) (c : List PV) : Prop :=
  ∃ vs ty fz, w.heap[k]? = some (.cells vs ty fz) ∧ Room cl c.length vs.size fz ∧ g.cl k = cl ∧ g.fill k = 0 ∧ ∀ j x u, c[j]? = some x → vs[j]? = some u → Rr g w x u ∧ Own1 g w p j x u

structure Rel (g : G) (st : St) (a : Go.Act) (w : World) : Prop where
  slots : ∀ t p, st.env t = some p → ∃ v, a.tmps[t]? = some v ∧ RSlot g w t p v
  boxes : ∀ d c, st.box d = some c → CellsAt g w (g.bx d) (.box d) (.box d) c
  num : st.mem.length = g.n
  objs : ∀ (i : Nat) (c : List PV), st.mem[i]? = some c → CellsAt g w (g.mu i) (.obj i) (.obj i) c
  wf : ∀ t d o, st.env t = some (.loc d o) → ∃ c, st.box d = some c
  gw : ∀ b, 0 < g.fill b → ∃ vs ty fr, w.heap[b]? = some (.cells vs ty fr) ∧ g.fill b ≤ vs.size
  fr : ∀ b, w.heap.size ≤ b → g.cl b = .free ∧ g.fill b = 0
  defers : a.defers = []

/-- What a piece of the run leaves to those outside. -/
structure Fwd (g : G) (w : World) (g' : G) (w' : World) : Prop where
  mono : Mono g w g' w'
  os : w'.os = w.os
  tape : w'.tape = w.tape
  output : w'.output = w.output
  size : w.heap.size ≤ w'.heap.size
  out : ∀ b, g.cl b = .out → b < w.heap.size → w'.heap[b]? = w.heap[b]? ∧ g'.cl b = .out ∧ g'.fill b = g.fill b
  back : ∀ b, g'.cl b = .out → g.cl b = .out
theorem Fwd.refl (g : G) (w : World) : Fwd g w g w := ⟨.refl _ _, rfl, rfl, rfl, Nat.le_refl _, fun _ h _ => ⟨rfl, h, rfl⟩, fun _ h => h⟩
theorem Fwd.trans {g g1 g2 : G} {w w1 w2 : World} (h : Fwd g w g1 w1) (k : Fwd g1 w1 g2 w2) : Fwd g w g2 w2 :=
  ⟨h.mono.trans k.mono, k.os.trans h.os, k.tape.trans h.tape, k.output.trans h.output, Nat.le_trans h.size k.size,
    fun b hb hl => by
      obtain ⟨h1, h2, h3⟩ := h.out b hb hl
      obtain ⟨k1, k2, k3⟩ := k.out b h2 (Nat.lt_of_lt_of_le hl h.size)
      exact ⟨k1.trans h1, k2, k3.trans h3⟩,
    fun b hb => h.back b (k.back b hb)⟩

/-- One operation's step: what others own stays as it is; the slots in K let go. -/
structure Keep (K : Nat → Prop) (g : G) (w : World) (g' : G) (w' : World) : Prop extends Fwd g w g' w' where
  row : ∀ b p j, g.cl b = .row p j → (∀ s, p = .slot s → ¬ K s) → g'.cl b = .row p j ∧ g'.fill b = g.fill b ∧ w'.heap[b]? = w.heap[b]?
  box : ∀ b d, g.cl b = .box d → g'.cl b = .box d ∧ g'.fill b = g.fill b ∧ w'.heap[b]? = w.heap[b]?
  obj : ∀ b i, g.cl b = .obj i → g'.cl b = .obj i ∧ g'.fill b = g.fill b ∧ w'.heap[b]? = w.heap[b]?
  bx : g'.bx = g.bx
  gmu : g'.mu = g.mu
  gn : g'.n = g.n
  gw : (∀ b, 0 < g.fill b → ∃ vs ty fr, w.heap[b]? = some (.cells vs ty fr) ∧ g.fill b ≤ vs.size) → (∀ b, 0 < g'.fill b → ∃ vs ty fr, w'.heap[b]? = some (.cells vs ty fr) ∧ g'.fill b ≤ vs.size)
  fr : (∀ b, w.heap.size ≤ b → g.cl b = .free ∧ g.fill b = 0) → (∀ b, w'.heap.size ≤ b → g'.cl b = .free ∧ g'.fill b = 0)
theorem Keep.refl (K : Nat → Prop) (g : G) (w : World) : Keep K g w g w :=
  ⟨.refl _ _, fun _ _ _ h _ => ⟨h, rfl, rfl⟩, fun _ _ h => ⟨h, rfl, rfl⟩, fun _ _ h => ⟨h, rfl, rfl⟩, rfl, rfl, rfl, fun h => h, fun h => h⟩

theorem Own1.keep {K : Nat → Prop} {g g' : G} {w w' : World} (hk : Keep K g w g' w') {p : Pos} (hp : ∀ s, p = .slot s → ¬ K s) {j : Nat} {c : PV} {u : Value} (h : Own1 g w p j c u) : Own1 g' w' p j c u := by
  intro e nl xs hc
  obtain ⟨A, cap, hu, h | ⟨b, o, vs, ty, hA, hcl, hf, hh, hs⟩⟩ := h e nl xs hc
  · exact ⟨A, cap, hu, .inl h⟩
  · obtain ⟨k1, k2, k3⟩ := hk.row b p j hcl hp
    exact ⟨A, cap, hu, .inr ⟨b, o, vs, ty, hA, k1, by rw [k2]; exact hf, by rw [k3]; exact hh, hs⟩⟩
theorem OwnP.keep {K : Nat → Prop} {g g' : G} {w w' : World} (hk : Keep K g w g' w') {p : Pos} (hp : ∀ s, p = .slot s → ¬ K s) {c : PV} {u : Value} (h : OwnP g w p c u) : OwnP g' w' p c u :=
  ⟨h.1.keep hk hp, fun cs vs h1 h2 j x y hx hy => (h.2 cs vs h1 h2 j x y hx hy).keep hk hp⟩
theorem RSlot.keep {K : Nat → Prop} {g g' : G} {w w' : World} (hk : Keep K g w g' w') {s : Nat} (hs : ¬ K s) {c : PV} {u : Value} (h : RSlot g w s c u) : RSlot g' w' s c u := by
  rcases h with ⟨d, off, rfl, rfl⟩ | ⟨h1, h2⟩
  · exact .inl ⟨d, off, rfl, by rw [hk.bx]⟩
  · exact .inr ⟨h1.mono hk.mono, h2.keep hk (fun s' hs' => by cases hs'; exact hs)⟩
theorem CellsAt.keep {K : Nat → Prop} {g g' : G} {w w' : World} (hk : Keep K g w g' w') {k : Nat} {cl : Cl} {p : Pos} (hp : ∀ s, p ≠ .slot s) {c : List PV} (h : CellsAt g w k cl p c)
    (hcl : (∃ d, cl = .box d) ∨ (∃ i, cl = .obj i)) : CellsAt g' w' k cl p c := by
  obtain ⟨vs, ty, fz, h1, h2, h3, h4, h5⟩ := h
  have hh : g'.cl k = cl ∧ g'.fill k = g.fill k ∧ w'.heap[k]? = w.heap[k]? := by
    rcases hcl with ⟨d, rfl⟩ | ⟨i, rfl⟩
    · exact hk.box k d h3
    · exact hk.obj k i h3
  exact ⟨vs, ty, fz, hh.2.2.trans h1, h2, hh.1, hh.2.1.trans h4, fun j x u hx hu => ⟨(h5 j x u hx hu).1.mono hk.mono, (h5 j x u hx hu).2.keep hk (fun s hs => absurd hs (hp s))⟩⟩

/-- After an operation: its slots emptied, its result laid. -/
theorem Rel.put {g g' : G} {st : St} {a : Go.Act} {w w' : World} (h : Rel g st a w) {K : List Nat} (hk : Keep (· ∈ K) g w g' w') {dst : Option Nat} {p : PV} {v : Value}
    (hsz : ∀ d, dst = some d → d < a.tmps.size) (hv : ∀ d, dst = some d → RSlot g' w' d p v) (hl : ∀ d o, p = .loc d o → ∃ c, st.box d = some c) : Rel g' ((st.kill K).put dst p) (a.put dst v) w' := by
  have hs : ∀ t q, (st.kill K).env t = some q → ∃ v, a.tmps[t]? = some v ∧ RSlot g' w' t q v := by
    intro t q hq
    simp only [St.kill] at hq
    split at hq
    · cases hq
    · rename_i hn
      obtain ⟨v, h1, h2⟩ := h.slots t q hq
      exact ⟨v, h1, h2.keep hk hn⟩
  have hbox : ∀ d c, st.box d = some c → CellsAt g' w' (g'.bx d) (.box d) (.box d) c := fun d c hc => by
    rw [hk.bx]
    exact (h.boxes d c hc).keep hk (fun s => by simp) (.inl ⟨d, rfl⟩)
  have hobj : ∀ (i : Nat) (c : List PV), st.mem[i]? = some c → CellsAt g' w' (g'.mu i) (.obj i) (.obj i) c := fun i c hc => by
    rw [hk.gmu]
    exact (h.objs i c hc).keep hk (fun s => by simp) (.inr ⟨i, rfl⟩)
  have hwf : ∀ t d o, (st.kill K).env t = some (.loc d o) → ∃ c, st.box d = some c := by
    intro t d o hq
    simp only [St.kill] at hq
    split at hq
    · cases hq
    · exact h.wf t d o hq
  cases dst with
  | none => exact ⟨hs, hbox, by rw [hk.gn]; exact h.num, hobj, hwf, hk.gw h.gw, hk.fr h.fr, h.defers⟩
  | some d =>
    refine ⟨fun t q hq => ?_, hbox, by rw [hk.gn]; exact h.num, hobj, fun t d' o hq => ?_, hk.gw h.gw, hk.fr h.fr, h.defers⟩
    · simp only [St.put, upd] at hq
      split at hq
      · rename_i e
        subst e
        cases hq
        exact ⟨v, by simp [Act.put, hsz t rfl], hv t rfl⟩
      · rename_i hne
        obtain ⟨u, h1, h2⟩ := hs t q hq
        exact ⟨u, by simp [Act.put, Array.getElem?_setIfInBounds_ne (Ne.symm hne)]; exact h1, h2⟩
    · simp only [St.put, upd] at hq
      split at hq
      · cases hq
        exact hl d' o rfl
      · exact hwf t d' o hq
end Go.Pv
