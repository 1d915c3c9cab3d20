/- Pv, part H: variables in memory and objects. -/
import Derived.Test.YtdmhagjcmlaiiaaDoorPvG
set_option linter.unusedVariables false
set_option linter.unusedSimpArgs false
namespace Go.Pv
section
variable {P : Program} {o : Oper} {a : Go.Act} {w w' : World} {g g' : G} {st : St}

/-- Cells of a variable, loaded. -/
theorem CellsAt.load {k : Nat} {cl : Cl} {p : Pos} {c : List PV} (h : CellsAt g w k cl p c) {off n : Nat} (hle : off + n ≤ c.length) : ∃ us : List Value, us.length = n ∧ Lies w k off us ∧
    ∀ (j : Nat) (x : PV) (u : Value), ((c.drop off).take n)[j]? = some x → us[j]? = some u → Rr g w x u := by
  obtain ⟨vs, ty, fz, h1, h2, h3, h4, h5⟩ := h
  have hroom := h2.1
  refine ⟨(vs.toList.drop off).take n, by simp; omega, fun j u hu => ?_, fun j x u hx hu => ?_⟩
  · have hj := lt_of_get hu
    simp at hj
    rw [List.getElem?_take_of_lt (by omega), List.getElem?_drop] at hu
    simp [World.cell?, h1]
    simpa using hu
  · have hj := lt_of_get hu
    simp at hj
    rw [List.getElem?_take_of_lt (by omega), List.getElem?_drop] at hx hu
    exact (h5 _ x u hx (by simpa using hu)).1

/-- A change in block k alone, whose cells nobody reads and whose end nobody owns. -/
structure In (k : Nat) (g : G) (w w' : World) : Prop where
  os : w'.os = w.os
  tape : w'.tape = w.tape
  output : w'.output = w.output
  size : w'.heap.size = w.heap.size
  heap : ∀ b, b ≠ k → w'.heap[b]? = w.heap[b]?
  fill : g.fill k = 0
  cl : (∃ d, g.cl k = .box d) ∨ ∃ i, g.cl k = .obj i
theorem In.mono {k : Nat} (h : In k g w w') : Mono g w g w' := ⟨fun _ => Nat.le_refl _, fun b i hi => cell_of_heap (h.heap b (by rintro rfl; rw [h.fill] at hi; omega)), Nat.le_refl _, fun _ _ => rfl⟩
theorem In.notRow {k : Nat} (h : In k g w w') {b : Nat} {q : Pos} {j : Nat} (hb : g.cl b = .row q j) : b ≠ k := by
  rintro rfl
  rcases h.cl with ⟨d, h⟩ | ⟨i, h⟩ <;> rw [h] at hb <;> cases hb
theorem Own1.in_ {k : Nat} (hk : In k g w w') {q : Pos} {j : Nat} {p : PV} {v : Value} (h : Own1 g w q j p v) : Own1 g w' q j p v := by
  intro e nl xs hc
  obtain ⟨A, cap, hu, h | ⟨b, off, vs, ty, hA, hcl, hf, hh, hs⟩⟩ := h e nl xs hc
  · exact ⟨A, cap, hu, .inl h⟩
  · exact ⟨A, cap, hu, .inr ⟨b, off, vs, ty, hA, hcl, hf, by rw [hk.heap b (hk.notRow hcl)]; exact hh, hs⟩⟩
theorem OwnP.in_ {k : Nat} (hk : In k g w w') {q : Pos} {p : PV} {v : Value} (h : OwnP g w q p v) : OwnP g w' q p v := ⟨h.1.in_ hk, fun cs vs h1 h2 j x y hx hy => (h.2 cs vs h1 h2 j x y hx hy).in_ hk⟩
theorem RSlot.in_ {k : Nat} (hk : In k g w w') {s : Nat} {p : PV} {v : Value} (h : RSlot g w s p v) : RSlot g w' s p v := by
  rcases h with h | ⟨h1, h2⟩
  · exact .inl h
  · exact .inr ⟨h1.mono hk.mono, h2.in_ hk⟩
theorem CellsAt.in_ {k k' : Nat} (hk : In k g w w') {cl : Cl} {q : Pos} {c : List PV} (h : CellsAt g w k' cl q c) (hne : k' ≠ k) : CellsAt g w' k' cl q c := by
  obtain ⟨vs, ty, fz, h1, h2, h3, h4, h5⟩ := h
  exact ⟨vs, ty, fz, (hk.heap k' hne).trans h1, h2, h3, h4, fun j x u hx hu => ⟨(h5 j x u hx hu).1.mono hk.mono, (h5 j x u hx hu).2.in_ hk⟩⟩
theorem In.fwd {k : Nat} (h : In k g w w') : Fwd g w g w' :=
  ⟨h.mono, h.os, h.tape, h.output, by rw [h.size]; exact Nat.le_refl _, fun b hb _ => ⟨h.heap b (by rintro rfl; rcases h.cl with ⟨d, h⟩ | ⟨i, h⟩ <;> rw [h] at hb <;> cases hb), hb, rfl⟩, fun _ h => h⟩

theorem setRow_in {k : Nat} {vs : Array Value} {ty : TypeId} {fz : Nat × Nat} {cs : Array Value} (h : w.heap[k]? = some (.cells vs ty fz)) (hf : g.fill k = 0) (hc : (∃ d, g.cl k = .box d) ∨ ∃ i, g.cl k = .obj i) : In k g w (w.setRow k cs) :=
  ⟨rfl, rfl, rfl, by simp [World.setRow], fun b hb => setRow_other w k b cs hb, hf, hc⟩

/-- 'run_storeCells_at', the row's frozen range, if any, behind its cells. -/
theorem run_storeCells_fz (P : Program) (g o : Nat) (t : TypeId) (fz : Nat × Nat) : ∀ (vs : List Value) (i : Nat) (cur : Array Value) (w : World), w.heap[g]? = some (.cells cur t fz) → (fz.2 = 0 ∨ cur.size ≤ fz.1) → o + i + vs.length ≤ cur.size → (∀ v ∈ vs, v.oneCell' = true) →
    (storeCells ⟨g, o, none⟩ vs i).run P w = .ok () (w.setRow g (cur.toList.take (o + i) ++ vs ++ cur.toList.drop (o + i + vs.length)).toArray)
  | [], i, cur, w, hg, _, _, _ => by
    simp only [storeCells, List.append_nil, List.length_nil, Nat.add_zero, List.take_append_drop, Array.toArray_toList]
    rw [setRow_self w g cur t fz hg]
    rfl
  | v :: rest, i, cur, w, hg, hfz, hl, h1 => by
    have hi : o + i < cur.size := by simp at hl; omega
    have hadd : (⟨g, o, none⟩ : Addr).add i = ⟨g, o + i, none⟩ := by unfold Addr.add; split <;> simp_all
    have hcell : w.cell? ⟨g, o + i, none⟩ = some cur[o + i] := by simp [World.cell?, hg, hi]
    have hfro : w.frozen? ⟨g, o + i, none⟩ = false := by
      obtain ⟨lo, hi'⟩ := fz
      simp only [World.frozen?, hg, Bool.and_eq_false_iff, decide_eq_false_iff_not]
      simp only at hfz
      omega
    have hst : (store ((⟨g, o, none⟩ : Addr).add i) v).run P w = .ok () (w.setRow g (cur.setIfInBounds (o + i) v)) := by
      rw [hadd, run_store P w _ v _ (h1 v (by simp)), hcell]
      simp [hfro, setCell_eq_setRow w g (o + i) cur t fz v hg]
    have ih := run_storeCells_fz P g o t fz rest (i + 1) (cur.setIfInBounds (o + i) v) (w.setRow g (cur.setIfInBounds (o + i) v)) (setRow_heap w g cur _ t _ hg) (by simpa using hfz) (by simp at hl ⊢; omega) (fun x hx => h1 x (by simp [hx]))
    simp only [storeCells, Sem.run_bind, hst, Result.andThen_ok, ih, setRow_setRow]
    congr 3
    have e := list_seg_step cur.toList (o + i) v rest (by simp at hl ⊢; omega)
    simpa [Array.toList_setIfInBounds, Nat.add_assoc] using e

/-- Cells of a variable, stored. -/
theorem CellsAt.store {k : Nat} {cl : Cl} {q : Pos} {c : List PV} (h : CellsAt g w k cl q c) (hcl : (∃ d, g.cl k = .box d) ∨ ∃ i, g.cl k = .obj i) {off : Nat} {xs : List PV} {us : List Value} (hl : xs.length = us.length) (hle : off + xs.length ≤ c.length) (h1 : ∀ u ∈ us, u.oneCell' = true)
    (hr : ∀ (j : Nat) (x : PV) (u : Value), xs[j]? = some x → us[j]? = some u → Rr g w x u ∧ Own1 g w q (off + j) x u) :
    ∃ w', (storeCells ⟨k, off, none⟩ us).run P w = .ok () w' ∧ In k g w w' ∧ CellsAt g w' k cl q (splice c off xs) := by
  obtain ⟨vs, ty, fz, e1, e2, e3, e4, e5⟩ := h
  have hle' : off + us.length ≤ vs.toList.length := by have := e2.1; simp; omega
  have hrun := run_storeCells_fz P k off ty fz us 0 vs w e1 e2.2.1 (by simpa using hle') h1
  simp only [Nat.add_zero] at hrun
  have hin := setRow_in (g := g) (cs := (vs.toList.take off ++ us ++ vs.toList.drop (off + us.length)).toArray) e1 e4 hcl
  refine ⟨_, hrun, hin, (splice vs.toList off us).toArray, ty, fz, setRow_heap w k vs _ ty _ e1, ?_, e3, e4, fun j x u hx hu => ?_⟩
  · rw [List.size_toArray, splice_length hle', splice_length hle]; simpa using e2
  · rw [List.getElem?_toArray, splice_get hle'] at hu
    rw [splice_get hle] at hx
    rw [hl] at hx
    split at hx
    · rename_i hj
      rw [if_pos hj] at hu
      obtain ⟨r1, r2⟩ := hr _ x u hx hu
      rw [show off + (j - off) = j by omega] at r2
      exact ⟨r1.mono hin.mono, r2.in_ hin⟩
    · rename_i hj
      rw [if_neg hj] at hu
      obtain ⟨r1, r2⟩ := e5 j x u hx (by simpa using hu)
      exact ⟨r1.mono hin.mono, r2.in_ hin⟩

/-- A claim of part j of q handed to slot d; nobody else's turns. -/
def moveQ (q : Pos) (j : Nat) (q' : Pos) (j' : Nat) : Cl → Cl
  | .row p i => if p = q ∧ i = j then .row q' j' else .row p i
  | c => c
theorem CellsAt.re {k : Nat} {cl : Cl} {q : Pos} {c c' : List PV} {f : Cl → Cl} (h : CellsAt g w k cl q c) (hf : f cl = cl) (hlen : c'.length = c.length) (hc : ∀ (j : Nat) (x' : PV) (u : Value), c'[j]? = some x' → (∀ x, c[j]? = some x → Rr g w x u ∧ Own1 g w q j x u) → Rr g w x' u ∧ Own1 (g.re f) w q j x' u) :
    CellsAt (g.re f) w k cl q c' := by
  obtain ⟨vs, ty, fz, h1, h2, h3, h4, h5⟩ := h
  refine ⟨vs, ty, fz, h1, h2.len hlen, by show f (g.cl k) = cl; rw [h3, hf], h4, fun j x u hx hu => ?_⟩
  obtain ⟨r1, r2⟩ := hc j x u hx fun x' hx' => h5 j x' u hx' hu
  exact ⟨r1.re, r2⟩
theorem CellsAt.reSame {k : Nat} {cl : Cl} {q : Pos} {c : List PV} {f : Cl → Cl} (h : CellsAt g w k cl q c) (hf : f cl = cl) (hq : ∀ j, f (.row q j) = .row q j) : CellsAt (g.re f) w k cl q c :=
  h.re hf rfl fun j x u hx h => ⟨(h x hx).1, (h x hx).2.re (hq j)⟩
theorem RSlot.reSame {s : Nat} {p : PV} {v : Value} {f : Cl → Cl} (h : RSlot g w s p v) (hq : ∀ j, f (.row (.slot s) j) = .row (.slot s) j) : RSlot (g.re f) w s p v := by
  rcases h with h | ⟨h1, h2⟩
  · exact .inl h
  · exact .inr ⟨h1.re, h2.1.re (hq 0), fun cs vs e1 e2 j x y hx hy => (h2.2 cs vs e1 e2 j x y hx hy).re (hq j)⟩
theorem fwd_re {f : Cl → Cl} (h : ∀ c, f c = .out ↔ c = .out) : Fwd g w (g.re f) w :=
  ⟨⟨fun _ => Nat.le_refl _, fun _ _ _ => rfl, Nat.le_refl _, fun _ _ => rfl⟩, rfl, rfl, rfl, Nat.le_refl _, fun b hb _ => ⟨rfl, (h _).2 hb, rfl⟩, fun b hb => (h _).1 hb⟩
theorem moveQ_out {q q' : Pos} {j j' : Nat} : ∀ c, moveQ q j q' j' c = .out ↔ c = .out := by
  intro c
  cases c <;> simp [moveQ]
  split <;> simp

/-- What the state is made of, put together again. -/
theorem Rel.slots_kill (h : Rel g st a w) (K : List Nat) : ∀ t p, (st.kill K).env t = some p → t ∉ K ∧ st.env t = some p := by
  intro t p hp
  simp only [St.kill] at hp
  split at hp
  · cases hp
  · rename_i hn; exact ⟨hn, hp⟩

/-- One operation, run: to a value or to nothing, into a world that fits the next state. -/
def Runs (P : Program) (o : Oper) (a : Go.Act) (w : World) (g : G) (st1 : St) : Prop :=
  ∃ v w' g', ((execOp a.eval o).run P w = .ok (.value v) w' ∨ ((execOp a.eval o).run P w = .ok .skip w' ∧ v = undef)) ∧ Rel g' st1 (a.put o.dst v) w' ∧ Fwd g w g' w'

theorem Does.runs {K : List Nat} {p : PV} {dst : Option Nat} (h : Does P o a w g st K p) (hR : Rel g st a w) (hd : o.dst = dst) (hsz : ∀ d, dst = some d → d < a.tmps.size) : Runs P o a w g ((st.kill K).put dst p) := by
  obtain ⟨v, w', g', h1, h2, h3, h4⟩ := h
  subst hd
  exact ⟨v, w', g', .inl h1, hR.put h2 hsz h3 h4, h2.toFwd⟩

theorem kill_nil (s : St) : s.kill [] = s := by cases s; simp [St.kill]
theorem setBox_same {s : St} {d : Nat} {c : List PV} (h : s.box d = some c) : s.setBox d c = s := by
  cases s
  simp only [St.setBox, St.mk.injEq, true_and, and_true]
  funext t
  simp only [upd]
  split
  · rename_i h1; subst h1; exact h.symm
  · rfl
theorem set_same {α : Type} {l : List α} {i : Nat} {c : α} (h : l[i]? = some c) : l.set i c = l := by
  apply List.ext_getElem?
  intro j
  rw [List.getElem?_set]
  split
  · rename_i h1; subst h1; rw [if_pos (lt_of_get h), h]
  · rfl

/-- A new variable of the function's own. -/
theorem rel_new_box (h : Rel g st a w) {d : Nat} (hb : st.box d = none) (hd : d < a.tmps.size) (K : List Nat) {cs : List PV} {vs : Array Value} {ty : TypeId} (hl : vs.size = cs.length)
    (hr : ∀ (j : Nat) (x : PV) (u : Value), cs[j]? = some x → vs[j]? = some u → Rr g w x u ∧ ∀ e nl xs, x ≠ .sl (.sp e) nl xs) :
    ∃ g', Rel g' (((st.kill K).setBox d cs).put (some d) (.loc d 0)) (a.put (some d) (.pointer (some ⟨w.heap.size, 0, none⟩))) (w.alloc (.cells vs ty)) ∧ Fwd g w g' (w.alloc (.cells vs ty)) := by
  have hn : NewBlock w (w.alloc (.cells vs ty)) (.cells vs ty (0, 0)) := ⟨rfl, rfl, rfl, rfl⟩
  have hk := keep_new (K := (· ∈ K)) hn (f := 0) (c := .box d) (Nat.zero_le _) (by simp) h.gw h.fr
  let g' : G := { g.new w.heap.size 0 (.box d) with bx := fun t => if t = d then w.heap.size else g.bx t }
  have hm : Mono g w g' (w.alloc (.cells vs ty)) := ⟨hk.mono.fill, hk.mono.cell, hk.mono.n, hk.mono.mu⟩
  have hm2 : Mono (g.new w.heap.size 0 (.box d)) (w.alloc (.cells vs ty)) g' (w.alloc (.cells vs ty)) := ⟨fun _ => Nat.le_refl _, fun _ _ _ => rfl, Nat.le_refl _, fun _ _ => rfl⟩
  have rr : ∀ {p : PV} {v : Value}, Rr g w p v → Rr g' (w.alloc (.cells vs ty)) p v := fun hp => hp.mono hm
  have ow : ∀ {q : Pos} {j : Nat} {p : PV} {v : Value}, (∀ s, q = .slot s → s ∉ K) → Own1 g w q j p v → Own1 g' (w.alloc (.cells vs ty)) q j p v := fun hq ho => ho.keep hk hq
  have cat : ∀ {k : Nat} {cl : Cl} {q : Pos} {c : List PV}, (∀ s, q ≠ .slot s) → ((∃ d, cl = .box d) ∨ ∃ i, cl = .obj i) → CellsAt g w k cl q c → CellsAt g' (w.alloc (.cells vs ty)) k cl q c := by
    intro k cl q c hq hcl hc
    obtain ⟨vs', ty', fz', h1, h2, h3, h4, h5⟩ := hc.keep hk hq hcl
    obtain ⟨vs2, ty2, fz2, e1, e2, e3, e4, e5⟩ := hc
    exact ⟨vs', ty', fz', h1, h2, h3, h4, fun j x u hx hu => ⟨((h5 j x u hx hu).1).mono hm2, (h5 j x u hx hu).2⟩⟩
  have noloc : ∀ t d' o', st.env t = some (.loc d' o') → d' ≠ d := fun t d' o' ht hdd => by
    obtain ⟨c, hc⟩ := h.wf t d' o' ht
    rw [hdd, hb] at hc
    cases hc
  refine ⟨g', ⟨fun t p hp => ?_, fun d' c hc => ?_, h.num, fun i c hc => ?_, fun t d' o' ht => ?_, hk.gw h.gw, hk.fr h.fr, h.defers⟩, ⟨⟨hk.mono.fill, hk.mono.cell, hk.mono.n, hk.mono.mu⟩, rfl, rfl, rfl, hk.size, hk.out, hk.back⟩⟩
  · simp only [St.put, upd] at hp
    split at hp
    · rename_i e
      subst e
      cases hp
      exact ⟨.pointer (some ⟨w.heap.size, 0, none⟩), by simp [Act.put, hd], .inl ⟨t, 0, rfl, by simp [g']⟩⟩
    · rename_i hne
      obtain ⟨hnk, hp⟩ := Rel.slots_kill h K t p hp
      obtain ⟨v, h1, h2⟩ := h.slots t p hp
      refine ⟨v, by simp [Act.put, Array.getElem?_setIfInBounds_ne (Ne.symm hne)]; exact h1, ?_⟩
      rcases h2 with ⟨d', o', rfl, rfl⟩ | ⟨h2, h3⟩
      · exact .inl ⟨d', o', rfl, by simp [g', noloc t d' o' hp]⟩
      · exact .inr ⟨rr h2, ow (fun s hs => by cases hs; exact hnk) h3.1, fun cs vs e1 e2 j x y hx hy => ow (fun s hs => by cases hs; exact hnk) (h3.2 cs vs e1 e2 j x y hx hy)⟩
  · simp only [St.put, St.setBox, St.kill, upd] at hc
    split at hc
    · rename_i e
      subst e
      cases hc
      refine ⟨vs, ty, (0, 0), ?_, Room.whole hl, by simp [g', G.new], by simp [g', G.new], fun j x u hx hu => ⟨rr (hr j x u hx hu).1, .of_ne (hr j x u hx hu).2⟩⟩
      simp only [g', if_true]
      exact hn.at_
    · rename_i hne
      simp only [g', hne, if_false]
      exact cat (by simp) (.inl ⟨_, rfl⟩) (h.boxes d' c hc)
  · exact cat (by simp) (.inr ⟨_, rfl⟩) (h.objs i c hc)
  · simp only [St.put, upd] at ht
    split at ht
    · cases ht
      exact ⟨cs, by simp [St.put, St.setBox, upd]⟩
    · obtain ⟨hnk, hp⟩ := Rel.slots_kill h K t _ ht
      obtain ⟨c, hc⟩ := h.wf t d' o' hp
      exact ⟨c, by simp [St.put, St.setBox, St.kill, upd, noloc t d' o' hp, hc]⟩

/-- A new object. -/
theorem rel_new_objG {w' : World} (h : Rel g st a w) {dst : Option Nat} (hd : ∀ d, dst = some d → d < a.tmps.size) (K : List Nat) {cs : List PV} {vs : Array Value} {ty : TypeId} {fz : Nat × Nat} (hn : NewBlock w w' (.cells vs ty fz)) (hl : Room (.obj g.n) cs.length vs.size fz)
    (hr : ∀ (j : Nat) (x : PV) (u : Value), cs[j]? = some x → vs[j]? = some u → Rr g w x u ∧ ∀ e nl xs, x ≠ .sl (.sp e) nl xs)
    {q : PV} {v : Value} (hq : ∀ g' : G, g'.mu st.mem.length = w.heap.size → st.mem.length < g'.n → Rr g' w' q v) (hql : ∀ d o, q ≠ .loc d o) (hqs : ∀ m nl xs, q ≠ .sl m nl xs) (hqt : ∀ l, q ≠ .tup l) :
    ∃ g', Rel g' (((st.kill K).setMem (st.mem ++ [cs])).put dst q) (a.put dst v) w' ∧ Fwd g w g' w' := by
  have hk := keep_new (K := (· ∈ K)) hn (f := 0) (c := .obj g.n) (Nat.zero_le _) (by simp) h.gw h.fr
  let g' : G := { g.new w.heap.size 0 (.obj g.n) with mu := fun i => if i = g.n then w.heap.size else g.mu i, n := g.n + 1 }
  have hm : Mono g w g' w' := ⟨hk.mono.fill, hk.mono.cell, Nat.le_succ _, fun i hi => by simp [g', Nat.ne_of_lt hi]⟩
  have hm2 : Mono (g.new w.heap.size 0 (.obj g.n)) w' g' w' := ⟨fun _ => Nat.le_refl _, fun _ _ _ => rfl, Nat.le_succ _, fun i hi => by
    have : i ≠ g.n := Nat.ne_of_lt hi
    simp [g', G.new, this]⟩
  have ow : ∀ {q : Pos} {j : Nat} {p : PV} {v : Value}, (∀ s, q = .slot s → s ∉ K) → Own1 g w q j p v → Own1 g' w' q j p v := fun hq ho => ho.keep hk hq
  have cat : ∀ {k : Nat} {cl : Cl} {q : Pos} {c : List PV}, (∀ s, q ≠ .slot s) → ((∃ d, cl = .box d) ∨ ∃ i, cl = .obj i) → CellsAt g w k cl q c → CellsAt g' w' k cl q c := by
    intro k cl q c hq hcl hc
    obtain ⟨vs', ty', fz', h1, h2, h3, h4, h5⟩ := hc.keep hk hq hcl
    exact ⟨vs', ty', fz', h1, h2, h3, h4, fun j x u hx hu => ⟨((h5 j x u hx hu).1).mono hm2, (h5 j x u hx hu).2⟩⟩
  have hnum := h.num
  refine ⟨g', ⟨fun t p hp => ?_, fun d' c hc => ?_, by cases dst <;> simp [St.put, St.setMem, g', hnum], fun i c hc => ?_, fun t d' o' ht => ?_, hk.gw h.gw, hk.fr h.fr, ?_⟩, ⟨hm, hn.os, hn.tape, hn.output, hk.size, hk.out, hk.back⟩⟩
  · have old : ∀ t p, (st.kill K).env t = some p → (∀ d, dst = some d → t ≠ d) → ∃ v', (a.put dst v).tmps[t]? = some v' ∧ RSlot g' w' t p v' := by
      intro t p hp hne
      obtain ⟨hnk, hp⟩ := Rel.slots_kill h K t p hp
      obtain ⟨v, h1, h2⟩ := h.slots t p hp
      refine ⟨v, ?_, ?_⟩
      · cases dst with
        | none => exact h1
        | some d => simp [Act.put, Array.getElem?_setIfInBounds_ne (Ne.symm (hne d rfl))]; exact h1
      rcases h2 with ⟨d', o', rfl, rfl⟩ | ⟨h2, h3⟩
      · exact .inl ⟨d', o', rfl, rfl⟩
      · exact .inr ⟨h2.mono hm, ow (fun s hs => by cases hs; exact hnk) h3.1, fun cs vs e1 e2 j x y hx hy => ow (fun s hs => by cases hs; exact hnk) (h3.2 cs vs e1 e2 j x y hx hy)⟩
    cases dst with
    | none => exact old t p hp (by simp)
    | some d =>
      simp only [St.put, upd] at hp
      split at hp
      · rename_i e
        subst e
        cases hp
        exact ⟨v, by simp [Act.put, hd t rfl], .inr ⟨hq g' (by simp [g', hnum]) (by simp [g', hnum]), ownP_of (fun e nl xs => hqs _ nl xs) hqt⟩⟩
      · rename_i hne
        exact old t p hp (fun d' hd' => by cases hd'; exact hne)
  · have hc' : st.box d' = some c := by cases dst <;> exact hc
    exact cat (by simp) (.inl ⟨_, rfl⟩) (h.boxes d' c hc')
  · have hc' : (st.mem ++ [cs])[i]? = some c := by cases dst <;> exact hc
    rcases Nat.lt_or_ge i st.mem.length with hi | hi
    · rw [List.getElem?_append_left hi] at hc'
      have : i ≠ g.n := by omega
      simp only [g', this, if_false]
      exact cat (by simp) (.inr ⟨_, rfl⟩) (h.objs i c hc')
    · have hi' : i = st.mem.length := by have := lt_of_get hc'; simp at this; omega
      subst hi'
      simp at hc'
      subst hc'
      refine ⟨vs, ty, fz, ?_, hnum ▸ hl, by simp [g', G.new, hnum], by simp [g', G.new, hnum], fun j x u hx hu => ⟨((hr j x u hx hu).1).mono hm, .of_ne (hr j x u hx hu).2⟩⟩
      simp only [g', hnum, if_true]
      exact hn.at_
  · have key : ∀ t d' o', (st.kill K).env t = some (.loc d' o') → ∃ c, st.box d' = some c := fun t d' o' ht => h.wf t d' o' (Rel.slots_kill h K t _ ht).2
    cases dst with
    | none => exact key t d' o' ht
    | some d =>
      simp only [St.put, upd] at ht
      split at ht
      · injection ht with ht
        exact absurd ht (hql d' o')
      · exact key t d' o' ht
  · cases dst <;> exact h.defers

theorem rel_new_obj (h : Rel g st a w) {dst : Option Nat} (hd : ∀ d, dst = some d → d < a.tmps.size) (K : List Nat) {cs : List PV} {vs : Array Value} {ty : TypeId} (hl : vs.size = cs.length)
    (hr : ∀ (j : Nat) (x : PV) (u : Value), cs[j]? = some x → vs[j]? = some u → Rr g w x u ∧ ∀ e nl xs, x ≠ .sl (.sp e) nl xs) :
    ∃ g', Rel g' (((st.kill K).setMem (st.mem ++ [cs])).put dst (.ptr st.mem.length 0)) (a.put dst (.pointer (some ⟨w.heap.size, 0, none⟩))) (w.alloc (.cells vs ty)) ∧ Fwd g w g' (w.alloc (.cells vs ty)) :=
  rel_new_objG (w' := w.alloc (.cells vs ty)) (q := .ptr st.mem.length 0) (v := .pointer (some ⟨w.heap.size, 0, none⟩)) h hd K (fz := (0, 0)) ⟨rfl, rfl, rfl, rfl⟩ (Room.whole hl) hr (fun g' h1 h2 => by rw [← h1]; exact .ptr h2) (by simp) (by simp) (by simp)

/-! Loads and stores -/
def moveTo (q : Pos) (j : Nat) : Option Nat → Cl → Cl
  | some d => moveQ q j (.slot d) 0
  | none => id
theorem RSlot.of_rr {s : Nat} {p : PV} {v : Value} (h : Rr g w p v) (ho : OwnP g w (.slot s) p v) : RSlot g w s p v := .inr ⟨h, ho⟩
/-- The rest of the state under a claim that turns from a part of q to slot d. -/
theorem rel_take (h : Rel g st a w) {q : Pos} (hq : (∃ d, q = .box d) ∨ ∃ i, q = .obj i) {j : Nat} {dst : Option Nat} (hd : ∀ d, dst = some d → d < a.tmps.size) (K : List Nat) {p : PV} {v : Value} (hr : Rr g w p v) (ho : Own1 g w q j p v) (hnt : ∀ l, p ≠ .tup l)
    {st1 : St} (hmem : st1.mem.length = st.mem.length) (henv : st1.env = (st.kill K).env)
    (hbox : ∀ d' c', st1.box d' = some c' → ∃ c, st.box d' = some c ∧ (c' = c ∧ q ≠ .box d' ∨ q = .box d' ∧ c'.length = c.length ∧ (∀ i, i ≠ j → c'[i]? = c[i]?) ∧ ∀ x', c'[j]? = some x' → ∀ u, (∀ x, c[j]? = some x → Rr g w x u) → Rr g w x' u ∧ ∀ e nl xs, x' ≠ .sl (.sp e) nl xs))
    (hobj : ∀ (i : Nat) (c' : List PV), st1.mem[i]? = some c' → ∃ c, st.mem[i]? = some c ∧ (c' = c ∧ q ≠ .obj i ∨ q = .obj i ∧ c'.length = c.length ∧ (∀ k, k ≠ j → c'[k]? = c[k]?) ∧ ∀ x', c'[j]? = some x' → ∀ u, (∀ x, c[j]? = some x → Rr g w x u) → Rr g w x' u ∧ ∀ e nl xs, x' ≠ .sl (.sp e) nl xs))
    (hbk : ∀ d' c, st.box d' = some c → ∃ c', st1.box d' = some c') :
    ∃ g', Rel g' (st1.put dst p) (a.put dst v) w ∧ Fwd g w g' w := by
  have hqs : ∀ s, q ≠ .slot s := by rintro s rfl; rcases hq with ⟨d, h⟩ | ⟨i, h⟩ <;> cases h
  let f : Cl → Cl := moveTo q j dst
  have hfs : ∀ s i, f (.row (.slot s) i) = .row (.slot s) i := by
    intro s i
    simp only [f]
    cases dst with
    | none => rfl
    | some d => simp only [moveTo, moveQ]; rw [if_neg]; rintro ⟨h, _⟩; exact hqs s h.symm
  have hfq : ∀ q' i, (q' ≠ q ∨ i ≠ j) → f (.row q' i) = .row q' i := by
    intro q' i hne
    simp only [f]
    cases dst with
    | none => rfl
    | some d => simp only [moveTo, moveQ]; rw [if_neg]; rintro ⟨h1, h2⟩; rcases hne with h | h; exact h h1; exact h h2
  have hfc : ∀ d, f (.box d) = .box d := by intro d; simp only [f]; cases dst <;> rfl
  have hfo : ∀ d, f (.obj d) = .obj d := by intro d; simp only [f]; cases dst <;> rfl
  have hff : f .free = .free := by simp only [f]; cases dst <;> rfl
  have hout : ∀ c, f c = .out ↔ c = .out := by intro c; simp only [f]; cases dst with | none => rfl | some d => exact moveQ_out c
  have cat : ∀ {k : Nat} {cl : Cl} {q' : Pos} {c c' : List PV}, CellsAt g w k cl q' c → f cl = cl → (c' = c ∧ q ≠ q' ∨ q = q' ∧ c'.length = c.length ∧ (∀ i, i ≠ j → c'[i]? = c[i]?) ∧ ∀ x', c'[j]? = some x' → ∀ u, (∀ x, c[j]? = some x → Rr g w x u) → Rr g w x' u ∧ ∀ e nl xs, x' ≠ .sl (.sp e) nl xs) →
      CellsAt (g.re f) w k cl q' c' := by
    intro k cl q' c c' hc hcl hcase
    rcases hcase with ⟨rfl, hne⟩ | ⟨rfl, hlen, hoth, hj⟩
    · exact hc.reSame hcl fun i => hfq _ _ (.inl (Ne.symm hne))
    · refine hc.re hcl hlen fun i x' u hx' hall => ?_
      by_cases hij : i = j
      · subst hij
        obtain ⟨r1, r2⟩ := hj x' hx' u fun x hx => (hall x hx).1
        exact ⟨r1, .of_ne r2⟩
      · rw [hoth i hij] at hx'
        obtain ⟨r1, r2⟩ := hall x' hx'
        exact ⟨r1, r2.re (hfq _ _ (.inr hij))⟩
  have hslots : ∀ t p', (st.kill K).env t = some p' → ∃ v, a.tmps[t]? = some v ∧ RSlot (g.re f) w t p' v := fun t p' hp' => by
    obtain ⟨v, h1, h2⟩ := h.slots t p' (Rel.slots_kill h K t p' hp').2
    exact ⟨v, h1, h2.reSame (hfs t)⟩
  have hpt : ∀ d, dst = some d → RSlot (g.re f) w d p v := fun d hd => by
    refine .inr ⟨hr.re, ho.re ?_, fun cs vs h => absurd h (hnt cs)⟩
    subst hd
    simp [f, moveTo, moveQ]
  refine ⟨g.re f, ⟨fun t p' hp' => ?_, fun d' c hc => ?_, ?_, fun i c hc => ?_, fun t d' o' ht => ?_, h.gw, fun b hb => ⟨?_, (h.fr b hb).2⟩, ?_⟩, fwd_re hout⟩
  · cases dst with
    | none => exact hslots t p' (by rw [← henv]; exact hp')
    | some d =>
      simp only [St.put, upd] at hp'
      split at hp'
      · rename_i e
        subst e
        cases hp'
        exact ⟨v, by simp [Act.put, hd t rfl], hpt t rfl⟩
      · rename_i hne
        obtain ⟨u, h1, h2⟩ := hslots t p' (by rw [← henv]; exact hp')
        exact ⟨u, by simp [Act.put, Array.getElem?_setIfInBounds_ne (Ne.symm hne)]; exact h1, h2⟩
  · have hc' : st1.box d' = some c := by cases dst <;> exact hc
    obtain ⟨c0, hc0, hcase⟩ := hbox d' c hc'
    exact cat (h.boxes d' c0 hc0) (hfc _) hcase
  · have : (st1.put dst p).mem = st1.mem := by cases dst <;> rfl
    rw [this, hmem]; exact h.num
  · have hc' : st1.mem[i]? = some c := by cases dst <;> exact hc
    obtain ⟨c0, hc0, hcase⟩ := hobj i c hc'
    exact cat (h.objs i c0 hc0) (hfo _) hcase
  · have key : ∀ t d' o', (st.kill K).env t = some (.loc d' o') → ∃ c, st1.box d' = some c := fun t d' o' ht => by
      obtain ⟨c, hc⟩ := h.wf t d' o' (Rel.slots_kill h K t _ ht).2
      exact hbk d' c hc
    cases dst with
    | none => exact key t d' o' (by rw [← henv]; exact ht)
    | some d =>
      simp only [St.put, upd] at ht
      split at ht
      · cases ht
        exact absurd hr.notLoc (by simp [PV.isLoc])
      · exact key t d' o' (by rw [← henv]; exact ht)
  · show f (g.cl b) = .free
    rw [(h.fr b hb).1, hff]
  · cases dst <;> exact h.defers

theorem rel_in (h : Rel g st a w) {k : Nat} (hk : In k g w w') {st1 : St} {K : List Nat} (henv : st1.env = (st.kill K).env) (hnum : st1.mem.length = st.mem.length)
    (hbox : ∀ d c, st1.box d = some c → CellsAt g w' (g.bx d) (.box d) (.box d) c) (hobj : ∀ (i : Nat) (c : List PV), st1.mem[i]? = some c → CellsAt g w' (g.mu i) (.obj i) (.obj i) c) (hbk : ∀ d' c, st.box d' = some c → ∃ c', st1.box d' = some c') : Rel g st1 a w' := by
  refine ⟨fun t p hp => ?_, hbox, by rw [hnum]; exact h.num, hobj, fun t d o ht => ?_, fun b hb => ?_, fun b hb => ?_, h.defers⟩
  · rw [henv] at hp
    obtain ⟨v, h1, h2⟩ := h.slots t p (Rel.slots_kill h K t p hp).2
    exact ⟨v, h1, h2.in_ hk⟩
  · rw [henv] at ht
    obtain ⟨c, hc⟩ := h.wf t d o (Rel.slots_kill h K t _ ht).2
    exact hbk d c hc
  · have hne : b ≠ k := by rintro rfl; rw [hk.fill] at hb; omega
    rw [hk.heap b hne]
    exact h.gw b hb
  · exact h.fr b (by rw [← hk.size]; exact hb)
/-- A slot's claim handed to part j of q; the slot is emptied. -/
theorem rel_give (h : Rel g st a w) {s : Nat} {K : List Nat} (hs : s ∈ K) {q : Pos} {j : Nat} (hq : ∀ t, q ≠ .slot t) : Rel (g.re (moveQ (.slot s) 0 q j)) (st.kill K) a w := by
  have hfq : ∀ q' i, q' ≠ .slot s → moveQ (.slot s) 0 q j (.row q' i) = .row q' i := fun q' i hne => by simp only [moveQ]; rw [if_neg]; rintro ⟨h, _⟩; exact hne h
  refine ⟨fun t p hp => ?_, fun d c hc => ?_, h.num, fun i c hc => ?_, fun t d o ht => h.wf t d o (Rel.slots_kill h K t _ ht).2, h.gw, fun b hb => ⟨?_, (h.fr b hb).2⟩, h.defers⟩
  · obtain ⟨hnk, hp⟩ := Rel.slots_kill h K t p hp
    obtain ⟨v, h1, h2⟩ := h.slots t p hp
    exact ⟨v, h1, h2.reSame fun i => hfq _ _ (by rintro ⟨⟩; exact hnk hs)⟩
  · exact (h.boxes d c hc).reSame rfl fun i => hfq _ _ (by simp)
  · exact (h.objs i c hc).reSame rfl fun i => hfq _ _ (by simp)
  · show moveQ _ _ _ _ (g.cl b) = .free
    rw [(h.fr b hb).1]
    rfl

theorem run_storeVar_of {t n k off : Nat} {v : Value} (hs : (Go.sizeOf t).run P w = .ok n w) (hv : v.cells.size = n) (hr : (storeCells ⟨k, off, none⟩ v.cells.toList).run P w = .ok () w') : (Instr.storeAt t (.pointer (some ⟨k, off, none⟩)) v).run P w = .ok () w' := by
  simp [Instr.storeAt, Instr.sureAddr, storeVar, hs, hv, hr]
theorem ro_cells (p : PV) : p.ro.cells = p.cells.map PV.roLeaf ∨ (∃ l, p = .tup l) := by
  cases p with
  | agg cs => exact .inl rfl
  | tup l => exact .inr ⟨l, rfl⟩
  | sl m nl xs => exact .inl (by cases m <;> rfl)
  | _ => exact .inl rfl
theorem roLeaf_leaf {p : PV} (h : p.leaf = true) : p.roLeaf.leaf = true := by
  cases p with
  | sl m nl xs => cases m <;> rfl
  | _ => exact h
/-- A value that is laid into cells. -/
theorem ro_laid {p : PV} {v : Value} (h : Rr g w p v) (hl : p.cells.all PV.leaf = true) : p.ro.cells.length = v.cells.size ∧ p.ro.cells.length = p.cells.length ∧
    (∀ (j : Nat) (x : PV) (u : Value), p.ro.cells[j]? = some x → v.cells[j]? = some u → Rr g w x u ∧ ∀ e nl xs, x ≠ .sl (.sp e) nl xs) ∧ ∀ u ∈ v.cells.toList, u.oneCell' = true := by
  obtain ⟨h1, h2⟩ := h.cells (notAgg_of_leaf hl)
  rcases ro_cells p with he | ⟨l, rfl⟩
  · refine ⟨by rw [he]; simpa using h1, by rw [he]; simp, fun j x u hx hu => ?_, fun u hu => ?_⟩
    · rw [he] at hx
      simp only [List.getElem?_map, Option.map_eq_some_iff] at hx
      obtain ⟨x', hx', rfl⟩ := hx
      exact ⟨(h2 j x' u hx' hu).roLeaf, fun _ _ _ => roLeaf_own⟩
    · obtain ⟨j, hj⟩ := List.mem_iff_getElem?.1 hu
      have hlt := lt_of_get hj
      have hx : p.cells[j]? = some (p.cells[j]'(by simp at hlt; omega)) := getElem?_pos ..
      exact leaf_one (List.all_eq_true.1 hl _ (List.mem_of_getElem? hx)) (h2 j _ u hx (by simpa using hj))
  · simp [PV.cells, PV.leaf] at hl
end
end Go.Pv
