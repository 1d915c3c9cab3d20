/- Pv, part F: the pure operations that make memory: literals, appends, conversions, cuts. -/
import Derived.Test.YtdmhagjcmlaiiaaDoorPvE
import Derived.Lib.ConvBytes
import Derived.ArgAppend
import Derived.Lib.AppendStr
import Derived.Laws.BytesArg
set_option linter.unusedVariables false
set_option linter.unusedSimpArgs false
namespace Go.Pv
theorem leaf_one {g : G} {w : World} {c : PV} {u : Value} (hl : c.leaf = true) (h : Rr g w c u) : u.oneCell' = true := by
  cases h <;> first | exact hl | (simp [PV.leaf] at hl; done) | rfl
/-- All cells of the elements, one after the other. -/
def flat (xs : List PV) : List PV := xs.flatMap PV.cells
theorem flat_length {xs : List PV} {sz : Nat} (h : ∀ p ∈ xs, p.cells.length = sz) : (flat xs).length = xs.length * sz := by
  induction xs with
  | nil => simp [flat]
  | cons p xs ih =>
    have h1 := h p (by simp)
    have h2 := ih fun q hq => h q (by simp [hq])
    simp only [flat, List.flatMap_cons, List.length_append, List.length_cons] at h2 ⊢
    rw [h1, h2, Nat.add_mul]
    omega
theorem flat_get {xs : List PV} {sz : Nat} (h : ∀ p ∈ xs, p.cells.length = sz) : ∀ {i j : Nat} {p c : PV}, xs[i]? = some p → p.cells[j]? = some c → (flat xs)[i * sz + j]? = some c := by
  induction xs with
  | nil => intro i j p c hp; simp at hp
  | cons q xs ih =>
    intro i j p c hp hc
    have h1 := h q (by simp)
    have h2 : ∀ p ∈ xs, p.cells.length = sz := fun p hp => h p (by simp [hp])
    cases i with
    | zero =>
      simp at hp
      subst hp
      have := lt_of_get hc
      simp only [flat, List.flatMap_cons, Nat.zero_mul, Nat.zero_add]
      rw [List.getElem?_append_left this]
      exact hc
    | succ i =>
      have := ih h2 (by simpa using hp) hc
      simp only [flat, List.flatMap_cons] at this ⊢
      rw [List.getElem?_append_right (by rw [h1, Nat.add_mul]; omega), h1, show (i + 1) * sz + j - sz = i * sz + j by rw [Nat.add_mul]; omega]
      exact this
theorem flat_inv {xs : List PV} {sz : Nat} (h : ∀ p ∈ xs, p.cells.length = sz) : ∀ {k : Nat} {c : PV}, (flat xs)[k]? = some c → ∃ i j p, k = i * sz + j ∧ xs[i]? = some p ∧ p.cells[j]? = some c := by
  induction xs with
  | nil => intro k c hc; simp [flat] at hc
  | cons q xs ih =>
    intro k c hc
    have h1 := h q (by simp)
    have h2 : ∀ p ∈ xs, p.cells.length = sz := fun p hp => h p (by simp [hp])
    simp only [flat, List.flatMap_cons] at hc
    rcases Nat.lt_or_ge k sz with hk | hk
    · rw [List.getElem?_append_left (by omega)] at hc
      exact ⟨0, k, q, by simp, rfl, hc⟩
    · rw [List.getElem?_append_right (by omega), h1] at hc
      obtain ⟨i, j, p, he, hp, hj⟩ := ih h2 hc
      exact ⟨i + 1, j, p, by rw [Nat.add_mul]; omega, by simpa using hp, hj⟩
theorem mem_get {xs : List PV} {p : PV} (h : p ∈ xs) : ∃ i : Nat, xs[i]? = some p := List.mem_iff_getElem?.1 h

/-- The cells of slice xs in memory, as one row. -/
theorem At.row {g : G} {w : World} {xs : List PV} {b o sz : Nat} (h : At g w xs b o sz) : ∃ us : List Value, us.length = xs.length * sz ∧ Lies w b o us ∧
    (∀ (k : Nat) (c : PV) (u : Value), (flat xs)[k]? = some c → us[k]? = some u → Rr g w c u) ∧ ∀ u ∈ us, u.oneCell' = true := by
  have hs : ∀ p ∈ xs, p.cells.length = sz := fun p hp => by obtain ⟨i, hi⟩ := mem_get hp; exact (h.size i p hi).1
  have hl : ∀ p ∈ xs, p.cells.all PV.leaf = true := fun p hp => by obtain ⟨i, hi⟩ := mem_get hp; exact (h.size i p hi).2
  obtain ⟨us, h1, h2, h3⟩ := lies_of (w := w) (b := b) (o := o) (R := Rr g w) (flat_length hs) (fun k c hc => by
    obtain ⟨i, j, p, rfl, hp, hj⟩ := flat_inv hs hc
    have := h.cell i j p c hp hj
    rwa [Nat.add_assoc] at this)
  refine ⟨us, h1, h2, h3, fun u hu => ?_⟩
  obtain ⟨k, hk⟩ := List.mem_iff_getElem?.1 hu
  have hlt := lt_of_get hk
  have hf : (flat xs)[k]? = some ((flat xs)[k]'(by rw [flat_length hs]; omega)) := getElem?_pos ..
  have hr := h3 k _ u hf hk
  obtain ⟨i, j, p, he, hp, hj⟩ := flat_inv hs hf
  exact leaf_one (List.all_eq_true.1 (hl p (List.mem_of_getElem? hp)) _ (List.mem_of_getElem? hj)) hr
/-- A row of cells in memory is a slice's. -/
theorem at_of_row {g : G} {w : World} {xs : List PV} {b o sz : Nat} (hf : o + xs.length * sz ≤ g.fill b) (hs : ∀ p ∈ xs, p.cells.length = sz ∧ p.cells.all PV.leaf = true) {us : List Value} (hl : Lies w b o us)
    (hn : us.length = xs.length * sz) (hr : ∀ (k : Nat) (c : PV) (u : Value), (flat xs)[k]? = some c → us[k]? = some u → Rr g w c u) : At g w xs b o sz := by
  refine ⟨hf, fun i p hp => hs p (List.mem_of_getElem? hp), fun i j p c hp hc => ?_⟩
  have hk := flat_get (fun p hp => (hs p hp).1) hp hc
  have hlt := lt_of_get hk
  rw [flat_length fun p hp => (hs p hp).1] at hlt
  have hu : us[i * sz + j]? = some (us[i * sz + j]'(by omega)) := getElem?_pos ..
  exact ⟨_, by have := hl _ _ hu; rwa [← Nat.add_assoc] at this, hr _ c _ hk hu⟩

section
variable {P : Program} {o : Oper} {a : Go.Act} {w : World} {g : G} {st : St} {K : List Nat}

theorem Lies.of_heap {w w' : World} {b o : Nat} {us : List Value} (h : Lies w b o us) (hh : w'.heap[b]? = w.heap[b]?) : Lies w' b o us := fun j u hu => by rw [cell_of_heap hh]; exact h j u hu
theorem lies_new {w w' : World} {vs : Array Value} {ty : TypeId} {fz : Nat × Nat} (hn : NewBlock w w' (.cells vs ty fz)) {us rest : List Value} (hv : vs.toList = us ++ rest) : Lies w' w.heap.size 0 us := by
  intro j u hu
  have hlt := lt_of_get hu
  have : vs[j]? = some u := by
    rw [← Array.getElem?_toList, hv, List.getElem?_append_left hlt]
    exact hu
  simp [World.cell?, hn.at_, this]

/-- A new slice: its elements xs lie at the head of the new block; what is behind them is its own, if it is 'sp'. -/
theorem Does.fresh {v : Value} {w' : World} {vs : Array Value} {ty : TypeId} {fz : Nat × Nat} {m : Own} {nl : Option Bool} {xs : List PV} {cap sz : Nat} {us rest : List Value}
    (hR : Rel g st a w) (hrun : (execOp a.eval o).run P w = .ok (.value (.slice (some ⟨w.heap.size, 0, none⟩) xs.length cap)) w') (hn : NewBlock w w' (.cells vs ty fz)) (hv : vs.toList = us ++ rest) (hu : us.length = xs.length * sz)
    (hcap : xs.length ≤ cap) (hnl : nl ≠ some true) (hfull : m = .full → cap = xs.length) (hs : ∀ p ∈ xs, p.cells.length = sz ∧ p.cells.all PV.leaf = true)
    (hr : ∀ (k : Nat) (c : PV) (u : Value), (flat xs)[k]? = some c → us[k]? = some u → Rr g w c u) (hsp : ∀ e, m = .sp e → e = sz ∧ fz = (0, 0) ∧ cap * sz ≤ vs.size) : Does P o a w g st K (.sl m nl xs) := by
  have hvs : vs.size = us.length + rest.length := by rw [← Array.length_toList, hv, List.length_append]
  let c : Cl := match o.dst with | some d => .row (.slot d) 0 | none => .free
  have hc : c ≠ .out := by simp only [c]; split <;> simp
  have hk := keep_new (K := (· ∈ K)) hn (f := us.length) (c := c) (by omega) hc hR.gw hR.fr
  have hlies := lies_new hn hv
  have hat : At (g.new w.heap.size us.length c) w' xs w.heap.size 0 sz := at_of_row (by simp [G.new, hu]) hs hlies hu fun k c u h1 h2 => (hr k c u h1 h2).mono hk.mono
  have hrr : Rr (g.new w.heap.size us.length c) w' (.sl m nl xs) (.slice (some ⟨w.heap.size, 0, none⟩) xs.length cap) :=
    .mk_sl hcap (fun b hb => by cases b with | true => exact absurd hb hnl | false => rfl) (by simp) hfull (by rintro ad ⟨⟩; rfl) fun _ => ⟨_, _, sz, rfl, hat⟩
  refine ⟨_, w', _, hrun, hk, fun d hd => .inr ⟨hrr, ⟨?_, fun cs vs hc => by simp at hc⟩⟩, fun d' o' hp => by simp at hp⟩
  intro e nl' xs' he
  simp only [PV.sl.injEq] at he
  obtain ⟨hm, rfl, rfl⟩ := he
  obtain ⟨h1, h2, h3⟩ := hsp e hm
  subst h1; subst h2
  exact ⟨_, cap, rfl, .inr ⟨w.heap.size, 0, vs, ty, rfl, by simp [G.new, c, hd], by simp [G.new, hu], hn.at_, by simpa using h3⟩⟩

theorem cells_v (x : Value) : (PV.v x).cells = [.v x] := rfl
theorem flat_bytes (s : ByteArray) : flat (bytesP s) = bytesP s := by
  simp [flat, bytesP, List.flatMap_map, cells_v]
  induction s.data.toList with
  | nil => rfl
  | cons b l ih => simp [ih]
theorem bytesP_length (s : ByteArray) : (bytesP s).length = s.size := by simp [bytesP]
theorem bytesP_ok (s : ByteArray) : ∀ p ∈ bytesP s, p.cells.length = 1 ∧ p.cells.all PV.leaf = true := by
  intro p hp
  simp only [bytesP, List.mem_map] at hp
  obtain ⟨b, _, rfl⟩ := hp
  exact ⟨rfl, by simp [PV.cells, PV.leaf, Value.oneCell']⟩
def bytesV (s : ByteArray) : List Value := s.data.toList.map fun b => .int .u8 b.toNat
theorem bytes_rr {s : ByteArray} : ∀ (k : Nat) (c : PV) (u : Value), (bytesP s)[k]? = some c → (bytesV s)[k]? = some u → Rr g w c u := by
  intro k c u hc hu
  simp only [bytesP, bytesV, List.getElem?_map, Option.map_eq_some_iff] at hc hu
  obtain ⟨b, hb, rfl⟩ := hc
  obtain ⟨b', hb', rfl⟩ := hu
  rw [hb] at hb'
  cases hb'
  exact .v _

theorem do_s2b {s d e : TypeId} {x : Operand} (hR : Rel g st a w) (ho : o.op = .convert s d x) (hs : (P.underlying s).isSome = true) (hd : P.underlying d = some (.slice e)) (he : P.underlying e = some (.int .u8)) {x' : X} {p q : PV}
    (h : Rx g w x' p (a.eval x)) (hq : pS2b p = some q) : Does P o a w g st K q := by
  unfold pS2b at hq
  split at hq
  · rename_i t
    cases hq
    have h1 := (h.rr rfl).inv_v
    obtain ⟨u, hu⟩ := Option.isSome_iff_exists.1 hs
    have hrun := Lib.run_convert_string_bytes (P := P) w s d e t hu hd he
    have hn : NewBlock w (Lib.bytesWorld w e t) (.cells (Lib.bytesCells w e t) e ((Lib.bytesCells w e t).size, (Lib.bytesCells w e t).size + 1)) := by
      refine ⟨?_, rfl, rfl, rfl⟩
      apply Array.ext'
      apply List.ext_getElem?
      intro j
      simp only [Array.getElem?_toList]
      rcases Nat.lt_trichotomy j w.heap.size with hj | hj | hj
      · rw [Lib.bytesWorld_at_old w e t j hj, Array.getElem?_push, if_neg (by omega)]
      · subst hj; rw [Lib.bytesWorld_at_new]; simp
      · rw [Array.getElem?_eq_none (by rw [Lib.bytesWorld_size]; omega), Array.getElem?_eq_none (by simp; omega)]
    refine Does.fresh (v := default) (sz := 1) (us := bytesV t) (rest := List.replicate (grownCap w t.size 0 e - t.size) (.int .u8 0)) (cap := grownCap w t.size 0 e) hR ?_ hn ?_ ?_ ?_ (by simp) (by simp) (bytesP_ok t) ?_ (by simp)
    · rw [bytesP_length]
      simp only [execOp, ho, h1, Sem.run_bind, hrun, Result.andThen_ok, Sem.run_pure]
    · simp [Lib.bytesCells, bytesV]
    · simp [bytesV, bytesP_length]
    · rw [bytesP_length]; exact grownCap_ge w _ _ _
    · rw [flat_bytes]; exact bytes_rr
  · cases hq

theorem bytesOf_spec : ∀ {xs : List PV} {l : List UInt8}, bytesOf? xs = some l → ∃ ns : List Int, xs = ns.map (fun n => .v (.int .u8 n)) ∧ l = ns.map (fun n => UInt8.ofNat n.toNat)
  | [], l, h => by simp [bytesOf?] at h; subst h; exact ⟨[], rfl, rfl⟩
  | p :: xs, l, h => by
    simp only [bytesOf?, Option.bind_eq_some_iff, Option.map_eq_some_iff] at h
    obtain ⟨b, hb, r, hr, rfl⟩ := h
    obtain ⟨ns, rfl, rfl⟩ := bytesOf_spec hr
    unfold byteOf? at hb
    split at hb
    · rename_i n
      cases hb
      exact ⟨n :: ns, rfl, rfl⟩
    · cases hb

theorem do_b2s {s d e : TypeId} {x : Operand} (ho : o.op = .convert s d x) (hs : P.underlying s = some (.slice e)) (he : P.underlying e = some (.int .u8)) (hd : P.underlying d = some .string) {x' : X} {p q : PV}
    (h : Rx g w x' p (a.eval x)) (hq : pB2s p = some q) : Does P o a w g st K q := by
  unfold pB2s at hq
  split at hq
  · rename_i m nl xs
    obtain ⟨l, hl, rfl⟩ := Option.map_eq_some_iff.1 hq
    obtain ⟨ns, rfl, rfl⟩ := bytesOf_spec hl
    obtain ⟨A, cap, hv, h1, h2, h3, h4, h5, h6⟩ := (h.rr rfl).inv_sl
    have hrun : (convert s d (a.eval x)).run P w = .ok (.string ⟨(ns.map (fun n => UInt8.ofNat n.toNat)).toArray⟩) w := by
      rw [hv]
      by_cases hx : ns = []
      · subst hx
        cases A with
        | none => 
          rw [run_convert_bytes_nil w s e hs he _ _ d hd]
          rfl
        | some ad =>
          have := h5 ad rfl
          obtain ⟨b, off, sp⟩ := ad
          simp at this
          subst this
          rw [run_convert_bytes_arg w s e hs he b off _ cap [] (by simp) (fun i hi => by simp at hi) d hd]
          rfl
      · obtain ⟨b, off, sz, rfl, hat⟩ := h6 (by simpa using hx)
        rw [run_convert_bytes_arg w s e hs he b off _ cap ns (by simp) (fun i hi => ?_) d hd]
        · rfl
        · have hp : (ns.map (fun n => PV.v (.int .u8 n)))[i]? = some (.v (.int .u8 (ns.getD i 0))) := by simp at hi; simp [List.getD, hi]
          have hsz := (hat.size i _ hp).1
          simp [PV.cells] at hsz
          subst hsz
          obtain ⟨u, hu, hr⟩ := hat.cell i 0 _ _ hp rfl
          rw [hr.inv_v] at hu
          simpa using hu
    exact .val (by simp only [execOp, ho, Sem.run_bind, hrun, Result.andThen_ok, Sem.run_pure])
  · cases hq

theorem splice_get {α : Type} {l cs : List α} {off : Nat} (h : off + cs.length ≤ l.length) (j : Nat) : (splice l off cs)[j]? = if off ≤ j ∧ j < off + cs.length then cs[j - off]? else l[j]? := by
  unfold splice
  by_cases h1 : j < off
  · rw [List.append_assoc, List.getElem?_append_left (by simp; omega), List.getElem?_take_of_lt h1, if_neg (by omega)]
  · rw [List.append_assoc, List.getElem?_append_right (by simp; omega), List.length_take, Nat.min_eq_left (by omega)]
    by_cases h2 : j < off + cs.length
    · rw [List.getElem?_append_left (by omega), if_pos ⟨by omega, h2⟩]
    · rw [List.getElem?_append_right (by omega), List.getElem?_drop, if_neg (by omega)]
      congr 1
      omega
theorem splice_length {α : Type} {l cs : List α} {off : Nat} (h : off + cs.length ≤ l.length) : (splice l off cs).length = l.length := by
  simp [splice]; omega
theorem foldl_sets (off : Nat) : ∀ (vs : List Value) (k : Nat) (cs : Array Value), off + k + vs.length ≤ cs.size → (vs.zipIdx k).foldl (fun cs (x : Value × Nat) => cs.setIfInBounds (off + x.2) x.1) cs = (splice cs.toList (off + k) vs).toArray
  | [], k, cs, _ => by simp [splice]
  | v :: vs, k, cs, h => by
    simp only [List.length_cons] at h
    rw [List.zipIdx_cons, List.foldl_cons, foldl_sets off vs (k + 1) _ (by simp; omega)]
    congr 1
    apply List.ext_getElem?
    intro j
    rw [splice_get (by simp; omega), splice_get (by simp; omega)]
    simp only [List.length_cons, Array.toList_setIfInBounds, List.getElem?_set]
    by_cases h1 : off + k ≤ j ∧ j < off + k + (vs.length + 1)
    · rw [if_pos h1]
      by_cases h2 : j = off + k
      · subst h2
        rw [if_neg (by omega), if_pos rfl, if_pos (by simp; omega)]
        simp
      · rw [if_pos (by omega)]
        obtain ⟨i, rfl⟩ : ∃ i, j = off + k + 1 + i := ⟨j - (off + k + 1), by omega⟩
        rw [show off + k + 1 + i - (off + (k + 1)) = i by omega, show off + k + 1 + i - (off + k) = i + 1 by omega]
        simp
    · rw [if_neg h1, if_neg (by omega), if_neg (by omega)]
theorem foldl_cells (off : Nat) (v : Value) (cs : Array Value) (h : off + v.cells.size ≤ cs.size) : v.cells.zipIdx.foldl (fun cs (x : Value × Nat) => cs.setIfInBounds (off + x.2) x.1) cs = (splice cs.toList off v.cells.toList).toArray := by
  have := foldl_sets off v.cells.toList 0 cs (by simpa using h)
  rw [← Array.foldl_toList, Array.toList_zipIdx]
  simpa using this

theorem Rr.cells {p : PV} {v : Value} (h : Rr g w p v) (ht : ∀ x, p = .v x → ∀ c, x ≠ .agg c) : p.cells.length = v.cells.size ∧ ∀ (j : Nat) (c : PV) (u : Value), p.cells[j]? = some c → v.cells[j]? = some u → Rr g w c u := by
  have one : ∀ {p : PV} {v : Value}, Rr g w p v → p.cells = [p] → v.cells = #[v] → p.cells.length = v.cells.size ∧ ∀ (j : Nat) (c : PV) (u : Value), p.cells[j]? = some c → v.cells[j]? = some u → Rr g w c u := by
    intro p v h h1 h2
    rw [h1, h2]
    refine ⟨rfl, fun j c u hc hu => ?_⟩
    cases j with
    | zero => simp at hc hu; subst hc; subst hu; exact h
    | succ j => simp at hc
  cases h with
  | v => exact one (.v v) rfl (by cases v <;> first | rfl | exact absurd rfl (ht _ rfl _))
  | agg h1 h2 => exact ⟨by simpa [PV.cells, Value.cells] using h1, fun j c u hc hu => h2 j c u hc (by simpa [Value.cells] using hu)⟩
  | tup h1 h2 => exact one (.tup h1 h2) rfl rfl
  | nil h1 h2 h3 h4 => exact one (.nil h1 h2 h3 h4) rfl rfl
  | sl h1 h2 h3 h4 h5 h6 h7 h8 => exact one (.sl h1 h2 h3 h4 h5 h6 h7 h8) rfl rfl
  | el h1 h2 h3 => exact one (.el h1 h2 h3) rfl rfl
  | ptr h => exact one (.ptr h) rfl rfl
  | os h => exact one (.os h) rfl rfl
  | clo h1 h2 h3 h4 => exact one (.clo h1 h2 h3 h4) rfl rfl
  | ifc h => exact one (.ifc h) rfl rfl
theorem notAgg_of_leaf {p : PV} (h : p.cells.all PV.leaf = true) : ∀ x, p = .v x → ∀ c, x ≠ .agg c := by
  rintro x rfl c rfl
  simp [PV.cells, PV.leaf, Value.oneCell'] at h

/-- The parts of a composite literal, laid one after the other. -/
theorem fill_parts {place : Nat → Option (Nat × Nat)} : ∀ {parts : List (Nat × Value)} {ps : List (Nat × Nat)} {l : List PV} {zero out : List PV} {cells : Array Value},
    parts.length = ps.length → (∀ (k i : Nat) (v : Value) (x : Nat × Nat), parts[k]? = some (i, v) → ps[k]? = some x → place i = some x) → (∀ (k i : Nat) (v : Value) (p : PV), parts[k]? = some (i, v) → l[k]? = some p → Rr g w p v) →
    fillP zero ps l = some out → zero.length = cells.size → (∀ (j : Nat) (c : PV) (u : Value), zero[j]? = some c → cells[j]? = some u → Rr g w c u) →
    ∃ cells' : Array Value, Instr.fill place cells parts = some cells' ∧ out.length = cells'.size ∧ ∀ (j : Nat) (c : PV) (u : Value), out[j]? = some c → cells'[j]? = some u → Rr g w c u
  | [], [], l, zero, out, cells, _, _, _, hf, hl, hr => by
    cases l with
    | nil => simp [fillP] at hf; subst hf; exact ⟨cells, rfl, hl, hr⟩
    | cons p l => simp [fillP] at hf
  | (i, v) :: parts, (off, n) :: ps, l, zero, out, cells, hlen, hpl, hrr, hf, hl, hr => by
    cases l with
    | nil => simp [fillP] at hf
    | cons p l =>
      simp only [fillP] at hf
      split at hf
      · rename_i hc
        obtain ⟨h1', h2⟩ := hc
        simp only [PV.cellsOk, Bool.and_eq_true, beq_iff_eq] at h1'
        obtain ⟨h1, hleaf⟩ := h1'
        have hp := hrr 0 i v p rfl rfl
        have hna := notAgg_of_leaf hleaf
        obtain ⟨hn1, hn2⟩ := hp.norm.cells (by
          intro x hx c
          cases p with
          | v y => simp [PV.norm, PV.normLeaf] at hx; subst hx; exact hna _ rfl c
          | _ => simp [PV.norm, PV.normLeaf] at hx)
        have hnl : p.norm.cells.length = p.cells.length := by cases p <;> simp [PV.norm, PV.normLeaf, PV.cells]
        have hpi := hpl 0 i v (off, n) rfl rfl
        have hsz : v.cells.size = n := by rw [← hn1, hnl, h1]
        have hle : off + v.cells.size ≤ cells.size := by omega
        have hstep := fill_parts (parts := parts) (ps := ps) (l := l) (place := place) (out := out) (cells := (splice cells.toList off v.cells.toList).toArray) (by simpa using hlen) (fun k => hpl (k + 1)) (fun k => hrr (k + 1)) hf
          (by rw [splice_length (by omega)]; simp [splice_length (show off + v.cells.toList.length ≤ cells.toList.length by simpa using hle)]; exact hl)
          (fun j c u hc hu => by
            rw [splice_get (by omega)] at hc
            rw [List.getElem?_toArray, splice_get (by simpa using hle)] at hu
            simp only [Array.length_toList, ← hn1] at hu
            split at hc
            · rename_i h; rw [if_pos h] at hu; exact hn2 _ c u hc (by simpa using hu)
            · rename_i h; rw [if_neg h] at hu; exact hr j c u hc (by simpa using hu))
        obtain ⟨cells', e1, e2, e3⟩ := hstep
        refine ⟨cells', ?_, e2, e3⟩
        have hnot : ¬ (v.cells.size ≠ n || off + v.cells.size > cells.size) = true := by simp; omega
        simp only [Instr.fill, hpi]
        rw [if_neg hnot, foldl_cells off v cells hle]
        exact e1
      · cases hf
  | [], _ :: _, _, _, _, _, h, _, _, _, _, _ => by simp at h
  | _ :: _, [], _, _, _, _, h, _, _, _, _, _ => by simp at h

theorem rxL_get {xs : List X} {l : List PV} {vs : List Value} (h : RxL g w xs l vs) : l.length = vs.length ∧ xs.length = l.length ∧ ∀ (k : Nat) (p : PV) (v : Value), l[k]? = some p → vs[k]? = some v → ∃ x, xs[k]? = some x ∧ Rx g w x p v := by
  induction xs generalizing l vs with
  | nil => cases l <;> cases vs <;> simp [RxL] at h ⊢
  | cons x xs ih =>
    cases l with
    | nil => cases vs <;> simp [RxL] at h
    | cons p l =>
      cases vs with
      | nil => simp [RxL] at h
      | cons v vs =>
        obtain ⟨h1, h2⟩ := h
        obtain ⟨e1, e2, e3⟩ := ih h2
        refine ⟨by simp [e1], by simp [e2], fun k q u hq hu => ?_⟩
        cases k with
        | zero => simp at hq hu; subst hq; subst hu; exact ⟨x, rfl, h1⟩
        | succ k => exact e3 k q u (by simpa using hq) (by simpa using hu)

theorem partsOk_spec : ∀ {l : List (Nat × Operand)} {ps : List (Nat × Nat)} {f : Nat → Option (Nat × Nat)}, partsOk l ps f = true → l.length = ps.length ∧ ∀ (k i : Nat) (x : Operand) (q : Nat × Nat), l[k]? = some (i, x) → ps[k]? = some q → f i = some q
  | [], [], _, _ => ⟨rfl, fun k i x q h => by simp at h⟩
  | (i, x) :: l, y :: ps, f, h => by
    simp only [partsOk, Bool.and_eq_true] at h
    obtain ⟨h1, h2⟩ := partsOk_spec h.2
    refine ⟨by simp [h1], fun k i' x' q hk hq => ?_⟩
    cases k with
    | zero =>
      simp at hk hq
      obtain ⟨rfl, rfl⟩ := hk
      subst hq
      simpa using h.1
    | succ k => exact h2 k i' x' q (by simpa using hk) (by simpa using hq)
  | [], _ :: _, _, h => by simp [partsOk] at h
  | _ :: _, [], _, h => by simp [partsOk] at h
theorem run_build_of {t : TypeId} {f : Nat → Option (Nat × Nat)} {z : Value} {i : TypeInfo} (hp : placeFn P t = some f) (hi : P.info? t = some i) (hz : i.zero = some z) {parts : Array (Nat × Value)} {cells : Array Value} (h : Instr.fill f z.cells parts.toList = some cells) :
    (Instr.build t parts).run P w = .ok (.agg cells) w := by
  refine run_build w t parts cells ?_
  unfold placeFn at hp
  unfold Program.built
  split at hp
  · rename_i n e hu
    obtain ⟨ie, hie, rfl⟩ := Option.map_eq_some_iff.1 hp
    simp only [hi, hu, hz, hie]
    exact h
  · rename_i fs hu
    obtain ⟨pl, hpl, rfl⟩ := Option.map_eq_some_iff.1 hp
    simp only [hi, hu, hz, hpl]
    exact h
  · cases hp
theorem fillP_locs : ∀ {ps : List (Nat × Nat)} {zero out : List PV} {l : List PV}, fillP zero ps l = some out → ∀ p ∈ l, p.isLoc = false
  | [], _, _, l, hf => by cases l <;> simp [fillP] at hf ⊢
  | x :: ps, zero, out, [], hf => by simp
  | (off, n) :: ps, zero, out, p :: l, hf => by
    simp only [fillP] at hf
    split at hf
    · rename_i h
      intro q hq
      simp at hq
      rcases hq with rfl | hq
      · have := h.1
        cases q <;> simp_all [PV.cellsOk, PV.cells, PV.leaf, PV.isLoc]
      · exact fillP_locs hf q hq
    · cases hf
theorem do_build {t : TypeId} {parts : Array (Nat × Operand)} (ho : o.op = .build t parts) {zero : List PV} {ps : List (Nat × Nat)} {ins : List X} {l : List PV} {q : PV} (hz : zeroIs P t zero = true) {f : Nat → Option (Nat × Nat)} (hu : placeFn P t = some f)
    (hp : partsOk parts.toList ps f = true) (hx : RxL g w ins l ((parts.toList.map (·.2)).map a.eval)) (he : (fillP zero ps l).map .agg = some q) : Does P o a w g st K q := by
  obtain ⟨out, hf, rfl⟩ := Option.map_eq_some_iff.1 he
  unfold zeroIs at hz
  split at hz
  · rename_i inf hi
    split at hz
    · rename_i z hzz
      obtain ⟨hz2, hz3⟩ := okKL_spec hz
      obtain ⟨hl1, hl2⟩ := partsOk_spec hp
      obtain ⟨hx1, hx2, hx3⟩ := rxL_get hx
      have hfill := fill_parts (g := g) (w := w) (place := f) (parts := parts.toList.map fun x => (x.1, a.eval x.2)) (ps := ps) (l := l) (zero := zero) (out := out) (cells := z.cells) (by simpa using hl1)
        (fun k i v x hk hq => by
          simp only [List.getElem?_map, Option.map_eq_some_iff] at hk
          obtain ⟨⟨i', y⟩, hk, he⟩ := hk
          simp at he
          obtain ⟨rfl, rfl⟩ := he
          exact hl2 k i' y x hk hq)
        (fun k i v p hk hq => by
          simp only [List.getElem?_map, Option.map_eq_some_iff] at hk
          obtain ⟨⟨i', y⟩, hk, he⟩ := hk
          simp at he
          obtain ⟨rfl, rfl⟩ := he
          obtain ⟨x, hx, hr⟩ := hx3 k p (a.eval y) hq (by simp [hk])
          exact hr.rr (fillP_locs hf p (List.mem_of_getElem? hq)))
        hf (by simpa using hz2) (fun j c u hc hu => (hz3 j c u hc (by simpa using hu)).1 g w)
      obtain ⟨cells', e1, e2, e3⟩ := hfill
      have hrun := run_build_of (P := P) (w := w) hu hi hzz (parts := parts.map fun x => (x.1, a.eval x.2)) (cells := cells') (by simpa using e1)
      refine .same (v := .agg cells') (by simp only [execOp, ho, Sem.run_bind, hrun, Result.andThen_ok, Sem.run_pure]) ?_ fun _ => ownP_of (by simp) (by simp)
      have : cells' = cells'.toList.toArray := by simp
      rw [this]
      exact .agg (by simpa using e2) fun j c u hc hu => e3 j c u hc (by simpa using hu)
    · cases hz
  · cases hz

theorem splice_splice {α : Type} {l xs ys : List α} {off : Nat} (h : off + xs.length + ys.length ≤ l.length) : splice (splice l off xs) (off + xs.length) ys = splice l off (xs ++ ys) := by
  apply List.ext_getElem?
  intro j
  rw [splice_get (by rw [splice_length (by omega)]; exact h), splice_get (by omega), splice_get (by simp; omega)]
  simp only [List.length_append]
  by_cases h1 : off + xs.length ≤ j ∧ j < off + xs.length + ys.length
  · rw [if_pos h1, if_pos (by omega), List.getElem?_append_right (by omega)]
    congr 1
    omega
  · rw [if_neg h1]
    by_cases h2 : off ≤ j ∧ j < off + xs.length
    · rw [if_pos h2, if_pos (by omega), List.getElem?_append_left (by omega)]
    · rw [if_neg h2, if_neg (by omega)]
theorem fill_seq {e : Nat} : ∀ (parts : List (Nat × Value)) (k : Nat) (cells : Array Value), (∀ (j i : Nat) (v : Value), parts[j]? = some (i, v) → i = k + j ∧ v.cells.size = e) → (k + parts.length) * e ≤ cells.size →
    Instr.fill (fun i => some (i * e, e)) cells parts = some (splice cells.toList (k * e) (parts.flatMap fun x => x.2.cells.toList)).toArray
  | [], k, cells, _, _ => by simp [Instr.fill, splice]
  | (k, v) :: parts, k0, cells, h, hle => by
    obtain ⟨rfl, hv⟩ := h 0 k v rfl
    simp only [Nat.add_zero, List.length_cons] at h hle ⊢
    have hm : (k + 1) * e ≤ (k + (parts.length + 1)) * e := Nat.mul_le_mul_right _ (by omega)
    have hk1 : k * e + v.cells.size ≤ cells.size := by rw [Nat.add_mul] at hm; omega
    have hnot : ¬ (v.cells.size ≠ e || k * e + v.cells.size > cells.size) = true := by simp; omega
    simp only [Instr.fill]
    rw [if_neg hnot, foldl_cells (k * e) v cells hk1]
    have hlen : (splice cells.toList (k * e) v.cells.toList).length = cells.size := by rw [splice_length (by simpa using hk1)]; simp
    rw [fill_seq parts (k + 1) _ (fun j i' v' hj => by have := h (j + 1) i' v' (by simpa using hj); exact ⟨by omega, this.2⟩) (by simp [hlen]; rw [show k + 1 + parts.length = k + (parts.length + 1) by omega]; exact hle)]
    have hfl : (parts.flatMap fun x => x.2.cells.toList).length = parts.length * e := by
      have hall : ∀ x ∈ parts, x.2.cells.size = e := fun x hx => by
        obtain ⟨j, hj⟩ := List.mem_iff_getElem?.1 hx
        exact (h (j + 1) x.1 x.2 (by simpa using hj)).2
      clear h hle hm hk1 hnot hlen
      induction parts with
      | nil => simp
      | cons x parts ih => simp only [List.flatMap_cons, List.length_append, List.length_cons, ih fun y hy => hall y (by simp [hy]), Array.length_toList, hall x (by simp), Nat.add_mul]; omega
    congr 2
    have he1 : (k + 1) * e = k * e + v.cells.toList.length := by rw [Nat.add_mul]; simp [hv]
    rw [List.flatMap_cons, he1, List.toList_toArray]
    refine splice_splice ?_
    have q1 : v.cells.toList.length = e := by simp [hv]
    have q2 : cells.toList.length = cells.size := by simp
    rw [hfl, q1, q2]
    rw [show k + (parts.length + 1) = k + 1 + parts.length by omega, Nat.add_mul (k + 1), Nat.add_mul] at hle
    omega
theorem flat_rr {e : Nat} : ∀ {l : List PV} {vs : List Value}, l.length = vs.length → (∀ (k : Nat) (p : PV) (v : Value), l[k]? = some p → vs[k]? = some v → Rr g w p v) → (∀ p ∈ l, p.cells.length = e ∧ p.cells.all PV.leaf = true) →
    (∀ v ∈ vs, v.cells.size = e) ∧ ∀ (k : Nat) (c : PV) (u : Value), (flat l)[k]? = some c → (vs.flatMap fun v => v.cells.toList)[k]? = some u → Rr g w c u
  | [], [], _, _, _ => ⟨by simp, fun k c u h => by simp [flat] at h⟩
  | p :: l, v :: vs, hl, hr, hok => by
    obtain ⟨h1, h2⟩ := flat_rr (l := l) (vs := vs) (by simpa using hl) (fun k => hr (k + 1)) (fun q hq => hok q (by simp [hq]))
    obtain ⟨hc1, hc2⟩ := (hr 0 p v rfl rfl).cells (notAgg_of_leaf (hok p (by simp)).2)
    have hpe := (hok p (by simp)).1
    refine ⟨fun u hu => by simp at hu; rcases hu with rfl | hu; exact hc1.symm.trans hpe; exact h1 u hu, fun k c u hc hu => ?_⟩
    simp only [flat, List.flatMap_cons] at hc hu
    rcases Nat.lt_or_ge k e with hk | hk
    · rw [List.getElem?_append_left (by omega)] at hc
      rw [List.getElem?_append_left (by simp; omega)] at hu
      exact hc2 k c u hc (by simpa using hu)
    · rw [List.getElem?_append_right (by omega), hpe] at hc
      rw [List.getElem?_append_right (by simp; omega)] at hu
      simp only [Array.length_toList, ← hc1, hpe] at hu
      exact h2 _ c u hc hu
  | [], _ :: _, h, _, _ => by simp at h
  | _ :: _, [], h, _, _ => by simp at h
theorem flatV_length {e : Nat} : ∀ {vs : List Value}, (∀ v ∈ vs, v.cells.size = e) → (vs.flatMap fun v => v.cells.toList).length = vs.length * e
  | [], _ => by simp
  | v :: vs, h => by
    have ih := flatV_length (vs := vs) fun y hy => h y (List.mem_cons_of_mem _ hy)
    simp only [List.flatMap_cons, List.length_append, List.length_cons, ih, Array.length_toList, h v (by simp), Nat.add_mul]
    omega
theorem idxs_spec : ∀ {l : List (Nat × Operand)} {k : Nat}, idxs k l = true → ∀ (j i : Nat) (x : Operand), l[j]? = some (i, x) → i = k + j
  | [], _, _, j, i, x, h => by simp at h
  | (i0, x0) :: l, k, hi, j, i, x, h => by
    simp only [idxs, Bool.and_eq_true] at hi
    cases j with
    | zero => simp at h; obtain ⟨rfl, rfl⟩ := h; simpa using hi.1
    | succ j => have := idxs_spec hi.2 j i x (by simpa using h); omega
theorem do_bsl {t len e el : Nat} {parts : Array (Nat × Operand)} (hR : Rel g st a w) (ho : o.op = .buildSlice t len parts) (hlen : len = parts.size) (hidx : idxs 0 parts.toList = true) (hsm : len * e ≤ 16777216) (he0 : 0 < e) (hu : P.underlying t = some (.slice el))
    {i : TypeInfo} {z : Value} (hi : P.info? el = some i) (hsz : i.size = e) (hz : i.zero = some z) (hzc : z.cells.size = e) {ins : List X} {l : List PV} {q : PV} (hx : RxL g w ins l ((parts.toList.map (·.2)).map a.eval)) (he : pBsl e l = some q) : Does P o a w g st K q := by
  unfold pBsl at he
  split at he
  · rename_i hall
    cases he
    obtain ⟨hx1, hx2, hx3⟩ := rxL_get hx
    have hok : ∀ p ∈ l, p.cells.length = e ∧ p.cells.all PV.leaf = true := fun p hp => by
      have := List.all_eq_true.1 hall p hp
      simpa [PV.cellsOk] using this
    have hnl : ∀ p ∈ l, p.isLoc = false := fun p hp => by
      have := (hok p hp).2
      cases p <;> simp_all [PV.isLoc, PV.cells, PV.leaf]
    have hr : ∀ (k : Nat) (p : PV) (v : Value), l[k]? = some p → ((parts.toList.map (·.2)).map a.eval)[k]? = some v → Rr g w p.norm v := fun k p v hp hv => by
      obtain ⟨x, _, h⟩ := hx3 k p v hp hv
      exact (h.rr (hnl p (List.mem_of_getElem? hp))).norm
    have hnorm : ∀ p ∈ l, p.norm.cells.length = e ∧ p.norm.cells.all PV.leaf = true := fun p hp => by
      obtain ⟨h1, h2⟩ := hok p hp
      cases p with
      | agg cs =>
        simp only [PV.cells, List.all_eq_true] at h2
        refine ⟨by simpa [PV.norm, PV.cells] using h1, ?_⟩
        simp only [PV.norm, PV.cells, List.all_map, List.all_eq_true, Function.comp]
        intro c hc
        have := h2 c hc
        cases c <;> simp_all [PV.normLeaf, PV.leaf]
      | sl m nl xs => exact ⟨by simpa [PV.norm, PV.normLeaf, PV.cells] using h1, by simp [PV.norm, PV.normLeaf, PV.cells, PV.leaf]⟩
      | _ => simp_all [PV.norm, PV.normLeaf, PV.cells, PV.leaf]
    have hvl : ((parts.toList.map (·.2)).map a.eval).length = parts.size := by simp
    obtain ⟨hve, hfr⟩ := flat_rr (g := g) (w := w) (e := e) (l := l.map PV.norm) (vs := (parts.toList.map (·.2)).map a.eval) (by simpa using hx1)
      (fun k p v hp hv => by
        simp only [List.getElem?_map, Option.map_eq_some_iff] at hp
        obtain ⟨p', hp', rfl⟩ := hp
        exact hr k p' v hp' hv)
      (fun p hp => by simp only [List.mem_map] at hp; obtain ⟨p', hp', rfl⟩ := hp; exact hnorm p' hp')
    have hvlen := flatV_length hve
    have hll : l.length = len := by rw [hx1, hvl, hlen]
    have hfill := fill_seq (e := e) (parts.toList.map fun x => (x.1, a.eval x.2)) 0 ((Array.range (len * e)).map (z.cells[· % z.cells.size]!))
      (fun j i v hj => by
        simp only [List.getElem?_map, Option.map_eq_some_iff] at hj
        obtain ⟨⟨i', y⟩, hj, he⟩ := hj
        simp at he
        obtain ⟨rfl, rfl⟩ := he
        exact ⟨idxs_spec hidx j i' y hj, hve _ (by simp only [List.mem_map]; exact ⟨y, ⟨(i', y), List.mem_of_getElem? hj, rfl⟩, rfl⟩)⟩)
      (by simp [hlen])
    have hfm : ((parts.toList.map fun x => (x.1, a.eval x.2)).flatMap fun x => x.2.cells.toList) = (((parts.toList.map (·.2)).map a.eval).flatMap fun v => v.cells.toList) := by simp [List.flatMap_map]
    rw [hfm] at hfill
    generalize hus : (((parts.toList.map (·.2)).map a.eval).flatMap fun v => v.cells.toList) = us at *
    have hul : us.length = len * e := by rw [hvlen, hvl, hlen]
    have hspl : splice ((Array.range (len * e)).map (z.cells[· % z.cells.size]!)).toList (0 * e) us = us := by
      simp [splice, hul]
    rw [hspl] at hfill
    have hrun : (Instr.buildSlice t len (parts.map fun x => (x.1, a.eval x.2))).run P w = .ok (.slice (some ⟨w.heap.size, 0, none⟩) len len) (w.alloc (.cells us.toArray el)) := by
      have hn : ¬ (len * e > 2 ^ 24) := by omega
      by_cases h0 : len * e = 0
      · have hp0 : parts = #[] := by
          have : parts.size = 0 := by rcases Nat.mul_eq_zero.1 h0 with h | h <;> omega
          exact Array.eq_empty_of_size_eq_zero this
        subst hp0
        have hus0 : us = [] := by rw [← hus]; rfl
        subst hus0
        have hl0 : len = 0 := by simpa using hlen
        subst hl0
        simp [Instr.buildSlice, Go.underlying, hu, Go.sizeOf, typeInfo, hi, hsz, Instr.fill, newRow, Array.range_zero']
      · simp only [Instr.buildSlice, Sem.run_bind, Go.underlying, run_program, Result.andThen_ok, hu, Sem.run_pure, Go.sizeOf, typeInfo, hi, hsz, hn, if_false, h0, zeroValue, hz, Array.toList_map]
        rw [hfill]
        simp [newRow]
    have hfin := Does.fresh (P := P) (o := o) (a := a) (g := g) (st := st) (K := K) (v := default) (w' := w.alloc (.cells us.toArray el)) (vs := us.toArray) (ty := el) (fz := (0, 0)) (m := .full) (nl := some false) (xs := l.map PV.norm) (cap := len) (sz := e) (us := us) (rest := []) hR
      (by simp only [execOp, ho, Sem.run_bind, hrun, Result.andThen_ok, Sem.run_pure, List.length_map, hll]) ⟨rfl, rfl, rfl, rfl⟩ (by simp) (by rw [hul]; simp [hll]) (by simp [hll]) (by simp) (by simp [hll])
      (fun p hp => by simp only [List.mem_map] at hp; obtain ⟨p', hp', rfl⟩ := hp; exact hnorm p' hp') hfr (by simp)
    exact hfin
  · cases he
end
end Go.Pv
