/- Pv: the laws of a string's pieces. -/
import Derived.Test.YtdmhagjcmlaiiaaDoorPvVM
set_option linter.unusedVariables false
set_option linter.unusedSimpArgs false
namespace Go.Pv.Try
open Go.Lib
theorem b_ext {a b : ByteArray} (h : a.data.toList = b.data.toList) : a = b := ByteArray.ext (Array.ext' h)
theorem app_data (a b : ByteArray) : (a ++ b).data.toList = a.data.toList ++ b.data.toList := by simp
theorem ext_data (s : ByteArray) (i j : Nat) : (s.extract i j).data.toList = (s.data.toList.take j).drop i := by
  simp [List.drop_take]
theorem dsize (s : ByteArray) : s.data.toList.length = s.size := by simp
/-- s, cut where the separator first begins. -/
theorem cut_at {s sep : ByteArray} {i : Nat} (h : indexB s sep = i) (h1 : 1 ≤ sep.size) : i + sep.size ≤ s.size ∧ s = s.extract 0 i ++ (sep ++ s.extract (i + sep.size) s.size) ∧ ∀ j, j < i → occAt s.data.toList sep.data.toList j = false := by
  have hroom : i + sep.size ≤ s.size := by
    rcases indexB_cases s sep with h' | ⟨k, h', hk⟩
    · rw [h'] at h; omega
    · have : k = i := by rw [h'] at h; omega
      omega
  rcases index_spec s.data.toList sep.data.toList with ⟨h', _⟩ | ⟨k, h', _, ho, hno⟩
  · have : indexB s sep = -1 := h'
    omega
  · have hk : k = i := by have : indexB s sep = k := h'; omega
    subst hk
    refine ⟨hroom, ?_, hno⟩
    have hpre : sep.data.toList <+: s.data.toList.drop k := by simpa [occAt] using ho
    obtain ⟨r, hr⟩ := hpre
    apply b_ext
    rw [app_data, app_data, ext_data, ext_data, List.drop_zero, List.take_of_length_le (l := s.data.toList) (i := s.size) (by rw [dsize]; exact Nat.le_refl _)]
    have hr2 : s.data.toList.drop (k + sep.size) = r := by
      rw [← List.drop_drop, ← hr, ← dsize sep]
      simp
    rw [hr2, hr, List.take_append_drop]
theorem occ_of_hasP {w sep : ByteArray} {p : Nat} (h1 : 1 ≤ sep.size) (h : hasP (w.extract p w.size) sep = true) : p + sep.size ≤ w.size ∧ occAt w.data.toList sep.data.toList p = true := by
  simp only [hasP, Bool.and_eq_true, decide_eq_true_eq, beq_iff_eq] at h
  obtain ⟨ha, hb⟩ := h
  have hsz : (w.extract p w.size).size = w.size - p := by simp
  rw [hsz] at ha
  refine ⟨by omega, ?_⟩
  rw [ba_list, ba_list, ext_data, ext_data, List.drop_zero, List.take_of_length_le (l := w.data.toList) (i := w.size) (by rw [dsize]; exact Nat.le_refl _)] at hb
  simp only [occAt, List.isPrefixOf_iff_prefix]
  rw [← hb]
  exact List.take_prefix _ _
/-- What each piece is like. -/
structure Piece (N : Nat) (sep w : ByteArray) : Prop where
  size : w.size ≤ N
  valid : vl w = true
  free : ∀ p, hasP (w.extract p w.size) sep = false
theorem free_of {w sep : ByteArray} (h1 : 1 ≤ sep.size) (h : ∀ j, j + sep.size ≤ w.size → occAt w.data.toList sep.data.toList j = false) : ∀ p, hasP (w.extract p w.size) sep = false := by
  intro p
  cases hh : hasP (w.extract p w.size) sep with
  | false => rfl
  | true =>
    obtain ⟨h2, h3⟩ := occ_of_hasP h1 hh
    rw [h p h2] at h3
    cases h3
theorem occ_left {s A T sep : ByteArray} (h : s = A ++ T) {j : Nat} (hj : j + sep.size ≤ A.size) (ho : occAt A.data.toList sep.data.toList j = true) : occAt s.data.toList sep.data.toList j = true := by
  subst h
  simp only [occAt, List.isPrefixOf_iff_prefix] at ho ⊢
  rw [app_data, List.drop_append_of_le_length (by rw [dsize]; omega)]
  exact ho.trans (List.prefix_append _ _)
theorem splitB_pieces {sep : ByteArray} (h1 : 1 ≤ sep.size) (hv : vl sep = true) (N : Nat) : ∀ (k : Nat) (s : ByteArray), countB s sep = k → vl s = true → s.size ≤ N → ∀ w, w ∈ splitB sep 0 k s → Piece N sep w
  | 0, s, hk, hs, hN, w, hw => by
    simp only [splitB, List.mem_singleton] at hw
    subst hw
    refine ⟨hN, hs, free_of h1 fun j hj => ?_⟩
    rcases indexB_cases w sep with hix | ⟨i, hix, _⟩
    · rcases index_spec w.data.toList sep.data.toList with ⟨_, hno⟩ | ⟨i, h', _⟩
      · exact hno j (by rw [dsize]; omega)
      · have : indexB w sep = i := h'
        omega
    · have := countB_hit w sep i h1 hix
      omega
  | k + 1, s, hk, hs, hN, w, hw => by
    rcases indexB_cases s sep with hix | ⟨i, hix, _⟩
    · rw [countB_miss s sep hix] at hk; omega
    · obtain ⟨hroom, hcut, hno⟩ := cut_at hix h1
      have hvv := vl_cut (hcut ▸ hs : vl (s.extract 0 i ++ (sep ++ s.extract (i + sep.size) s.size)) = true) hv h1
      have hc : countB (s.extract (i + sep.size) s.size) sep = k := by have := countB_hit s sep i h1 hix; omega
      rw [splitB_hit sep 0 k s i hix, List.mem_cons] at hw
      have hAsz : (s.extract 0 i).size = i := by simp; omega
      rcases hw with rfl | hw
      · rw [Nat.add_zero]
        refine ⟨by rw [hAsz]; omega, hvv.1, free_of h1 fun j hj => ?_⟩
        rw [hAsz] at hj
        cases ho : occAt (s.extract 0 i).data.toList sep.data.toList j with
        | false => rfl
        | true =>
          have := occ_left hcut (by rw [hAsz]; exact hj) ho
          rw [hno j (by omega)] at this
          cases this
      · exact splitB_pieces h1 hv N k _ hc hvv.2 (by simp; omega) w hw
theorem join_ne {x : List UInt8} {r : List (List UInt8)} {sep : List UInt8} (h : r ≠ []) : join (x :: r) sep = x ++ (sep ++ join r sep) := by
  obtain ⟨y, t, rfl⟩ := List.exists_cons_of_ne_nil h
  rw [join_cons, join_cons]
  simp [joinTail]
theorem splitB_join {sep : ByteArray} (h1 : 1 ≤ sep.size) : ∀ (k : Nat) (s : ByteArray), join ((splitB sep 0 k s).map (·.data.toList)) sep.data.toList = s.data.toList
  | 0, s => by simp [splitB, join_one]
  | k + 1, s => by
    rcases indexB_cases s sep with hix | ⟨i, hix, _⟩
    · rw [splitB_miss sep 0 (k + 1) s hix]; simp [join_one]
    · obtain ⟨hroom, hcut, _⟩ := cut_at hix h1
      have hne : (splitB sep 0 k (s.extract (i + sep.size) s.size)).map (·.data.toList) ≠ [] := by
        intro h
        exact splitB_ne sep k _ (List.map_eq_nil_iff.1 h)
      rw [splitB_hit sep 0 k s i hix, List.map_cons, join_ne hne, splitB_join h1 k, Nat.add_zero]
      conv => rhs; rw [hcut, app_data, app_data]
theorem splitB_tot {sep : ByteArray} (h1 : 1 ≤ sep.size) : ∀ (k : Nat) (s : ByteArray), tot (splitB sep 0 k s) + sep.size * ((splitB sep 0 k s).length - 1) = s.size ∧ (splitB sep 0 k s).length ≤ s.size + 1
  | 0, s => by simp [splitB, tot]
  | k + 1, s => by
    rcases indexB_cases s sep with hix | ⟨i, hix, _⟩
    · rw [splitB_miss sep 0 (k + 1) s hix]; simp [tot]
    · obtain ⟨hroom, _, _⟩ := cut_at hix h1
      have hne := splitB_ne sep k (s.extract (i + sep.size) s.size)
      obtain ⟨h2, h3⟩ := splitB_tot h1 k (s.extract (i + sep.size) s.size)
      have hB : (s.extract (i + sep.size) s.size).size = s.size - (i + sep.size) := by simp
      have hAsz : (s.extract 0 i).size = i := by simp; omega
      rw [splitB_hit sep 0 k s i hix]
      simp only [tot, List.length_cons, Nat.add_zero, hAsz, Nat.add_sub_cancel]
      rw [hB] at h2 h3
      revert h2 h3
      generalize hl : splitB sep 0 k (s.extract (i + sep.size) s.size) = l at hne ⊢
      cases l with
      | nil => exact absurd rfl hne
      | cons a l =>
        intro h2 h3
        simp only [List.length_cons, Nat.add_sub_cancel] at h2 h3 ⊢
        rw [Nat.mul_add, Nat.mul_one]
        constructor <;> omega
/-- The pieces of one code point each. -/
theorem chunks_ok {s : ByteArray} : ∀ (f p : Nat), p ≤ s.size → Vl f s p = true → (∀ w, w ∈ chunks f s p → w.size ≤ s.size ∧ vl w = true) ∧ (chunks f s p).flatMap (·.data.toList) = s.data.toList.drop p ∧ tot (chunks f s p) = s.size - p ∧ (chunks f s p).length ≤ s.size - p
  | 0, p, hp, h => by
    simp only [Vl, decide_eq_true_eq] at h
    have : s.data.toList.drop p = [] := List.drop_eq_nil_of_le (by rw [dsize]; omega)
    simp [chunks, this, tot]; omega
  | f + 1, p, hp, h => by
    by_cases hz : s.size ≤ p
    · have : s.data.toList.drop p = [] := List.drop_eq_nil_of_le (by rw [dsize]; omega)
      simp [chunks, hz, this, tot]
    · have hz' : decide (s.size ≤ p) = false := decide_eq_false hz
      cases hd : dec s p with
      | none => simp only [Vl, hz', cond_false, hd, Bool.false_eq_true] at h
      | some x =>
        obtain ⟨r, n⟩ := x
        have hb := dec_bound hd
        simp only [Vl, hz', cond_false, hd] at h
        obtain ⟨g1, g2, g3, g4⟩ := chunks_ok f (p + n) hb.2 h
        have hc : chunks (f + 1) s p = s.extract p (p + n) :: chunks f s (p + n) := by simp only [chunks, hz', cond_false, hd]
        have hsz : (s.extract p (p + n)).size = n := by simp; omega
        rw [hc]
        refine ⟨fun w hw => ?_, ?_, ?_, ?_⟩
        · rcases List.mem_cons.1 hw with rfl | hw
          · exact ⟨by rw [hsz]; omega, vl_one hd⟩
          · exact g1 w hw
        · rw [List.flatMap_cons, g2, ext_data, List.drop_take, Nat.add_sub_cancel_left, ← List.drop_drop, List.take_append_drop]
        · simp only [tot, hsz, g3]; omega
        · simp only [List.length_cons]; omega
theorem join_empty : ∀ l : List (List UInt8), join l [] = l.flatten
  | [] => rfl
  | x :: r => by
    rw [join_cons]
    simp [joinTail]
end Go.Pv.Try
