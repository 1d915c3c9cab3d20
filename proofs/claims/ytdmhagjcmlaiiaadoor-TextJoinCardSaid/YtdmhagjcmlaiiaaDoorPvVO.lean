/- Pv: arrays of strings fit. -/
import Derived.Test.YtdmhagjcmlaiiaaDoorPvVN
set_option linter.unusedVariables false
set_option linter.unusedSimpArgs false
namespace Go.Pv.Try
theorem formed_str {x : ByteArray} (hv : vl x = true) : formedV (strV x) = true := by
  simp only [strV, formedV, fmHead, hv, List.length_nil]
  rfl
theorem f1_ok {k n : Int} (h1 : n ≤ 4096) (h2 : 0 ≤ k) (h3 : k ≤ 6) : f1 k n = false := by
  simp only [f1, Bool.or_eq_false_iff, decide_eq_false_iff_not]
  omega
theorem fits_str (fo : Bool) {x : ByteArray} {ar n b : Int} (hx : x.size ≤ 4096) (hv : vl x = true) (hn0 : 0 ≤ n) (hn : n < 4096) (hb0 : 0 ≤ b) (hb : b + (x.size : Int) ≤ 65536) : fitsV fo (strV x) ar n b = (true, n + 1, b + (x.size : Int)) := by
  have hw : IntKind.i64.wrap (n + 1) = n + 1 := wrap64 (by omega) (by omega)
  have hw2 : IntKind.i64.wrap (b + (x.size : Int)) = b + (x.size : Int) := wrap64 (by omega) (by omega)
  have hf1 : f1 4 (n + 1) = false := f1_ok (by omega) (by omega) (by omega)
  have hf2 : f2 fo (.mk 4 0 x true [] true []) = false := by
    have := formed_str hv
    simp only [strV] at this
    simp only [f2, this, Bool.not_true, Bool.and_false, Bool.or_false]
    rw [show decide ((x.size : Int) > 4096) = false from decide_eq_false (by omega), Bool.and_false]
  have hbig : decide (b + (x.size : Int) > 65536) = false := decide_eq_false (by omega)
  have h5 : decide ((4 : Int) < 5) = true := rfl
  simp only [strV, fitsV, hw, hw2, hf1, hf2, keyB, hbig, h5, cond_false, cond_true]
theorem fits_strs (fo : Bool) (ar : Int) : ∀ (ks : List ByteArray) (n b : Int), (∀ x, x ∈ ks → x.size ≤ 4096 ∧ vl x = true) → 0 ≤ n → n + (ks.length : Int) ≤ 4096 → 0 ≤ b → b + (tot ks : Int) ≤ 65536 → fitsL fo (ks.map strV) ar n b = (true, n + (ks.length : Int), b + (tot ks : Int))
  | [], n, b, _, _, _, _, _ => by simp [fitsL, tot]
  | x :: ks, n, b, h, hn0, hn, hb0, hb => by
    simp only [List.length_cons, tot, Int.natCast_add, Int.natCast_one] at hn hb
    obtain ⟨h1, h2⟩ := h x (by simp)
    rw [List.map_cons, fitsL, fits_str fo h1 h2 hn0 (by omega) hb0 (by omega)]
    simp only
    rw [fits_strs fo ar ks (n + 1) (b + (x.size : Int)) (fun y hy => h y (by simp [hy])) (by omega) (by omega) (by omega) (by omega)]
    simp only [List.length_cons, tot, Int.natCast_add, Int.natCast_one, Prod.mk.injEq, true_and]
    constructor <;> omega
theorem formed_arr (ks : List ByteArray) : formedV (arrS ks) = true := by
  have hz : vl (⟨#[]⟩ : ByteArray) = true := rfl
  simp only [arrS, arrV, formedV, fmHead, hz, List.length_nil, List.length_map]
  have h5 : decide ((5 : Int) < 5) = false := rfl
  have h6 : ((5 : Int) != 6) = true := rfl
  have h7 : ((0 : Int) != 0) = false := rfl
  have h8 : ((⟨#[]⟩ : ByteArray).toList == (⟨#[]⟩ : ByteArray).toList) = true := beq_self_eq_true _
  have h9 : decide (((0 : Nat) : Int) > 0) = false := rfl
  simp only [h5, h6, h7, h8, h9, Bool.and_false, Bool.not_true, Bool.false_and, Bool.or_false, cond_false, cond_true]
theorem fits_arr (fo : Bool) {ks : List ByteArray} (h : ∀ x, x ∈ ks → x.size ≤ 4096 ∧ vl x = true) (hl : ks.length ≤ 1024) (ht : tot ks ≤ 65536) : (fitsV fo (arrS ks) 0 0 0).1 = true := by
  have hf1 : f1 5 1 = false := rfl
  have hf2 : f2 fo (.mk 5 0 ⟨#[]⟩ true [] true (ks.map strV)) = false := by
    have := formed_arr ks
    simp only [arrS, arrV] at this
    simp only [f2, this, Bool.not_true, Bool.and_false, Bool.or_false]
    rfl
  have hsz : ((⟨#[]⟩ : ByteArray).size : Int) = 0 := rfl
  have hb : decide ((0 : Int) > 65536) = false := rfl
  have h5 : decide ((5 : Int) < 5) = false := rfl
  have ha : decide ((0 : Int) ≥ 32) = false := rfl
  have hll : decide (((ks.map strV).length : Int) > 1024) = false := by rw [List.length_map]; exact decide_eq_false (by omega)
  have e0 : (0 : Int) + 1 = 1 := rfl
  have e00 : (0 : Int) + 0 = 0 := rfl
  have hz0 : IntKind.i64.wrap 0 = 0 := by decide
  have hz1 : IntKind.i64.wrap 1 = 1 := by decide
  simp only [arrS, arrV, fitsV, e0, hz1, hf1, hf2, hsz, e00, hz0, keyB, hb, h5, ha, hll, Bool.or_false, cond_false]
  rw [fits_strs fo 1 ks 1 0 h (by omega) (by omega) (by omega) (by omega)]
theorem okV_str {x : ByteArray} (hx : x.size ≤ 4096) (hv : vl x = true) : okV (strV x) = true := by
  unfold okV
  rw [fits_str true hx hv (by omega) (by omega) (by omega) (by omega)]
theorem fitV_str {x : ByteArray} (hx : x.size ≤ 4096) (hv : vl x = true) : fitV (strV x) = true := by
  unfold fitV
  rw [fits_str false hx hv (by omega) (by omega) (by omega) (by omega)]
/-- A short string is valid just if its text is. -/
theorem okV_bad {x : ByteArray} (hx : x.size ≤ 4096) (hv : vl x = false) : okV (strV x) = false := by
  have hf1 : f1 4 1 = false := rfl
  have hfm : formedV (strV x) = false := by
    simp only [strV, formedV, fmHead, hv, List.length_nil]
    rfl
  have hf2 : f2 true (.mk 4 0 x true [] true []) = true := by
    simp only [strV] at hfm
    simp only [f2, hfm, Bool.not_false, Bool.and_true, Bool.or_true]
  have e0 : (0 : Int) + 1 = 1 := rfl
  have hz1 : IntKind.i64.wrap 1 = 1 := by decide
  simp only [okV, strV, fitsV, e0, hz1, hf1, hf2, cond_false, cond_true]
/-- All that TextJoin asks of the pieces. -/
structure PiecesOk (s sep : ByteArray) : Prop where
  len : (pieces s sep).length ≤ 61
  total : tot (pieces s sep) + sep.size * ((pieces s sep).length - 1) ≤ 4096
  each : ∀ w, w ∈ pieces s sep → w.size ≤ 60 ∧ vl w = true
  joined : joinB (pieces s sep) sep = s
  free : sep.size ≠ 0 → ∀ w, w ∈ pieces s sep → ∀ p, hasP (w.extract p w.size) sep = false
theorem pieces_ok {s sep : ByteArray} (hs : s.size ≤ 60) (hsep : sep.size ≤ 60) (hv : vl s = true) (hvs : vl sep = true) : PiecesOk s sep := by
  by_cases h0 : s.size = 0
  · have hp : pieces s sep = [] := by simp [pieces, h0]
    have hse : s = ⟨#[]⟩ := b_ext (by have := dsize s; rw [h0] at this; rw [List.eq_nil_of_length_eq_zero this])
    refine ⟨by rw [hp]; simp, by rw [hp]; simp [tot], by rw [hp]; simp, ?_, by rw [hp]; simp⟩
    rw [hp, hse]
    rfl
  · have hz : decide (s.size = 0) = false := decide_eq_false h0
    by_cases h1 : sep.size = 0
    · have hz1 : decide (sep.size = 0) = true := decide_eq_true h1
      have hp : pieces s sep = chunks s.size s 0 := by simp only [pieces, hz, hz1, cond_false, cond_true]
      obtain ⟨g1, g2, g3, g4⟩ := chunks_ok (s := s) s.size 0 (Nat.zero_le _) hv
      refine ⟨by rw [hp]; omega, by rw [hp, g3, h1]; omega, fun w hw => ?_, ?_, fun h => absurd h1 h⟩
      · rw [hp] at hw
        have := g1 w hw
        exact ⟨by omega, this.2⟩
      · have hse : sep.data.toList = [] := by have := dsize sep; rw [h1] at this; exact List.eq_nil_of_length_eq_zero this
        apply b_ext
        rw [hp]
        simp only [joinB, hse, join_empty, List.toList_toArray]
        rw [← List.flatMap_def, g2, List.drop_zero]
    · have hz1 : decide (sep.size = 0) = false := decide_eq_false h1
      have hp : pieces s sep = Lib.splitB sep 0 (Lib.countB s sep) s := by simp only [pieces, hz, hz1, cond_false]
      have h1' : 1 ≤ sep.size := by omega
      have hpc := splitB_pieces h1' hvs 60 _ s rfl hv hs
      obtain ⟨g1, g2⟩ := splitB_tot h1' (Lib.countB s sep) s
      refine ⟨by rw [hp]; omega, by rw [hp]; omega, fun w hw => ?_, ?_, fun _ w hw => ?_⟩
      · rw [hp] at hw
        exact ⟨(hpc w hw).size, (hpc w hw).valid⟩
      · apply b_ext
        rw [hp]
        simp only [joinB, List.toList_toArray]
        exact splitB_join h1' _ s
      · rw [hp] at hw
        exact (hpc w hw).free
end Go.Pv.Try
