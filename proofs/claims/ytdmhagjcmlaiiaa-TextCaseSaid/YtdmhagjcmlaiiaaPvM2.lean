/- Pv: letters turned to lower and upper case: the plain facts. -/
import Derived.Test.YtdmhagjcmlaiiaaPvS17
import Derived.Test.YtdmhagjcmlaiiaaPvM1
set_option linter.unusedVariables false
set_option linter.unusedSimpArgs false
namespace Go.Pv.Try
/-- A byte turned. -/
def cb (a d : Int) (b : UInt8) : UInt8 := UInt8.ofNat (cv a d (b.toNat : Int)).toNat
theorem casB_eq (a d : Int) (s : ByteArray) : casB a d s = ⟨(s.data.toList.map (cb a d)).toArray⟩ := by
  simp [casB, ints, cb, List.map_map, Function.comp_def]
theorem casB_size (a d : Int) (s : ByteArray) : (casB a d s).size = s.size := by
  rw [casB_eq]
  show (s.data.toList.map (cb a d)).toArray.size = s.data.size
  simp
theorem casB_get (a d : Int) (s : ByteArray) (i : Nat) (h : i < s.size) (hq : i < (casB a d s).size) : (casB a d s)[i]'hq = cb a d (s[i]'h) := by
  have : ∀ (t : ByteArray), t = ⟨(s.data.toList.map (cb a d)).toArray⟩ → ∀ (hq : i < t.size), t[i]'hq = cb a d (s[i]'h) := by
    rintro t rfl hq
    simp [ByteArray.getElem_eq_getElem_data]
  exact this _ (casB_eq a d s) hq
theorem all_bytes {P : UInt8 → Prop} (h : ∀ n : Nat, n < 256 → P (UInt8.ofNat n)) (b : UInt8) : P b := by
  have := h b.toNat b.toNat_lt
  simpa using this
theorem low_upp_low (b : UInt8) : cb 65 32 (cb 97 (-32) (cb 65 32 b)) = cb 65 32 b := all_bytes (P := fun b => cb 65 32 (cb 97 (-32) (cb 65 32 b)) = cb 65 32 b) (by decide +kernel) b
/-- What keeps ASCII and leaves the rest alone. -/
def Asc (f : UInt8 → UInt8) : Prop := ∀ b : UInt8, if b.toNat < 128 then (f b).toNat < 128 else f b = b
instance (f : UInt8 → UInt8) (b : UInt8) : Decidable (if b.toNat < 128 then (f b).toNat < 128 else f b = b) := by split <;> infer_instance
theorem asc_low : Asc (cb 65 32) := fun b => all_bytes (P := fun b => if b.toNat < 128 then (cb 65 32 b).toNat < 128 else cb 65 32 b = b) (by decide +kernel) b
theorem asc_upp : Asc (cb 97 (-32)) := fun b => all_bytes (P := fun b => if b.toNat < 128 then (cb 97 (-32) b).toNat < 128 else cb 97 (-32) b = b) (by decide +kernel) b
/-- t is s, its bytes turned by f. -/
def Turned (f : UInt8 → UInt8) (s t : ByteArray) : Prop := t.size = s.size ∧ ∀ (i : Nat) (h : i < s.size) (hq : i < t.size), t[i]'hq = f (s[i]'h)
theorem turned_cas (a d : Int) (s : ByteArray) : Turned (cb a d) s (casB a d s) := ⟨casB_size a d s, fun i h hq => casB_get a d s i h hq⟩
theorem cont_high : ∀ n : Nat, n < 256 → bitAnd .u8 (n : Int) 192 = 128 → 128 ≤ n := by decide +kernel
theorem nx_turned {f : UInt8 → UInt8} (hf : Asc f) {s t : ByteArray} (ht : Turned f s t) {p : Nat} {n : Int} (h : nx s p = some n) : nx t p = some n := by
  unfold nx at h ⊢
  split at h
  · rename_i hp
    have hp' : p < t.size := by rw [ht.1]; exact hp
    rw [dif_pos hp', ht.2 p hp hp']
    split at h
    · rename_i h1
      have hh := cont_high _ (UInt8.toNat_lt _) h1
      have := hf (s[p]'hp)
      rw [if_neg (by omega)] at this
      rw [this, if_pos h1]
      exact h
    · cases h
  · cases h
theorem cont_turned {f : UInt8 → UInt8} (hf : Asc f) {s t : ByteArray} (ht : Turned f s t) : ∀ {k p : Nat} {r r' : Int}, cont k s p r = some r' → cont k t p r = some r'
  | 0, _, _, _, h => h
  | k + 1, p, r, r', h => by
    simp only [cont] at h ⊢
    split at h
    · rename_i n hn
      rw [nx_turned hf ht hn]
      exact cont_turned hf ht h
    · cases h
theorem fin_turned {f : UInt8 → UInt8} (hf : Asc f) {s t : ByteArray} (ht : Turned f s t) {k size p : Nat} {least r : Int} {x : Int × Nat} (h : fin size least (cont k s p r) = some x) : fin size least (cont k t p r) = some x := by
  cases hc : cont k s p r with
  | none => rw [hc] at h; cases h
  | some r' => rw [cont_turned hf ht hc]; rw [hc] at h; exact h
theorem wrap_byte (b : UInt8) : IntKind.i64.wrap (b.toNat : Int) = (b.toNat : Int) := wrap64 (by omega) (by have := b.toNat_lt; omega)
theorem dec_turned {f : UInt8 → UInt8} (hf : Asc f) {s t : ByteArray} (ht : Turned f s t) {p : Nat} {r : Int} {n : Nat} (h : dec s p = some (r, n)) : ∃ r', dec t p = some (r', n) := by
  unfold dec at h ⊢
  split at h
  · rename_i hp
    have hp' : p < t.size := by rw [ht.1]; exact hp
    rw [dif_pos hp', ht.2 p hp hp']
    have hb := hf (s[p]'hp)
    rw [wrap_byte] at h ⊢
    split at hb
    · rename_i hlow
      have h1 : decB s p ((s[p]'hp).toNat : Int) = some (((s[p]'hp).toNat : Int), 1) := by
        unfold decB
        rw [show decide (((s[p]'hp).toNat : Int) < 128) = true by simp; omega]
        rfl
      rw [h1] at h
      cases h
      refine ⟨((f (s[p]'hp)).toNat : Int), ?_⟩
      unfold decB
      rw [show decide (((f (s[p]'hp)).toNat : Int) < 128) = true by simp; omega]
      rfl
    · rw [hb]
      refine ⟨r, ?_⟩
      revert h
      unfold decB
      simp only [cond_eq_ite]
      intro h
      split
      · rename_i h1; rw [if_pos h1] at h; exact h
      · rename_i h1; rw [if_neg h1] at h
        split
        · rename_i h2; rw [if_pos h2] at h; exact fin_turned hf ht h
        · rename_i h2; rw [if_neg h2] at h
          split
          · rename_i h3; rw [if_pos h3] at h; exact fin_turned hf ht h
          · rename_i h3; rw [if_neg h3] at h
            split
            · rename_i h4; rw [if_pos h4] at h; exact fin_turned hf ht h
            · rename_i h4; rw [if_neg h4] at h; exact h
  · cases h
theorem Vl_turned {f : UInt8 → UInt8} (hf : Asc f) {s t : ByteArray} (ht : Turned f s t) : ∀ {k p : Nat}, Vl k s p = true → Vl k t p = true
  | 0, p, h => by simp only [Vl, ht.1] at h ⊢; exact h
  | k + 1, p, h => by
    simp only [Vl, cond_eq_ite] at h
    unfold Vl
    simp only [cond_eq_ite, ht.1]
    split at h
    · rename_i h1; rw [if_pos h1]
    · rename_i h1
      rw [if_neg h1]
      cases hd : dec s p with
      | none => rw [hd] at h; cases h
      | some x =>
        obtain ⟨r, n⟩ := x
        rw [hd] at h
        obtain ⟨r', hd'⟩ := dec_turned hf ht hd
        rw [hd']
        exact Vl_turned hf ht h
theorem okS_turned {f : UInt8 → UInt8} (hf : Asc f) {s t : ByteArray} (ht : Turned f s t) (h : okS s = true) : okS t = true := by
  simp only [okS, Bool.and_eq_true] at h ⊢
  refine ⟨by rw [ht.1]; exact h.1, ?_⟩
  unfold vl
  rw [ht.1]
  exact Vl_turned hf ht h.2
theorem ok_low {s : ByteArray} (h : okS s = true) : okS (lowB s) = true := okS_turned asc_low (turned_cas _ _ _) h
theorem ok_upp {s : ByteArray} (h : okS s = true) : okS (uppB s) = true := okS_turned asc_upp (turned_cas _ _ _) h
theorem low_again (s : ByteArray) : lowB (uppB (lowB s)) = lowB s := by
  unfold lowB uppB
  rw [casB_eq 65 32 (casB 97 (-32) (casB 65 32 s)), casB_eq 97, casB_eq 65 32 s]
  simp only [List.toList_toArray, List.map_map]
  congr 2
  apply List.map_congr_left
  intro b _
  exact low_upp_low b
/-- The letter at a place, in the law's own words. -/
theorem low_at (b : UInt8) : (bif decide (((b.toNat : Nat) : Int) ≥ 65) then bif decide (((b.toNat : Nat) : Int) ≤ 90) then ((cb 65 32 b).toNat : Int) == IntKind.u8.wrap ((b.toNat : Int) + 32) else ((cb 65 32 b).toNat : Int) == (b.toNat : Int) else ((cb 65 32 b).toNat : Int) == (b.toNat : Int)) = true :=
  all_bytes (P := fun b => (bif decide (((b.toNat : Nat) : Int) ≥ 65) then bif decide (((b.toNat : Nat) : Int) ≤ 90) then ((cb 65 32 b).toNat : Int) == IntKind.u8.wrap ((b.toNat : Int) + 32) else ((cb 65 32 b).toNat : Int) == (b.toNat : Int) else ((cb 65 32 b).toNat : Int) == (b.toNat : Int)) = true) (by decide +kernel) b
theorem trimB_size (s : ByteArray) : (trimB s).size ≤ s.size := by
  unfold trimB
  obtain ⟨j, h1, h2⟩ := trF_pre s.size (s.extract (skF s.size s 0) s.size)
  rw [h2]
  simp
  omega
/-- keep.Prefix. -/
def pre (p s : ByteArray) : Bool := decide (p.size ≤ s.size) && ((s.extract 0 p.size).toList == p.toList)
theorem trim_pre (s : ByteArray) : pre (trimB s) (s.extract (skF s.size s 0) s.size) = true := by
  unfold trimB
  obtain ⟨j, h1, h2⟩ := trF_pre s.size (s.extract (skF s.size s 0) s.size)
  rw [h2]
  generalize s.extract (skF s.size s 0) s.size = t at h1 ⊢
  have hs : (t.extract 0 j).size = j := by simp; omega
  simp [pre, hs, h1]
end Go.Pv.Try
