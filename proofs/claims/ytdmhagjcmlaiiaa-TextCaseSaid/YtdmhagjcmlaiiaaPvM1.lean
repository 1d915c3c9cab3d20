/- Pv: strings put together: their validity, and what is before and behind. -/
import Derived.Test.YtdmhagjcmlaiiaaPvS11
set_option linter.unusedVariables false
set_option linter.unusedSimpArgs false
namespace Go.Pv.Try
theorem nx_app_l {s t : ByteArray} {p : Nat} {n : Int} (h : nx s p = some n) : nx (s ++ t) p = some n := by
  unfold nx at h ⊢
  split at h
  · rename_i hp
    have hp' : p < (s ++ t).size := by rw [ByteArray.size_append]; omega
    rw [dif_pos hp', ByteArray.getElem_append_left hp]
    exact h
  · cases h
theorem cont_app_l : ∀ {k : Nat} {s t : ByteArray} {p : Nat} {r r' : Int}, cont k s p r = some r' → cont k (s ++ t) p r = some r'
  | 0, _, _, _, _, _, h => h
  | k + 1, s, t, p, r, r', h => by
    simp only [cont] at h ⊢
    split at h
    · rename_i n hn
      rw [nx_app_l hn]
      exact cont_app_l h
    · cases h
theorem fin_app_l {k size : Nat} {least : Int} {s t : ByteArray} {p : Nat} {r : Int} {x : Int × Nat} (h : fin size least (cont k s p r) = some x) : fin size least (cont k (s ++ t) p r) = some x := by
  cases hc : cont k s p r with
  | none => rw [hc] at h; cases h
  | some r' => rw [cont_app_l hc]; rw [hc] at h; exact h
theorem dec_app_l {s t : ByteArray} {p : Nat} {x : Int × Nat} (h : dec s p = some x) : dec (s ++ t) p = some x := by
  unfold dec at h ⊢
  split at h
  · rename_i hp
    have hp' : p < (s ++ t).size := by rw [ByteArray.size_append]; omega
    rw [dif_pos hp', ByteArray.getElem_append_left hp]
    revert h
    unfold decB
    simp only [cond_eq_ite]
    intro h
    split
    · rename_i h1; rw [if_pos h1] at h; exact h
    · rename_i h1; rw [if_neg h1] at h
      split
      · rename_i h2; rw [if_pos h2] at h; exact fin_app_l h
      · rename_i h2; rw [if_neg h2] at h
        split
        · rename_i h3; rw [if_pos h3] at h; exact fin_app_l h
        · rename_i h3; rw [if_neg h3] at h
          split
          · rename_i h4; rw [if_pos h4] at h; exact fin_app_l h
          · rename_i h4; rw [if_neg h4] at h; exact h
  · cases h
theorem get_app_r {s t : ByteArray} {p : Nat} (h : p < t.size) (hq : s.size + p < (s ++ t).size) : (s ++ t)[s.size + p]'hq = t[p]'h := by
  rw [ByteArray.getElem_append_right (by omega)]
  congr 1
  omega
theorem nx_app_r (s t : ByteArray) (p : Nat) : nx (s ++ t) (s.size + p) = nx t p := by
  unfold nx
  by_cases h : p < t.size
  · have h' : s.size + p < (s ++ t).size := by rw [ByteArray.size_append]; omega
    rw [dif_pos h, dif_pos h', get_app_r h h']
  · have h' : ¬ s.size + p < (s ++ t).size := by rw [ByteArray.size_append]; omega
    rw [dif_neg h, dif_neg h']
theorem cont_app_r : ∀ (k : Nat) (s t : ByteArray) (p : Nat) (r : Int), cont k (s ++ t) (s.size + p) r = cont k t p r
  | 0, _, _, _, _ => rfl
  | k + 1, s, t, p, r => by
    simp only [cont, nx_app_r]
    cases nx t p with
    | none => rfl
    | some n => exact cont_app_r k s t (p + 1) _
theorem dec_app_r (s t : ByteArray) (p : Nat) : dec (s ++ t) (s.size + p) = dec t p := by
  unfold dec
  by_cases h : p < t.size
  · have h' : s.size + p < (s ++ t).size := by rw [ByteArray.size_append]; omega
    rw [dif_pos h, dif_pos h', get_app_r h h']
    unfold decB
    simp only [Nat.add_assoc, cont_app_r]
  · have h' : ¬ s.size + p < (s ++ t).size := by rw [ByteArray.size_append]; omega
    rw [dif_neg h, dif_neg h']
theorem Vl_app_r (s t : ByteArray) : ∀ (f p : Nat), Vl f (s ++ t) (s.size + p) = Vl f t p
  | 0, p => by simp only [Vl, ByteArray.size_append]; congr 1; exact propext ⟨fun h => by omega, fun h => by omega⟩
  | f + 1, p => by
    have : decide ((s ++ t).size ≤ s.size + p) = decide (t.size ≤ p) := by rw [ByteArray.size_append]; congr 1; exact propext ⟨fun h => by omega, fun h => by omega⟩
    simp only [Vl, this, dec_app_r]
    cases dec t p with
    | none => rfl
    | some x => obtain ⟨r, n⟩ := x; simp only [Nat.add_assoc, Vl_app_r s t f]
theorem Vl_mono : ∀ {f : Nat} {s : ByteArray} {p : Nat}, Vl f s p = true → Vl (f + 1) s p = true
  | 0, s, p, h => by simp only [Vl] at h ⊢; simp only [h, cond_true]
  | f + 1, s, p, h => by
    simp only [Vl, cond_eq_ite] at h
    unfold Vl
    simp only [cond_eq_ite]
    split at h
    · rename_i h1; rw [if_pos h1]
    · rename_i h1
      rw [if_neg h1]
      cases hd : dec s p with
      | none => rw [hd] at h; cases h
      | some x =>
        obtain ⟨r, n⟩ := x
        rw [hd] at h
        have := Vl_mono (f := f) (p := p + n) h
        simpa only [Vl, cond_eq_ite] using this
theorem Vl_app {s t : ByteArray} : ∀ (f : Nat) {p F : Nat}, p ≤ s.size → Vl f s p = true → Vl F t 0 = true → Vl (f + F) (s ++ t) p = true
  | 0, p, F, hp, h, ht => by
    simp only [Vl, decide_eq_true_eq] at h
    have e : p = s.size + 0 := by omega
    rw [Nat.zero_add, e, Vl_app_r]
    exact ht
  | f + 1, p, F, hp, h, ht => by
    simp only [Vl, cond_eq_ite] at h
    split at h
    · rename_i h1
      have h1 := of_decide_eq_true h1
      have := Vl_app (s := s) (t := t) f (p := p) (F := F) hp (by cases f <;> simp [Vl, h1]) ht
      rw [show f + 1 + F = f + F + 1 by omega]
      exact Vl_mono this
    · rename_i h1
      rw [decide_eq_true_eq] at h1
      cases hd : dec s p with
      | none => rw [hd] at h; cases h
      | some x =>
        obtain ⟨r, n⟩ := x
        rw [hd] at h
        have hb := dec_bound hd
        rw [show f + 1 + F = f + F + 1 by omega]
        have hn : decide ((s ++ t).size ≤ p) = false := by rw [ByteArray.size_append]; simp; omega
        simp only [Vl, hn, cond_false, dec_app_l hd]
        exact Vl_app f hb.2 h ht
theorem vl_app {s t : ByteArray} (hs : vl s = true) (ht : vl t = true) : vl (s ++ t) = true := by
  unfold vl
  rw [ByteArray.size_append]
  exact Vl_app _ (by omega) hs ht
theorem hasP_app (a b : ByteArray) : hasP (a ++ b) a = true := by
  simp [hasP, ByteArray.size_append, ByteArray.extract_append_eq_left rfl]
theorem trimP_app (a b : ByteArray) : trimP (a ++ b) a = b := by
  simp [trimP, hasP_app, ByteArray.size_append, ByteArray.extract_append_eq_right]
theorem hasS_app (a b : ByteArray) : hasS (a ++ b) b = true := by
  simp [hasS, ByteArray.size_append, ByteArray.extract_append_eq_right]
theorem trimS_app (a b : ByteArray) : trimS (a ++ b) b = a := by
  simp [trimS, hasS_app, ByteArray.size_append, ByteArray.extract_append_eq_left]
theorem okS_app {a b : ByteArray} (ha : okS a = true) (hb : okS b = true) (hl : a.size + b.size ≤ 4096) : okS (a ++ b) = true := by
  simp only [okS, Bool.and_eq_true, ByteArray.size_append] at ha hb ⊢
  exact ⟨by simp; omega, vl_app ha.2 hb.2⟩
end Go.Pv.Try
