/- Pv: UTF-8 cut at a separator; the pieces of a string. -/
import Derived.Test.YtdmhagjcmlaiiaaDoorPvV9
set_option linter.unusedVariables false
set_option linter.unusedSimpArgs false
namespace Go.Pv.Try
theorem nx_app_l {s t : ByteArray} {p : Nat} {n : Int} (h : nx s p = some n) : nx (s ++ t) p = some n := by
  unfold nx at h ⊢
  split at h
  · rename_i hp
    have hp' : p < (s ++ t).size := by rw [ByteArray.size_append]; omega
    rw [dif_pos hp', ByteArray.getElem_append_left hp]
    exact h
  · cases h
theorem cont_app_l : ∀ {k : Nat} {s t : ByteArray} {p : Nat} {r r' : Int}, cont k s p r = some r' → cont k (s ++ t) p r = some r'
  | 0, _, _, _, _, _, h => h
  | k + 1, s, t, p, r, r', h => by
    simp only [cont] at h ⊢
    split at h
    · rename_i n hn
      rw [nx_app_l hn]
      exact cont_app_l h
    · cases h
theorem fin_app_l {k size : Nat} {least : Int} {s t : ByteArray} {p : Nat} {r : Int} {x : Int × Nat} (h : fin size least (cont k s p r) = some x) : fin size least (cont k (s ++ t) p r) = some x := by
  cases hc : cont k s p r with
  | none => rw [hc] at h; cases h
  | some r' => rw [cont_app_l hc]; rw [hc] at h; exact h
theorem dec_app_l {s t : ByteArray} {p : Nat} {x : Int × Nat} (h : dec s p = some x) : dec (s ++ t) p = some x := by
  unfold dec at h ⊢
  split at h
  · rename_i hp
    have hp' : p < (s ++ t).size := by rw [ByteArray.size_append]; omega
    rw [dif_pos hp', ByteArray.getElem_append_left hp]
    revert h
    unfold decB
    simp only [cond_eq_ite]
    intro h
    split
    · rename_i h1; rw [if_pos h1] at h; exact h
    · rename_i h1; rw [if_neg h1] at h
      split
      · rename_i h2; rw [if_pos h2] at h; exact fin_app_l h
      · rename_i h2; rw [if_neg h2] at h
        split
        · rename_i h3; rw [if_pos h3] at h; exact fin_app_l h
        · rename_i h3; rw [if_neg h3] at h
          split
          · rename_i h4; rw [if_pos h4] at h; exact fin_app_l h
          · rename_i h4; rw [if_neg h4] at h; exact h
  · cases h
theorem get_app_r {s t : ByteArray} {p : Nat} (h : p < t.size) (hq : s.size + p < (s ++ t).size) : (s ++ t)[s.size + p]'hq = t[p]'h := by
  rw [ByteArray.getElem_append_right (by omega)]
  congr 1
  omega
theorem nx_app_r (s t : ByteArray) (p : Nat) : nx (s ++ t) (s.size + p) = nx t p := by
  unfold nx
  by_cases h : p < t.size
  · have h' : s.size + p < (s ++ t).size := by rw [ByteArray.size_append]; omega
    rw [dif_pos h, dif_pos h', get_app_r h h']
  · have h' : ¬ s.size + p < (s ++ t).size := by rw [ByteArray.size_append]; omega
    rw [dif_neg h, dif_neg h']
theorem cont_app_r : ∀ (k : Nat) (s t : ByteArray) (p : Nat) (r : Int), cont k (s ++ t) (s.size + p) r = cont k t p r
  | 0, _, _, _, _ => rfl
  | k + 1, s, t, p, r => by
    simp only [cont, nx_app_r]
    cases nx t p with
    | none => rfl
    | some n => exact cont_app_r k s t (p + 1) _
theorem dec_app_r (s t : ByteArray) (p : Nat) : dec (s ++ t) (s.size + p) = dec t p := by
  unfold dec
  by_cases h : p < t.size
  · have h' : s.size + p < (s ++ t).size := by rw [ByteArray.size_append]; omega
    rw [dif_pos h, dif_pos h', get_app_r h h']
    unfold decB
    simp only [Nat.add_assoc, cont_app_r]
  · have h' : ¬ s.size + p < (s ++ t).size := by rw [ByteArray.size_append]; omega
    rw [dif_neg h, dif_neg h']
theorem Vl_app_r (s t : ByteArray) : ∀ (f p : Nat), Vl f (s ++ t) (s.size + p) = Vl f t p
  | 0, p => by simp only [Vl, ByteArray.size_append]; congr 1; exact propext ⟨fun h => by omega, fun h => by omega⟩
  | f + 1, p => by
    have : decide ((s ++ t).size ≤ s.size + p) = decide (t.size ≤ p) := by rw [ByteArray.size_append]; congr 1; exact propext ⟨fun h => by omega, fun h => by omega⟩
    simp only [Vl, this, dec_app_r]
    cases dec t p with
    | none => rfl
    | some x => obtain ⟨r, n⟩ := x; simp only [Nat.add_assoc, Vl_app_r s t f]
theorem Vl_mono : ∀ {f : Nat} {s : ByteArray} {p : Nat}, Vl f s p = true → Vl (f + 1) s p = true
  | 0, s, p, h => by simp only [Vl] at h ⊢; simp only [h, cond_true]
  | f + 1, s, p, h => by
    simp only [Vl, cond_eq_ite] at h
    unfold Vl
    simp only [cond_eq_ite]
    split at h
    · rename_i h1; rw [if_pos h1]
    · rename_i h1
      rw [if_neg h1]
      cases hd : dec s p with
      | none => rw [hd] at h; cases h
      | some x =>
        obtain ⟨r, n⟩ := x
        rw [hd] at h
        have := Vl_mono (f := f) (p := p + n) h
        simpa only [Vl, cond_eq_ite] using this
theorem Vl_app {s t : ByteArray} : ∀ (f : Nat) {p F : Nat}, p ≤ s.size → Vl f s p = true → Vl F t 0 = true → Vl (f + F) (s ++ t) p = true
  | 0, p, F, hp, h, ht => by
    simp only [Vl, decide_eq_true_eq] at h
    have e : p = s.size + 0 := by omega
    rw [Nat.zero_add, e, Vl_app_r]
    exact ht
  | f + 1, p, F, hp, h, ht => by
    simp only [Vl, cond_eq_ite] at h
    split at h
    · rename_i h1
      have h1 := of_decide_eq_true h1
      have := Vl_app (s := s) (t := t) f (p := p) (F := F) hp (by cases f <;> simp [Vl, h1]) ht
      rw [show f + 1 + F = f + F + 1 by omega]
      exact Vl_mono this
    · rename_i h1
      rw [decide_eq_true_eq] at h1
      cases hd : dec s p with
      | none => rw [hd] at h; cases h
      | some x =>
        obtain ⟨r, n⟩ := x
        rw [hd] at h
        have hb := dec_bound hd
        rw [show f + 1 + F = f + F + 1 by omega]
        have hn : decide ((s ++ t).size ≤ p) = false := by rw [ByteArray.size_append]; simp; omega
        simp only [Vl, hn, cond_false, dec_app_l hd]
        exact Vl_app f hb.2 h ht
theorem vl_app {s t : ByteArray} (hs : vl s = true) (ht : vl t = true) : vl (s ++ t) = true := by
  unfold vl
  rw [ByteArray.size_append]
  exact Vl_app _ (by omega) hs ht
theorem nx_conv {s t : ByteArray} {p : Nat} {n : Int} (h : nx (s ++ t) p = some n) (hp : p < s.size) : nx s p = some n := by
  unfold nx at h ⊢
  have hp' : p < (s ++ t).size := by rw [ByteArray.size_append]; omega
  rw [dif_pos hp', ByteArray.getElem_append_left hp] at h
  rw [dif_pos hp]
  exact h
theorem cont_conv : ∀ {k : Nat} {s t : ByteArray} {p : Nat} {r r' : Int}, cont k (s ++ t) p r = some r' → p + k ≤ s.size → cont k s p r = some r'
  | 0, _, _, _, _, _, h, _ => h
  | k + 1, s, t, p, r, r', h, hk => by
    simp only [cont] at h ⊢
    split at h
    · rename_i n hn
      rw [nx_conv hn (by omega)]
      exact cont_conv h (by omega)
    · cases h
theorem fin_conv {k size : Nat} {least : Int} {s t : ByteArray} {p : Nat} {r : Int} {x : Int × Nat} (h : fin size least (cont k (s ++ t) p r) = some x) (hk : p + k ≤ s.size) : fin size least (cont k s p r) = some x := by
  cases hc : cont k (s ++ t) p r with
  | none => rw [hc] at h; cases h
  | some r' => rw [cont_conv hc hk]; rw [hc] at h; exact h
theorem dec_conv {s t : ByteArray} {p : Nat} {r : Int} {n : Nat} (h : dec (s ++ t) p = some (r, n)) (hk : p + n ≤ s.size) : dec s p = some (r, n) := by
  have hn := (dec_bound h).1
  have hp : p < s.size := by omega
  unfold dec at h ⊢
  have hp' : p < (s ++ t).size := by rw [ByteArray.size_append]; omega
  rw [dif_pos hp', ByteArray.getElem_append_left hp] at h
  rw [dif_pos hp]
  revert h
  unfold decB
  simp only [cond_eq_ite]
  intro h
  split
  · rename_i h1; rw [if_pos h1] at h; exact h
  · rename_i h1; rw [if_neg h1] at h
    split
    · rename_i h2; rw [if_pos h2] at h; have := (fin_some h).1; exact fin_conv h (by omega)
    · rename_i h2; rw [if_neg h2] at h
      split
      · rename_i h3; rw [if_pos h3] at h; have := (fin_some h).1; exact fin_conv h (by omega)
      · rename_i h3; rw [if_neg h3] at h
        split
        · rename_i h4; rw [if_pos h4] at h; have := (fin_some h).1; exact fin_conv h (by omega)
        · rename_i h4; rw [if_neg h4] at h; exact h
theorem cont_nx : ∀ {k : Nat} {s : ByteArray} {p : Nat} {r r' : Int}, cont k s p r = some r' → ∀ j, j < k → ∃ m, nx s (p + j) = some m
  | k + 1, s, p, r, r', h, j, hj => by
    simp only [cont] at h
    split at h
    · rename_i n hn
      cases j with
      | zero => exact ⟨n, hn⟩
      | succ j =>
        obtain ⟨m, hm⟩ := cont_nx h j (by omega)
        exact ⟨m, by rw [← hm]; congr 1; omega⟩
    · cases h
/-- What follows a first byte. -/
theorem dec_inner {s : ByteArray} {p : Nat} {r : Int} {n : Nat} (h : dec s p = some (r, n)) : ∀ j, 1 ≤ j → j < n → ∃ m, nx s (p + j) = some m := by
  intro j h1 h2
  have go : ∀ {k size : Nat} {least x : Int}, fin size least (cont k s (p + 1) x) = some (r, n) → size = k + 1 → ∃ m, nx s (p + j) = some m := by
    intro k size least x hf hs
    obtain ⟨e, r', hr⟩ := fin_some hf
    obtain ⟨m, hm⟩ := cont_nx hr (j - 1) (by omega)
    exact ⟨m, by rw [← hm]; congr 1; omega⟩
  unfold dec at h
  split at h
  · unfold decB at h
    simp only [cond_eq_ite] at h
    split at h
    · cases h; omega
    · split at h
      · exact go h rfl
      · split at h
        · exact go h rfl
        · split at h
          · exact go h rfl
          · cases h
  · cases h
theorem cont_byte : ∀ n : Nat, n < 256 → bitAnd .u8 (n : Int) 192 = 128 → 128 ≤ n ∧ n < 192 := by decide +kernel
theorem wrap_byte (b : UInt8) : IntKind.i64.wrap (b.toNat : Int) = (b.toNat : Int) := wrap64 (by omega) (by have := b.toNat_lt; omega)
theorem dec_first {s : ByteArray} {p : Nat} {x : Int × Nat} (h : dec s p = some x) : nx s p = none := by
  unfold dec at h
  split at h
  · rename_i hp
    cases hn : nx s p with
    | none => rfl
    | some n =>
      exfalso
      unfold nx at hn
      rw [dif_pos hp] at hn
      split at hn
      · rename_i h1
        have hb := cont_byte _ (UInt8.toNat_lt _) h1
        rw [wrap_byte] at h
        unfold decB at h
        rw [show decide (((s[p]'hp).toNat : Int) < 128) = false by simp; omega, show decide (((s[p]'hp).toNat : Int) ≥ 192) = false by simp; omega, show decide (((s[p]'hp).toNat : Int) ≥ 224) = false by simp; omega, show decide (((s[p]'hp).toNat : Int) ≥ 240) = false by simp; omega] at h
        simp at h
      · cases hn
  · cases h
theorem Vl_any : ∀ {f : Nat} {s : ByteArray} {p F : Nat}, Vl f s p = true → s.size ≤ p + F → Vl F s p = true
  | f, s, p, 0, _, hF => by simp [Vl]; omega
  | 0, s, p, F + 1, h, _ => by
    simp only [Vl, decide_eq_true_eq] at h
    simp [Vl, h]
  | f + 1, s, p, F + 1, h, hF => by
    simp only [Vl, cond_eq_ite] at h ⊢
    split at h
    · rename_i h1; rw [if_pos h1]
    · rename_i h1
      rw [if_neg h1]
      cases hd : dec s p with
      | none => rw [hd] at h; cases h
      | some x =>
        obtain ⟨r, n⟩ := x
        rw [hd] at h
        have := dec_bound hd
        exact Vl_any h (by omega)
theorem Vl_cut {A T : ByteArray} (hT : nx T 0 = none) : ∀ (f p : Nat), p ≤ A.size → Vl f (A ++ T) p = true → Vl f A p = true ∧ ∃ g, Vl g (A ++ T) A.size = true
  | 0, p, hp, h => by
    simp only [Vl, decide_eq_true_eq, ByteArray.size_append] at h
    refine ⟨by simp [Vl]; omega, 0, ?_⟩
    simp [Vl, ByteArray.size_append]; omega
  | f + 1, p, hp, h => by
    by_cases he : p = A.size
    · subst he
      exact ⟨by simp [Vl], f + 1, h⟩
    · have hlt : decide ((A ++ T).size ≤ p) = false := by rw [ByteArray.size_append]; simp; omega
      have hlt' : decide (A.size ≤ p) = false := by simp; omega
      simp only [Vl, hlt, cond_false] at h
      cases hd : dec (A ++ T) p with
      | none => rw [hd] at h; cases h
      | some x =>
        obtain ⟨r, n⟩ := x
        rw [hd] at h
        have hle : p + n ≤ A.size := by
          rcases Nat.lt_or_ge A.size (p + n) with hh | hh
          · exfalso
            obtain ⟨m, hm⟩ := dec_inner hd (A.size - p) (by omega) (by omega)
            rw [show p + (A.size - p) = A.size + 0 by omega, nx_app_r, hT] at hm
            cases hm
          · exact hh
        obtain ⟨h1, h2⟩ := Vl_cut hT f (p + n) hle h
        refine ⟨?_, h2⟩
        simp only [Vl, hlt', cond_false, dec_conv hd hle]
        exact h1
theorem Vl_past {s B : ByteArray} : ∀ (f g p : Nat), p ≤ s.size → Vl g s p = true → Vl f (s ++ B) p = true → ∃ h, Vl h (s ++ B) s.size = true
  | 0, g, p, hp, _, h => by
    simp only [Vl, decide_eq_true_eq, ByteArray.size_append] at h
    exact ⟨0, by simp [Vl, ByteArray.size_append]; omega⟩
  | f + 1, g, p, hp, hg, h => by
    by_cases he : p = s.size
    · subst he; exact ⟨f + 1, h⟩
    · have hlt : decide ((s ++ B).size ≤ p) = false := by rw [ByteArray.size_append]; simp; omega
      have hlt' : decide (s.size ≤ p) = false := by simp; omega
      cases g with
      | zero => simp only [Vl, hlt', Bool.false_eq_true] at hg
      | succ g =>
        simp only [Vl, hlt', cond_false] at hg
        cases hd : dec s p with
        | none => rw [hd] at hg; cases hg
        | some x =>
          obtain ⟨r, n⟩ := x
          rw [hd] at hg
          simp only [Vl, hlt, cond_false, dec_app_l hd] at h
          exact Vl_past f g (p + n) (dec_bound hd).2 hg h
/-- Valid text, cut at valid text. -/
theorem vl_cut {A sep B : ByteArray} (h : vl (A ++ (sep ++ B)) = true) (hs : vl sep = true) (h1 : 1 ≤ sep.size) : vl A = true ∧ vl B = true := by
  have hd : ∃ x, dec sep 0 = some x := by
    unfold vl at hs
    obtain ⟨k, hk⟩ : ∃ k, sep.size = k + 1 := ⟨sep.size - 1, by omega⟩
    rw [hk] at hs
    have hz : decide (sep.size ≤ 0) = false := decide_eq_false (by omega)
    simp only [Vl, hz, cond_false] at hs
    cases hx : dec sep 0 with
    | none => rw [hx] at hs; cases hs
    | some x => exact ⟨x, rfl⟩
  obtain ⟨x, hx⟩ := hd
  have hT : nx (sep ++ B) 0 = none := dec_first (dec_app_l hx)
  obtain ⟨hA, g, hg⟩ := Vl_cut hT _ 0 (Nat.zero_le _) h
  refine ⟨Vl_any hA (by omega), ?_⟩
  have hg' : Vl g (sep ++ B) 0 = true := by rw [← Vl_app_r A (sep ++ B) g 0]; exact hg
  obtain ⟨k, hk⟩ := Vl_past g _ 0 (Nat.zero_le _) hs hg'
  have hk' : Vl k B 0 = true := by rw [← Vl_app_r sep B k 0]; exact hk
  exact Vl_any hk' (by omega)
theorem vl_one {s : ByteArray} {p : Nat} {r : Int} {n : Nat} (h : dec s p = some (r, n)) : vl (s.extract p (p + n)) = true := by
  have hb := dec_bound h
  have hs : s = s.extract 0 p ++ (s.extract p (p + n) ++ s.extract (p + n) s.size) := by
    rw [ByteArray.extract_append_extract, show min p (p + n) = p by omega, show max (p + n) s.size = s.size by omega, ByteArray.extract_append_extract, show min 0 p = 0 by omega, show max p s.size = s.size by omega]
    simp
  have hsz : (s.extract 0 p).size = p := by simp; omega
  have hsz2 : (s.extract p (p + n)).size = n := by simp; omega
  have hd : dec (s.extract p (p + n) ++ s.extract (p + n) s.size) 0 = some (r, n) := by
    have := dec_app_r (s.extract 0 p) (s.extract p (p + n) ++ s.extract (p + n) s.size) 0
    rw [← hs, hsz, Nat.add_zero, h] at this
    exact this.symm
  have hd' := dec_conv hd (by omega)
  unfold vl
  rw [hsz2]
  obtain ⟨k, rfl⟩ : ∃ k, n = k + 1 := ⟨n - 1, by omega⟩
  simp only [Vl, show decide ((s.extract p (p + (k + 1))).size ≤ 0) = false from decide_eq_false (by omega), cond_false, hd', Nat.zero_add]
  cases k with
  | zero => simp [Vl]; omega
  | succ k => simp [Vl]; omega
end Go.Pv.Try
