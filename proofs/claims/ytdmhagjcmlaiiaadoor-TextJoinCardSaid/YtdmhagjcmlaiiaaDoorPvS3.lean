/- Pv: utf.Count, utf.Valid. -/
import Derived.Test.YtdmhagjcmlaiiaaDoorPvS2
set_option linter.unusedVariables false
set_option linter.unusedSimpArgs false
namespace Go.Pv.Try
variable {Xt : XRel}
theorem nx_lt {s : ByteArray} {p : Nat} {n : Int} (h : nx s p = some n) : p < s.size := by
  unfold nx at h
  split at h
  · assumption
  · cases h
theorem cont_le : ∀ {k : Nat} {s : ByteArray} {p : Nat} {r r' : Int}, cont k s p r = some r' → k = 0 ∨ p + k ≤ s.size
  | 0, _, _, _, _, _ => .inl rfl
  | k + 1, s, p, r, r', h => by
    simp only [cont] at h
    split at h
    · rename_i n hn
      have := nx_lt hn
      rcases cont_le h with h | h
      · exact .inr (by omega)
      · exact .inr (by omega)
    · cases h
theorem fin_some {size : Nat} {least : Int} {o : Option Int} {r : Int} {n : Nat} (h : fin size least o = some (r, n)) : n = size ∧ ∃ r', o = some r' := by
  cases o with
  | none => cases h
  | some r' =>
    simp only [fin] at h
    cases h1 : decide (r' < least) <;> cases h2 : pt r' <;> simp only [h1, h2, cond_true, cond_false, reduceCtorEq, Option.some.injEq, Prod.mk.injEq] at h
    exact ⟨h.2.symm, r', rfl⟩
theorem dec_bound {s : ByteArray} {p : Nat} {r : Int} {n : Nat} (h : dec s p = some (r, n)) : 1 ≤ n ∧ p + n ≤ s.size := by
  unfold dec at h
  split at h
  · rename_i hlt
    unfold decB at h
    simp only [cond_eq_ite] at h
    split at h
    · cases h; omega
    · split at h
      · obtain ⟨rfl, r', h'⟩ := fin_some h
        have := cont_le h'; omega
      · split at h
        · obtain ⟨rfl, r', h'⟩ := fin_some h
          have := cont_le h'; omega
        · split at h
          · obtain ⟨rfl, r', h'⟩ := fin_some h
            have := cont_le h'; omega
          · cases h
  · cases h
/-- Valid from an offset on. -/
def Vl : Nat → ByteArray → Nat → Bool
  | 0, s, p => decide (s.size ≤ p)
  | f + 1, s, p => bif decide (s.size ≤ p) then true else match dec s p with
    | some (_, n) => Vl f s (p + n)
    | none => false
def vl (s : ByteArray) : Bool := Vl s.size s 0
def cntSt (s : ByteArray) (c : Int) (p : Nat) : S := ⟨[(0, .v (.string s)), (4, .v (.int .i64 c)), (5, .v (.int .i64 p))], [], []⟩
theorem count_loop (s : ByteArray) (hs : s.size < 4611686018427387904) : ∀ (f p : Nat) (c : Int), s.size - p ≤ f → p ≤ s.size →
    WL Γ (CallT Γ Xt) (.loop fn65_l1) (cntSt s c p) fun e s1 => (Vl f s p = true ∧ e = .exit 0 ∧ ∃ c', s1 = ⟨[(4, .v (.int .i64 c'))], [], []⟩) ∨ (Vl f s p = false ∧ e = .ret ∧ s1 = ⟨[(2, .v (.int .i64 0)), (3, .v (.bool false))], [], []⟩) := by
  have hend : ∀ (f p : Nat) (c : Int), s.size ≤ p → p ≤ s.size → WL Γ (CallT Γ Xt) (.loop fn65_l1) (cntSt s c p) fun e s1 => (Vl f s p = true ∧ e = .exit 0 ∧ ∃ c', s1 = ⟨[(4, .v (.int .i64 c'))], [], []⟩) ∨ (Vl f s p = false ∧ e = .ret ∧ s1 = ⟨[(2, .v (.int .i64 0)), (3, .v (.bool false))], [], []⟩) := by
    intro f p c h1 h2
    have hv : Vl f s p = true := by cases f <;> simp [Vl, h1]
    have hd : decide ((p : Int) < (s.size : Int)) = false := by simp; omega
    refine WL_fit (WL_round (WF_sound ?_))
    simp only [cntSt, fn65_l1, undefP, w_nil, w_cons, w_skip, w_reg, w_seq, w_cond, w_block, w_loop, w_exit, w_ret, w_then, w_thenX, w_thenR, w_thenP, w_blk, w_blkP, w_blkX, w_blkR, w_put0, w_put, w_kill0, w_kill, w_setB, w_setM, w_fresh0, S.fresh, delLs, lost, g_t, g_f, v_s, a_p, a_b, a_m, a_c, pp_s, bp_s, mp_s, t_s, ps_s, cd_t, cd_f, wantedS, valsS, valS, lk, setL, delL, newsOf, evalP, evalB, evalM, bLd, bSt, e1, e2, e3, eT, pMv, pMvx, pPick, pFa, pIa, pLdel, pEqb, pIsnil, pLen, pSlen, pB2s, pSslice, pSlice, pExt, pExtx, pNchk, pBsl, fillP, splice, one, bounds, target, killOk, pass, passFrom, passOne, argsL, sig_own, Act.kind, PV.isLoc, PV.ro, PV.ro1, PV.roLeaf, PV.norm, PV.normLeaf, PV.cells, PV.cellsOk, PV.leaf, PV.noPtr, PV.noPtrL, Value.oneCell', Nat.reduceEqDiff, Nat.reduceAdd, Nat.reduceSub, Nat.reduceLeDiff, Nat.reduceBEq, Int.reduceBEq, Int.reduceBNe, Int.reduceLT, Int.reduceLE, Int.reduceGT, Int.reduceGE, Int.reduceAdd, Int.reduceToNat, if_true, if_false, reduceIte, Bool.false_eq_true, List.any, List.any_cons, List.any_nil, List.map, List.all, List.length, List.take, List.drop, List.append_eq, List.nil_append, List.cons_append, List.getElem?_cons_zero, List.getElem?_cons_succ, Option.bind, Option.map, Option.isSome, Option.isNone, Option.some.injEq, reduceCtorEq, Bool.not_true, Bool.not_false, Bool.and_true, Bool.and_false, Bool.true_and, Bool.false_and, Bool.or_true, Bool.or_false, Bool.true_or, Bool.false_or, q_n0, q_n1, q_n2, q_tt, q_tf, q_ft, q_ff, q_add, q_sub, q_eql, q_neq, q_lss, q_leq, q_gtr, q_geq, q_and, q_or, q_not, q_seql, q_sneq, q_cvi, beq_self_eq_true, decide_true, decide_false, true_and, and_true, ne_eq, not_true_eq_false, not_false_eq_true, hd]
    exact ⟨⟨[(4, .v (.int .i64 c))], [], []⟩, le_only (by simp [lk]) (by simp), .inl ⟨hv, c, rfl⟩⟩
  intro f
  induction f with
  | zero => intro p c h1 h2; exact hend 0 p c (by omega) h2
  | succ f ih =>
    intro p c h1 h2
    by_cases hp : s.size ≤ p
    · exact hend (f + 1) p c hp h2
    · have hd : decide ((p : Int) < (s.size : Int)) = true := by simp; omega
      have hnp : decide (s.size ≤ p) = false := by simp; omega
      cases hdec : dec s p with
      | none =>
        have hv : Vl (f + 1) s p = false := by simp only [Vl, hnp, hdec, cond_false]
        refine WL_fit (WL_round (WF_sound ?_))
        simp only [cntSt, fn65_l1, undefP, w_nil, w_cons, w_skip, w_reg, w_seq, w_cond, w_block, w_loop, w_exit, w_ret, w_then, w_thenX, w_thenR, w_thenP, w_blk, w_blkP, w_blkX, w_blkR, w_put0, w_put, w_kill0, w_kill, w_setB, w_setM, w_fresh0, S.fresh, delLs, lost, g_t, g_f, v_s, a_p, a_b, a_m, a_c, pp_s, bp_s, mp_s, t_s, ps_s, cd_t, cd_f, wantedS, valsS, valS, lk, setL, delL, newsOf, evalP, evalB, evalM, bLd, bSt, e1, e2, e3, eT, pMv, pMvx, pPick, pFa, pIa, pLdel, pEqb, pIsnil, pLen, pSlen, pB2s, pSslice, pSlice, pExt, pExtx, pNchk, pBsl, fillP, splice, one, bounds, target, killOk, pass, passFrom, passOne, argsL, sig_own, Act.kind, PV.isLoc, PV.ro, PV.ro1, PV.roLeaf, PV.norm, PV.normLeaf, PV.cells, PV.cellsOk, PV.leaf, PV.noPtr, PV.noPtrL, Value.oneCell', Nat.reduceEqDiff, Nat.reduceAdd, Nat.reduceSub, Nat.reduceLeDiff, Nat.reduceBEq, Int.reduceBEq, Int.reduceBNe, Int.reduceLT, Int.reduceLE, Int.reduceGT, Int.reduceGE, Int.reduceAdd, Int.reduceToNat, if_true, if_false, reduceIte, Bool.false_eq_true, List.any, List.any_cons, List.any_nil, List.map, List.all, List.length, List.take, List.drop, List.append_eq, List.nil_append, List.cons_append, List.getElem?_cons_zero, List.getElem?_cons_succ, Option.bind, Option.map, Option.isSome, Option.isNone, Option.some.injEq, reduceCtorEq, Bool.not_true, Bool.not_false, Bool.and_true, Bool.and_false, Bool.true_and, Bool.false_and, Bool.or_true, Bool.or_false, Bool.true_or, Bool.false_or, q_n0, q_n1, q_n2, q_tt, q_tf, q_ft, q_ff, q_add, q_sub, q_eql, q_neq, q_lss, q_leq, q_gtr, q_geq, q_and, q_or, q_not, q_seql, q_sneq, q_cvi, beq_self_eq_true, decide_true, decide_false, true_and, and_true, ne_eq, not_true_eq_false, not_false_eq_true, hd]
        refine wcall (decode_spec s p (by omega)) rfl (by rw [hdec]; rfl) ?_
        simp only [hdec, decP, undefP, w_nil, w_cons, w_skip, w_reg, w_seq, w_cond, w_block, w_loop, w_exit, w_ret, w_then, w_thenX, w_thenR, w_thenP, w_blk, w_blkP, w_blkX, w_blkR, w_put0, w_put, w_kill0, w_kill, w_setB, w_setM, w_fresh0, S.fresh, delLs, lost, g_t, g_f, v_s, a_p, a_b, a_m, a_c, pp_s, bp_s, mp_s, t_s, ps_s, cd_t, cd_f, wantedS, valsS, valS, lk, setL, delL, newsOf, evalP, evalB, evalM, bLd, bSt, e1, e2, e3, eT, pMv, pMvx, pPick, pFa, pIa, pLdel, pEqb, pIsnil, pLen, pSlen, pB2s, pSslice, pSlice, pExt, pExtx, pNchk, pBsl, fillP, splice, one, bounds, target, killOk, pass, passFrom, passOne, argsL, sig_own, Act.kind, PV.isLoc, PV.ro, PV.ro1, PV.roLeaf, PV.norm, PV.normLeaf, PV.cells, PV.cellsOk, PV.leaf, PV.noPtr, PV.noPtrL, Value.oneCell', Nat.reduceEqDiff, Nat.reduceAdd, Nat.reduceSub, Nat.reduceLeDiff, Nat.reduceBEq, Int.reduceBEq, Int.reduceBNe, Int.reduceLT, Int.reduceLE, Int.reduceGT, Int.reduceGE, Int.reduceAdd, Int.reduceToNat, if_true, if_false, reduceIte, Bool.false_eq_true, List.any, List.any_cons, List.any_nil, List.map, List.all, List.length, List.take, List.drop, List.append_eq, List.nil_append, List.cons_append, List.getElem?_cons_zero, List.getElem?_cons_succ, Option.bind, Option.map, Option.isSome, Option.isNone, Option.some.injEq, reduceCtorEq, Bool.not_true, Bool.not_false, Bool.and_true, Bool.and_false, Bool.true_and, Bool.false_and, Bool.or_true, Bool.or_false, Bool.true_or, Bool.false_or, q_n0, q_n1, q_n2, q_tt, q_tf, q_ft, q_ff, q_add, q_sub, q_eql, q_neq, q_lss, q_leq, q_gtr, q_geq, q_and, q_or, q_not, q_seql, q_sneq, q_cvi, beq_self_eq_true, decide_true, decide_false, true_and, and_true, ne_eq, not_true_eq_false, not_false_eq_true]
        exact ⟨⟨[(2, .v (.int .i64 0)), (3, .v (.bool false))], [], []⟩, le_only (by simp [lk]) (by simp), .inr ⟨hv, rfl⟩⟩
      | some rn =>
        obtain ⟨r, n⟩ := rn
        obtain ⟨b1, b2⟩ := dec_bound hdec
        have hv : Vl (f + 1) s p = Vl f s (p + n) := by simp only [Vl, hnp, hdec, cond_false]
        have hw : IntKind.i64.wrap ((p : Int) + (n : Int)) = ((p + n : Nat) : Int) := by rw [wrap64 (by omega) (by omega)]; omega
        refine WL_round (WF_sound ?_)
        simp only [cntSt, fn65_l1, undefP, w_nil, w_cons, w_skip, w_reg, w_seq, w_cond, w_block, w_loop, w_exit, w_ret, w_then, w_thenX, w_thenR, w_thenP, w_blk, w_blkP, w_blkX, w_blkR, w_put0, w_put, w_kill0, w_kill, w_setB, w_setM, w_fresh0, S.fresh, delLs, lost, g_t, g_f, v_s, a_p, a_b, a_m, a_c, pp_s, bp_s, mp_s, t_s, ps_s, cd_t, cd_f, wantedS, valsS, valS, lk, setL, delL, newsOf, evalP, evalB, evalM, bLd, bSt, e1, e2, e3, eT, pMv, pMvx, pPick, pFa, pIa, pLdel, pEqb, pIsnil, pLen, pSlen, pB2s, pSslice, pSlice, pExt, pExtx, pNchk, pBsl, fillP, splice, one, bounds, target, killOk, pass, passFrom, passOne, argsL, sig_own, Act.kind, PV.isLoc, PV.ro, PV.ro1, PV.roLeaf, PV.norm, PV.normLeaf, PV.cells, PV.cellsOk, PV.leaf, PV.noPtr, PV.noPtrL, Value.oneCell', Nat.reduceEqDiff, Nat.reduceAdd, Nat.reduceSub, Nat.reduceLeDiff, Nat.reduceBEq, Int.reduceBEq, Int.reduceBNe, Int.reduceLT, Int.reduceLE, Int.reduceGT, Int.reduceGE, Int.reduceAdd, Int.reduceToNat, if_true, if_false, reduceIte, Bool.false_eq_true, List.any, List.any_cons, List.any_nil, List.map, List.all, List.length, List.take, List.drop, List.append_eq, List.nil_append, List.cons_append, List.getElem?_cons_zero, List.getElem?_cons_succ, Option.bind, Option.map, Option.isSome, Option.isNone, Option.some.injEq, reduceCtorEq, Bool.not_true, Bool.not_false, Bool.and_true, Bool.and_false, Bool.true_and, Bool.false_and, Bool.or_true, Bool.or_false, Bool.true_or, Bool.false_or, q_n0, q_n1, q_n2, q_tt, q_tf, q_ft, q_ff, q_add, q_sub, q_eql, q_neq, q_lss, q_leq, q_gtr, q_geq, q_and, q_or, q_not, q_seql, q_sneq, q_cvi, beq_self_eq_true, decide_true, decide_false, true_and, and_true, ne_eq, not_true_eq_false, not_false_eq_true, hd]
        refine wcall (decode_spec s p (by omega)) rfl (by rw [hdec]; rfl) ?_
        simp only [hdec, decP, undefP, w_nil, w_cons, w_skip, w_reg, w_seq, w_cond, w_block, w_loop, w_exit, w_ret, w_then, w_thenX, w_thenR, w_thenP, w_blk, w_blkP, w_blkX, w_blkR, w_put0, w_put, w_kill0, w_kill, w_setB, w_setM, w_fresh0, S.fresh, delLs, lost, g_t, g_f, v_s, a_p, a_b, a_m, a_c, pp_s, bp_s, mp_s, t_s, ps_s, cd_t, cd_f, wantedS, valsS, valS, lk, setL, delL, newsOf, evalP, evalB, evalM, bLd, bSt, e1, e2, e3, eT, pMv, pMvx, pPick, pFa, pIa, pLdel, pEqb, pIsnil, pLen, pSlen, pB2s, pSslice, pSlice, pExt, pExtx, pNchk, pBsl, fillP, splice, one, bounds, target, killOk, pass, passFrom, passOne, argsL, sig_own, Act.kind, PV.isLoc, PV.ro, PV.ro1, PV.roLeaf, PV.norm, PV.normLeaf, PV.cells, PV.cellsOk, PV.leaf, PV.noPtr, PV.noPtrL, Value.oneCell', Nat.reduceEqDiff, Nat.reduceAdd, Nat.reduceSub, Nat.reduceLeDiff, Nat.reduceBEq, Int.reduceBEq, Int.reduceBNe, Int.reduceLT, Int.reduceLE, Int.reduceGT, Int.reduceGE, Int.reduceAdd, Int.reduceToNat, if_true, if_false, reduceIte, Bool.false_eq_true, List.any, List.any_cons, List.any_nil, List.map, List.all, List.length, List.take, List.drop, List.append_eq, List.nil_append, List.cons_append, List.getElem?_cons_zero, List.getElem?_cons_succ, Option.bind, Option.map, Option.isSome, Option.isNone, Option.some.injEq, reduceCtorEq, Bool.not_true, Bool.not_false, Bool.and_true, Bool.and_false, Bool.true_and, Bool.false_and, Bool.or_true, Bool.or_false, Bool.true_or, Bool.false_or, q_n0, q_n1, q_n2, q_tt, q_tf, q_ft, q_ff, q_add, q_sub, q_eql, q_neq, q_lss, q_leq, q_gtr, q_geq, q_and, q_or, q_not, q_seql, q_sneq, q_cvi, beq_self_eq_true, decide_true, decide_false, true_and, and_true, ne_eq, not_true_eq_false, not_false_eq_true, hw]
        rw [hv]
        refine WL_weak (s0 := cntSt s (IntKind.i64.wrap (c + 1)) (p + n)) (le_only (by simp [lk]) (by simp)) ?_
        exact ih (p + n) _ (by omega) (by omega)
theorem count_spec (s : ByteArray) (hs : s.size < 4611686018427387904) : ∃ c : Int, CallT Γ Xt 65 [.v (.string s)] [] (.tup [.v (.int .i64 c), .v (.bool (vl s))]) [] := by
  have h0 := count_loop (Xt := Xt) s hs s.size 0 0 (by omega) (by omega)
  obtain ⟨e, s1, hev, h⟩ := h0
  rcases h with ⟨hv, rfl, c', rfl⟩ | ⟨hv, rfl, rfl⟩
  · refine ⟨c', ?_⟩
    refine callB (fn := fn65) (bd := bd65) rfl rfl rfl ?_
    simp only [bd65, undefP, w_nil, w_cons, w_skip, w_reg, w_seq, w_cond, w_block, w_loop, w_exit, w_ret, w_then, w_thenX, w_thenR, w_thenP, w_blk, w_blkP, w_blkX, w_blkR, w_put0, w_put, w_kill0, w_kill, w_setB, w_setM, w_fresh0, S.fresh, delLs, lost, g_t, g_f, v_s, a_p, a_b, a_m, a_c, pp_s, bp_s, mp_s, t_s, ps_s, cd_t, cd_f, wantedS, valsS, valS, lk, setL, delL, newsOf, evalP, evalB, evalM, bLd, bSt, e1, e2, e3, eT, pMv, pMvx, pPick, pFa, pIa, pLdel, pEqb, pIsnil, pLen, pSlen, pB2s, pSslice, pSlice, pExt, pExtx, pNchk, pBsl, fillP, splice, one, bounds, target, killOk, pass, passFrom, passOne, argsL, sig_own, Act.kind, PV.isLoc, PV.ro, PV.ro1, PV.roLeaf, PV.norm, PV.normLeaf, PV.cells, PV.cellsOk, PV.leaf, PV.noPtr, PV.noPtrL, Value.oneCell', Nat.reduceEqDiff, Nat.reduceAdd, Nat.reduceSub, Nat.reduceLeDiff, Nat.reduceBEq, Int.reduceBEq, Int.reduceBNe, Int.reduceLT, Int.reduceLE, Int.reduceGT, Int.reduceGE, Int.reduceAdd, Int.reduceToNat, if_true, if_false, reduceIte, Bool.false_eq_true, List.any, List.any_cons, List.any_nil, List.map, List.all, List.length, List.take, List.drop, List.append_eq, List.nil_append, List.cons_append, List.getElem?_cons_zero, List.getElem?_cons_succ, Option.bind, Option.map, Option.isSome, Option.isNone, Option.some.injEq, reduceCtorEq, Bool.not_true, Bool.not_false, Bool.and_true, Bool.and_false, Bool.true_and, Bool.false_and, Bool.or_true, Bool.or_false, Bool.true_or, Bool.false_or, q_n0, q_n1, q_n2, q_tt, q_tf, q_ft, q_ff, q_add, q_sub, q_eql, q_neq, q_lss, q_leq, q_gtr, q_geq, q_and, q_or, q_not, q_seql, q_sneq, q_cvi, beq_self_eq_true, decide_true, decide_false, true_and, and_true, ne_eq, not_true_eq_false, not_false_eq_true]
    refine WL_mono (WL_weak (s0 := cntSt s 0 0) (le_only (by simp [lk]) (by simp)) ⟨_, _, hev, ⟨rfl, rfl⟩⟩) (Q := fun e s2 => e = .exit 0 ∧ s2 = ⟨[(4, .v (.int .i64 c'))], [], []⟩) ?_
    rintro e s1 ⟨rfl, rfl⟩
    simp only [undefP, w_nil, w_cons, w_skip, w_reg, w_seq, w_cond, w_block, w_loop, w_exit, w_ret, w_then, w_thenX, w_thenR, w_thenP, w_blk, w_blkP, w_blkX, w_blkR, w_put0, w_put, w_kill0, w_kill, w_setB, w_setM, w_fresh0, S.fresh, delLs, lost, g_t, g_f, v_s, a_p, a_b, a_m, a_c, pp_s, bp_s, mp_s, t_s, ps_s, cd_t, cd_f, wantedS, valsS, valS, lk, setL, delL, newsOf, evalP, evalB, evalM, bLd, bSt, e1, e2, e3, eT, pMv, pMvx, pPick, pFa, pIa, pLdel, pEqb, pIsnil, pLen, pSlen, pB2s, pSslice, pSlice, pExt, pExtx, pNchk, pBsl, fillP, splice, one, bounds, target, killOk, pass, passFrom, passOne, argsL, sig_own, Act.kind, PV.isLoc, PV.ro, PV.ro1, PV.roLeaf, PV.norm, PV.normLeaf, PV.cells, PV.cellsOk, PV.leaf, PV.noPtr, PV.noPtrL, Value.oneCell', Nat.reduceEqDiff, Nat.reduceAdd, Nat.reduceSub, Nat.reduceLeDiff, Nat.reduceBEq, Int.reduceBEq, Int.reduceBNe, Int.reduceLT, Int.reduceLE, Int.reduceGT, Int.reduceGE, Int.reduceAdd, Int.reduceToNat, if_true, if_false, reduceIte, Bool.false_eq_true, List.any, List.any_cons, List.any_nil, List.map, List.all, List.length, List.take, List.drop, List.append_eq, List.nil_append, List.cons_append, List.getElem?_cons_zero, List.getElem?_cons_succ, Option.bind, Option.map, Option.isSome, Option.isNone, Option.some.injEq, reduceCtorEq, Bool.not_true, Bool.not_false, Bool.and_true, Bool.and_false, Bool.true_and, Bool.false_and, Bool.or_true, Bool.or_false, Bool.true_or, Bool.false_or, q_n0, q_n1, q_n2, q_tt, q_tf, q_ft, q_ff, q_add, q_sub, q_eql, q_neq, q_lss, q_leq, q_gtr, q_geq, q_and, q_or, q_not, q_seql, q_sneq, q_cvi, beq_self_eq_true, decide_true, decide_false, true_and, and_true, ne_eq, not_true_eq_false, not_false_eq_true]
    exact ⟨.inr rfl, rfl, _, rfl, by rw [vl, hv]; rfl⟩
  · refine ⟨0, ?_⟩
    refine callB (fn := fn65) (bd := bd65) rfl rfl rfl ?_
    simp only [bd65, undefP, w_nil, w_cons, w_skip, w_reg, w_seq, w_cond, w_block, w_loop, w_exit, w_ret, w_then, w_thenX, w_thenR, w_thenP, w_blk, w_blkP, w_blkX, w_blkR, w_put0, w_put, w_kill0, w_kill, w_setB, w_setM, w_fresh0, S.fresh, delLs, lost, g_t, g_f, v_s, a_p, a_b, a_m, a_c, pp_s, bp_s, mp_s, t_s, ps_s, cd_t, cd_f, wantedS, valsS, valS, lk, setL, delL, newsOf, evalP, evalB, evalM, bLd, bSt, e1, e2, e3, eT, pMv, pMvx, pPick, pFa, pIa, pLdel, pEqb, pIsnil, pLen, pSlen, pB2s, pSslice, pSlice, pExt, pExtx, pNchk, pBsl, fillP, splice, one, bounds, target, killOk, pass, passFrom, passOne, argsL, sig_own, Act.kind, PV.isLoc, PV.ro, PV.ro1, PV.roLeaf, PV.norm, PV.normLeaf, PV.cells, PV.cellsOk, PV.leaf, PV.noPtr, PV.noPtrL, Value.oneCell', Nat.reduceEqDiff, Nat.reduceAdd, Nat.reduceSub, Nat.reduceLeDiff, Nat.reduceBEq, Int.reduceBEq, Int.reduceBNe, Int.reduceLT, Int.reduceLE, Int.reduceGT, Int.reduceGE, Int.reduceAdd, Int.reduceToNat, if_true, if_false, reduceIte, Bool.false_eq_true, List.any, List.any_cons, List.any_nil, List.map, List.all, List.length, List.take, List.drop, List.append_eq, List.nil_append, List.cons_append, List.getElem?_cons_zero, List.getElem?_cons_succ, Option.bind, Option.map, Option.isSome, Option.isNone, Option.some.injEq, reduceCtorEq, Bool.not_true, Bool.not_false, Bool.and_true, Bool.and_false, Bool.true_and, Bool.false_and, Bool.or_true, Bool.or_false, Bool.true_or, Bool.false_or, q_n0, q_n1, q_n2, q_tt, q_tf, q_ft, q_ff, q_add, q_sub, q_eql, q_neq, q_lss, q_leq, q_gtr, q_geq, q_and, q_or, q_not, q_seql, q_sneq, q_cvi, beq_self_eq_true, decide_true, decide_false, true_and, and_true, ne_eq, not_true_eq_false, not_false_eq_true]
    refine WL_mono (WL_weak (s0 := cntSt s 0 0) (le_only (by simp [lk]) (by simp)) ⟨_, _, hev, ⟨rfl, rfl⟩⟩) (Q := fun e s2 => e = .ret ∧ s2 = ⟨[(2, .v (.int .i64 0)), (3, .v (.bool false))], [], []⟩) ?_
    rintro e s1 ⟨rfl, rfl⟩
    simp only [undefP, w_nil, w_cons, w_skip, w_reg, w_seq, w_cond, w_block, w_loop, w_exit, w_ret, w_then, w_thenX, w_thenR, w_thenP, w_blk, w_blkP, w_blkX, w_blkR, w_put0, w_put, w_kill0, w_kill, w_setB, w_setM, w_fresh0, S.fresh, delLs, lost, g_t, g_f, v_s, a_p, a_b, a_m, a_c, pp_s, bp_s, mp_s, t_s, ps_s, cd_t, cd_f, wantedS, valsS, valS, lk, setL, delL, newsOf, evalP, evalB, evalM, bLd, bSt, e1, e2, e3, eT, pMv, pMvx, pPick, pFa, pIa, pLdel, pEqb, pIsnil, pLen, pSlen, pB2s, pSslice, pSlice, pExt, pExtx, pNchk, pBsl, fillP, splice, one, bounds, target, killOk, pass, passFrom, passOne, argsL, sig_own, Act.kind, PV.isLoc, PV.ro, PV.ro1, PV.roLeaf, PV.norm, PV.normLeaf, PV.cells, PV.cellsOk, PV.leaf, PV.noPtr, PV.noPtrL, Value.oneCell', Nat.reduceEqDiff, Nat.reduceAdd, Nat.reduceSub, Nat.reduceLeDiff, Nat.reduceBEq, Int.reduceBEq, Int.reduceBNe, Int.reduceLT, Int.reduceLE, Int.reduceGT, Int.reduceGE, Int.reduceAdd, Int.reduceToNat, if_true, if_false, reduceIte, Bool.false_eq_true, List.any, List.any_cons, List.any_nil, List.map, List.all, List.length, List.take, List.drop, List.append_eq, List.nil_append, List.cons_append, List.getElem?_cons_zero, List.getElem?_cons_succ, Option.bind, Option.map, Option.isSome, Option.isNone, Option.some.injEq, reduceCtorEq, Bool.not_true, Bool.not_false, Bool.and_true, Bool.and_false, Bool.true_and, Bool.false_and, Bool.or_true, Bool.or_false, Bool.true_or, Bool.false_or, q_n0, q_n1, q_n2, q_tt, q_tf, q_ft, q_ff, q_add, q_sub, q_eql, q_neq, q_lss, q_leq, q_gtr, q_geq, q_and, q_or, q_not, q_seql, q_sneq, q_cvi, beq_self_eq_true, decide_true, decide_false, true_and, and_true, ne_eq, not_true_eq_false, not_false_eq_true]
    exact ⟨.inr rfl, rfl, _, rfl, by rw [vl, hv]; rfl⟩
end Go.Pv.Try
