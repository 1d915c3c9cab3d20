/- Pv: vals.Valid on a string value. -/
import Derived.Test.YtdmhagjcmlaiiaaPvS5
set_option linter.unusedVariables false
set_option linter.unusedSimpArgs false
namespace Go.Pv.Try
variable {Xt : XRel}
def okS (s : ByteArray) : Bool := !decide ((s.size : Int) > 4096) && vl s
theorem fits_spec (s : ByteArray) (hs : s.size < 4611686018427387904) : ∃ m', CallT Γ Xt 37 [.ptr 0 0, sv s, .v (.int .i64 0), .v (.bool true)] [[.v (.int .i64 0), .v (.int .i64 0)]] (.v (.bool (okS s))) m' := by
  unfold okS
  cases hl : decide ((s.size : Int) > 4096) with
  | true => exact fits_long s hs hl
  | false =>
    cases hv : vl s with
    | true => exact ⟨_, fits_good s hl hv⟩
    | false => exact ⟨_, fits_bad s hl hv⟩
theorem valsValid_spec (s : ByteArray) (hs : s.size < 4611686018427387904) : ∃ m', CallT Γ Xt 18 [sv s] [] (.v (.bool (okS s))) m' := by
  obtain ⟨m', hf⟩ := fits_spec (Xt := Xt) s hs
  refine ⟨m', callB (fn := fn18) (bd := bd18) rfl rfl rfl ?_⟩
  simp only [bd18, sv, w_nil, w_cons, w_skip, w_reg, w_seq, w_cond, w_block, w_loop, w_exit, w_ret, w_then, w_thenX, w_thenR, w_thenP, w_blk, w_blkP, w_blkX, w_blkR, w_put0, w_put, w_kill0, w_kill, w_setB, w_setM, w_fresh0, S.fresh, delLs, lost, g_t, g_f, v_s, a_p, a_b, a_m, a_c, pp_s, bp_s, mp_s, t_s, ps_s, cd_t, cd_f, wantedS, valsS, valS, lk, setL, delL, newsOf, evalP, evalB, evalM, bLd, bSt, e1, e2, e3, eT, pMv, pMvx, pPick, pFa, pIa, pLdel, pEqb, pIsnil, pLen, pSlen, pB2s, pSslice, pSlice, pExt, pExtx, pNchk, pBsl, fillP, splice, one, bounds, target, killOk, pass, passFrom, passOne, argsL, sig_own, Act.kind, PV.isLoc, PV.ro, PV.ro1, PV.roLeaf, PV.norm, PV.normLeaf, PV.cells, PV.cellsOk, PV.leaf, PV.noPtr, PV.noPtrL, Value.oneCell', Nat.reduceEqDiff, Nat.reduceAdd, Nat.reduceSub, Nat.reduceLeDiff, Nat.reduceBEq, Int.reduceBEq, Int.reduceBNe, Int.reduceLT, Int.reduceLE, Int.reduceGT, Int.reduceGE, Int.reduceAdd, Int.reduceToNat, if_true, if_false, reduceIte, Bool.false_eq_true, List.any, List.any_cons, List.any_nil, List.map, List.all, List.length, List.take, List.drop, List.append_eq, List.nil_append, List.cons_append, List.getElem?_cons_zero, List.getElem?_cons_succ, Option.bind, Option.map, Option.isSome, Option.isNone, Option.some.injEq, reduceCtorEq, Bool.not_true, Bool.not_false, Bool.and_true, Bool.and_false, Bool.true_and, Bool.false_and, Bool.or_true, Bool.or_false, Bool.true_or, Bool.false_or, q_n0, q_n1, q_n2, q_tt, q_tf, q_ft, q_ff, q_add, q_sub, q_eql, q_neq, q_lss, q_leq, q_gtr, q_geq, q_and, q_or, q_not, q_seql, q_sneq, q_cvi, beq_self_eq_true, decide_true, decide_false, true_and, and_true, ne_eq, not_true_eq_false, not_false_eq_true]
  refine wcallM hf ?_
  simp only [w_nil, w_cons, w_skip, w_reg, w_seq, w_cond, w_block, w_loop, w_exit, w_ret, w_then, w_thenX, w_thenR, w_thenP, w_blk, w_blkP, w_blkX, w_blkR, w_put0, w_put, w_kill0, w_kill, w_setB, w_setM, w_fresh0, S.fresh, delLs, lost, g_t, g_f, v_s, a_p, a_b, a_m, a_c, pp_s, bp_s, mp_s, t_s, ps_s, cd_t, cd_f, wantedS, valsS, valS, lk, setL, delL, newsOf, evalP, evalB, evalM, bLd, bSt, e1, e2, e3, eT, pMv, pMvx, pPick, pFa, pIa, pLdel, pEqb, pIsnil, pLen, pSlen, pB2s, pSslice, pSlice, pExt, pExtx, pNchk, pBsl, fillP, splice, one, bounds, target, killOk, pass, passFrom, passOne, argsL, sig_own, Act.kind, PV.isLoc, PV.ro, PV.ro1, PV.roLeaf, PV.norm, PV.normLeaf, PV.cells, PV.cellsOk, PV.leaf, PV.noPtr, PV.noPtrL, Value.oneCell', Nat.reduceEqDiff, Nat.reduceAdd, Nat.reduceSub, Nat.reduceLeDiff, Nat.reduceBEq, Int.reduceBEq, Int.reduceBNe, Int.reduceLT, Int.reduceLE, Int.reduceGT, Int.reduceGE, Int.reduceAdd, Int.reduceToNat, if_true, if_false, reduceIte, Bool.false_eq_true, List.any, List.any_cons, List.any_nil, List.map, List.all, List.length, List.take, List.drop, List.append_eq, List.nil_append, List.cons_append, List.getElem?_cons_zero, List.getElem?_cons_succ, Option.bind, Option.map, Option.isSome, Option.isNone, Option.some.injEq, reduceCtorEq, Bool.not_true, Bool.not_false, Bool.and_true, Bool.and_false, Bool.true_and, Bool.false_and, Bool.or_true, Bool.or_false, Bool.true_or, Bool.false_or, q_n0, q_n1, q_n2, q_tt, q_tf, q_ft, q_ff, q_add, q_sub, q_eql, q_neq, q_lss, q_leq, q_gtr, q_geq, q_and, q_or, q_not, q_seql, q_sneq, q_cvi, beq_self_eq_true, decide_true, decide_false, true_and, and_true, ne_eq, not_true_eq_false, not_false_eq_true]
  exact ⟨.inr rfl, rfl, _, rfl, rfl⟩
end Go.Pv.Try
