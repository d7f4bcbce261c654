/- Package bus: a piece goes. -/
import Derived.Test.YthmmgpdniijkeaaBBus
namespace Go.Proofs.Ythmmgpdniijkeaa.Bus
open Go Go.Proofs.Ythmmgpdniijkeaa.Sym Go.Proofs.Ythmmgpdniijkeaa.Tab
set_option linter.unusedVariables false
set_option linter.unusedSimpArgs false
set_option maxHeartbeats 4000000
set_option maxRecDepth 20000
def Bs.del (b : Bs) (i : Nat) : Bs := ⟨b.l.eraseIdx i, b.z + 1, b.fault⟩
theorem del_len (b : Bs) {i : Nat} (h : i < b.l.length) : (b.del i).l.length = b.l.length - 1 := by
  unfold Bs.del
  rw [List.length_eraseIdx, if_pos h]
theorem all_take (b : Bs) {i : Nat} (h : i ≤ b.l.length) : b.all.take i = b.l.take i := by
  unfold Bs.all
  rw [List.take_append_of_le_length h]
/-- The last one made zero. -/
theorem del_last (b : Bs) (h : 0 < b.l.length) : putL (pcs b.all) ((b.l.length - 1) * 4) zp.c = pcs (b.del (b.l.length - 1)).all := by
  have e := pcs_putL (l := b.all) (m := [zp]) (k := b.l.length - 1) (by rw [all_len]; simp; omega)
  rw [show pcs [zp] = zp.c by simp [pcs]] at e
  rw [e, all_take b (by omega)]
  congr 1
  unfold Bs.all Bs.del
  simp only
  rw [List.length_singleton, show b.l.length - 1 + 1 = b.l.length by omega, List.drop_left, List.eraseIdx_eq_take_drop_succ, show b.l.length - 1 + 1 = b.l.length by omega, List.drop_length, List.append_nil, List.append_assoc]
  rfl
theorem del_mid (b : Bs) {i : Nat} (h : i + 1 < b.l.length) : putL (putL (pcs b.all) (i * 4) (pcs (b.l.drop (i + 1)))) ((b.l.length - 1) * 4) zp.c = pcs (b.del i).all := by
  have e := pcs_putL (l := b.all) (m := b.l.drop (i + 1)) (k := i) (by rw [all_len, List.length_drop]; omega)
  rw [e, all_take b (by omega)]
  have hk : i + (b.l.drop (i + 1)).length = b.l.length - 1 := by rw [List.length_drop]; omega
  rw [hk]
  have ht : (b.l.take i ++ b.l.drop (i + 1)).length = b.l.length - 1 := by rw [List.length_append, List.length_take, List.length_drop]; omega
  have e2 := pcs_putL (l := b.l.take i ++ b.l.drop (i + 1) ++ b.all.drop (b.l.length - 1)) (m := [zp]) (k := b.l.length - 1) (by rw [List.length_append, ht, List.length_drop, all_len]; simp; omega)
  rw [show pcs [zp] = zp.c by simp [pcs]] at e2
  rw [e2]
  congr 1
  have hA : (b.del i).all = (b.l.take i ++ b.l.drop (i + 1)) ++ [zp] ++ b.all.drop b.l.length := by
    unfold Bs.all Bs.del
    simp only
    rw [List.drop_left, List.eraseIdx_eq_take_drop_succ, List.append_assoc (_ ++ _)]
    rfl
  rw [hA]
  generalize b.l.take i ++ b.l.drop (i + 1) = A at ht ⊢
  rw [List.take_append_of_le_length (by omega), List.take_of_length_le (by omega), List.length_singleton, List.drop_append, List.drop_of_length_le (by omega), ht, List.nil_append, List.drop_drop, show b.l.length - 1 + (b.l.length - 1 + 1 - (b.l.length - 1)) = b.l.length by omega]
theorem delete_a (k : Nat) (b : Bs) (i : Nat) (hi : i < b.l.length) (hl : b.l.length ≤ 100) : acall T (k + 1) 25 1 [.view 0 0 b.l.length 4 none, .v (.int .i64 i), .v (.int .i64 ((i : Int) + 1))] [⟨true, false, true, pcs b.all⟩] = some ⟨.view 0 0 (b.l.length - 1) 4 none, [⟨true, false, true, pcs (b.del i).all⟩], 2⟩ := by
  rw [acall_go (body := b_api_Piece) rfl rfl (Nat.le_refl 1)]
  have f1 : (0 : Int) ≤ (i : Int) + 1 := by omega
  have f2 : ((i : Int) + 1).toNat = i + 1 := by omega
  have f3 : i ≤ i + 1 := by omega
  have f4 : i + 1 ≤ b.l.length := by omega
  have f5 : ((i : Int) == (i : Int) + 1) = false := by rw [beq_eq_false_iff_ne]; omega
  have f6 : i ≤ b.l.length := by omega
  have f7 : (i + 1) * 4 + (b.l.length - (i + 1)) * 4 ≤ b.all.length * 4 := by rw [all_len]; omega
  have f8 : b.l.length - 1 ≤ b.l.length := by omega
  have f9 : ¬ b.l.length ≤ b.l.length - 1 := by omega
  have f10 : b.l.length * 4 ≤ b.all.length * 4 := by rw [all_len]; omega
  have f11 : b.l.length - (b.l.length - 1) = 1 := by omega
  have f12 : (b.l.length - 1) * 4 + 4 ≤ b.all.length * 4 := by rw [all_len]; omega
  have f13 : i * 4 ≤ b.all.length * 4 := by rw [all_len]; omega
  have f14 : i + (b.l.length - (i + 1)) = b.l.length - 1 := by omega
  have f15 : (b.l.length - 1) * 32 ≤ 140737488355328 := by omega
  have f16 : b.l.length - 1 ≤ 9223372036854775807 := by omega
  have f17 : (b.l.length - 1) * 4 ≤ b.all.length * 4 := by rw [all_len]; omega
  have g1 : ((pcs b.all).drop ((i + 1) * 4)).take ((b.l.length - (i + 1)) * 4) = pcs (b.l.drop (i + 1)) := by
    rw [pcs_drop, pcs_take]
    unfold Bs.all
    rw [List.drop_append_of_le_length (by omega), List.take_append_of_le_length (by rw [List.length_drop]; exact Nat.le_refl _), List.take_of_length_le (by rw [List.length_drop]; exact Nat.le_refl _)]
  by_cases c : b.l.length - (i + 1) = 0
  · have hi' : b.l.length - 1 = i := by omega
    have g2 := del_last b (by omega)
    have f7' : (i + 1) * 4 ≤ b.all.length * 4 := by rw [all_len]; omega
    have f11' : b.l.length - i = 1 := by omega
    have f12' : i * 4 + 4 ≤ b.all.length * 4 := by rw [all_len]; omega
    have f9' : ¬ b.l.length ≤ i := by omega
    rw [hi'] at g2 ⊢
    simp only [zp, Pc.c] at g2
    simp only [putL] at g2
    simp only [go_skip, go_ret, go_exit, go_seq, go_cond, cd_true, cd_false, cd_bool, go_block, go_loop, nx_nil, nx_c, nx_b, nx_l, rt_nil, rt_c, rt_b, rt_l, xt_c, xt_b, xt_l, go_reg, op_nil, op_cons, op1_true, op1_false, op2_some, go_regq, go_regt, qp_nil, qp_cons, qp1_true, qp1_false, qp2_some, aop_call, aopQ_call, aop_mv, aop_pick, aop_bin, aop_eqb, aop_eqp, aop_eqs, aop_eqst, aop_un, aop_load, aop_fld, aop_fad, aop_nilck, aop_ixs, aop_ixa, aop_ixstr, aop_ixv, aop_ext, aop_cvi, aop_cvs, aop_len, aop_lens, aop_min, aop_max, aop_slstr, aop_sls, aop_build, aop_cvbs, aop_mkf, aop_box, aop_alloc, aop_row, aop_store, aop_mks, aop_app, aop_cpy, aop_cvsb, aop_clr, aopQ_mv, aopQ_pick, aopQ_bin, aopQ_eqb, aopQ_eqp, aopQ_eqs, aopQ_eqst, aopQ_un, aopQ_load, aopQ_fld, aopQ_fad, aopQ_nilck, aopQ_ixs, aopQ_ixa, aopQ_ixstr, aopQ_ixv, aopQ_ext, aopQ_cvi, aopQ_cvs, aopQ_len, aopQ_lens, aopQ_min, aopQ_max, aopQ_slstr, aopQ_sls, aopQ_build, aopQ_cvbs, aopQ_mkf, Sym.wants, Sym.get, Sym.ev, Sym.evs, Sym.evO, Sym.evP, Sym.put, Sym.lev, Sym.aq, Sym.ae, aBin, aInt, isShift, aEqB, aEqP, aEqS, leavesEq, leafEq, aUn, Sym.rd, aLoad, aField, aFad, aNilck, asI, aIxS, aIxA, aIxV, aExt, aPick, aCvi, aCvs, aLen, aLenS, aMin2, aMax2, aFold, aFoldL, bnd, aSlStr, aSlS, fillL, newO, kill, aStore, putL, getO, cellsOf, Sym.elems, Sym.elemsS, aApp, aCpy, aClr, Sym.reps, aCall, aCallQ, finishCall, Sym.refs, Sym.refs1, Sym.refs0, okv, ok1, Sym.atom, flat0, dedup, Sym.reach, Sym.pos, Sym.sub, renO, Sym.ren, Sym.ren1, Sym.ren0, gmap, mergeOld, mergeNew, mergeO, allFresh, Sym.det, Sym.det0, Sym.canon, keepEnv, fn_ret, fn_normal, rs_keep, rs_frz, rz_mk, rk_true, rf_some, reps_v, all_rep, all_rep', all_strF, all_strA, max12, max21, btf, bft, btt, bff, aRes, Sym.one, frzM, frz1, frz0, frzL, args0, dead0, idx_ne, bytesV_length, all_bytesF, all_bytesA, toNums_bytes, bytesV_drop, bytesV_take, putL_bytes, strCells_bytes, natLit, w64, wu8, wu16, wu32, wu64, range1, range2, range3, range4, lp_succ, lh_some, Int.natCast_zero, Int.natCast_one, bne_self_eq_false, go_regs, go_regm, sxA, sxB, sxC, nft, ntf, sxD, sxE, sxF, sxO, qq_nil, qq_cons, qq1_true, qq1_false, qq2_some, List.getElem?_cons_zero, none_beq, emptyS, Option.some_beq_some, Option.getD_some, Option.getD_none, Option.bind_some, Option.map_some, Option.bind_none, Option.map_none, if_true, if_false, ite_true, ite_false, Bool.false_eq_true, reduceIte, reduceCtorEq, Nat.reduceEqDiff, beq_self_eq_true, Bool.and_true, Bool.true_and, Bool.and_false, Bool.false_and, Bool.or_true, Bool.true_or, Bool.or_false, Bool.false_or, Bool.not_true, Bool.not_false, List.getElem?_cons_zero, List.getElem?_cons_succ, List.getElem?_nil, List.length_cons, List.length_nil, List.all_cons, List.all_nil, List.map_cons, List.map_nil, List.flatMap_cons, List.flatMap_nil, List.append_nil, List.nil_append, List.cons_append, List.contains_nil, List.contains_cons, List.take_zero, List.drop_zero, List.take_succ_cons, List.drop_succ_cons, List.set_cons_zero, List.set_cons_succ, List.getD_cons_zero, List.getD_cons_succ, List.idxOf_cons_self, List.range_zero, List.isEmpty_nil, List.isEmpty_cons, decide_true, decide_false, and_self, true_and, and_true, Nat.zero_add, Nat.add_zero, Nat.max_self, Nat.zero_max, Nat.max_zero, Nat.le_refl, ne_eq, not_true_eq_false, not_false_eq_true, beq_iff_eq, Nat.reduceAdd, Nat.reduceSub, Nat.reduceMul, Nat.reduceLT, Nat.reduceLeDiff, Nat.reduceBEq, Nat.reduceBNe, Nat.sub_zero, Nat.zero_mul, Nat.mul_zero, Nat.mul_one, Nat.one_mul, List.take_nil, List.drop_nil, Option.isNone_none, Option.isNone_some, Int.natCast_nonneg, Int.toNat_natCast, Nat.zero_le, Nat.lt_irrefl, Nat.reduceGT, Int.reduceEq, Int.reduceLT, Int.reduceLE, Int.reduceToNat, Int.reduceAdd, Int.reduceSub, Int.reduceMul, Int.reduceNeg, Int.reduceBEq, Int.reduceBNe, b_api_Piece, f1, f2, f3, f4, f5, f6, f7, f7', f8, f9, f9', f10, f11, f11', f12, f12', f13, g1, c, g2, putL_length, pcs_len, pcs_flat, pcs_atom]
    done
  · have g2 := del_mid b (i := i) (by omega)
    simp only [zp, Pc.c, putL] at g2
    simp only [go_skip, go_ret, go_exit, go_seq, go_cond, cd_true, cd_false, cd_bool, go_block, go_loop, nx_nil, nx_c, nx_b, nx_l, rt_nil, rt_c, rt_b, rt_l, xt_c, xt_b, xt_l, go_reg, op_nil, op_cons, op1_true, op1_false, op2_some, go_regq, go_regt, qp_nil, qp_cons, qp1_true, qp1_false, qp2_some, aop_call, aopQ_call, aop_mv, aop_pick, aop_bin, aop_eqb, aop_eqp, aop_eqs, aop_eqst, aop_un, aop_load, aop_fld, aop_fad, aop_nilck, aop_ixs, aop_ixa, aop_ixstr, aop_ixv, aop_ext, aop_cvi, aop_cvs, aop_len, aop_lens, aop_min, aop_max, aop_slstr, aop_sls, aop_build, aop_cvbs, aop_mkf, aop_box, aop_alloc, aop_row, aop_store, aop_mks, aop_app, aop_cpy, aop_cvsb, aop_clr, aopQ_mv, aopQ_pick, aopQ_bin, aopQ_eqb, aopQ_eqp, aopQ_eqs, aopQ_eqst, aopQ_un, aopQ_load, aopQ_fld, aopQ_fad, aopQ_nilck, aopQ_ixs, aopQ_ixa, aopQ_ixstr, aopQ_ixv, aopQ_ext, aopQ_cvi, aopQ_cvs, aopQ_len, aopQ_lens, aopQ_min, aopQ_max, aopQ_slstr, aopQ_sls, aopQ_build, aopQ_cvbs, aopQ_mkf, Sym.wants, Sym.get, Sym.ev, Sym.evs, Sym.evO, Sym.evP, Sym.put, Sym.lev, Sym.aq, Sym.ae, aBin, aInt, isShift, aEqB, aEqP, aEqS, leavesEq, leafEq, aUn, Sym.rd, aLoad, aField, aFad, aNilck, asI, aIxS, aIxA, aIxV, aExt, aPick, aCvi, aCvs, aLen, aLenS, aMin2, aMax2, aFold, aFoldL, bnd, aSlStr, aSlS, fillL, newO, kill, aStore, putL, getO, cellsOf, Sym.elems, Sym.elemsS, aApp, aCpy, aClr, Sym.reps, aCall, aCallQ, finishCall, Sym.refs, Sym.refs1, Sym.refs0, okv, ok1, Sym.atom, flat0, dedup, Sym.reach, Sym.pos, Sym.sub, renO, Sym.ren, Sym.ren1, Sym.ren0, gmap, mergeOld, mergeNew, mergeO, allFresh, Sym.det, Sym.det0, Sym.canon, keepEnv, fn_ret, fn_normal, rs_keep, rs_frz, rz_mk, rk_true, rf_some, reps_v, all_rep, all_rep', all_strF, all_strA, max12, max21, btf, bft, btt, bff, aRes, Sym.one, frzM, frz1, frz0, frzL, args0, dead0, idx_ne, bytesV_length, all_bytesF, all_bytesA, toNums_bytes, bytesV_drop, bytesV_take, putL_bytes, strCells_bytes, natLit, w64, wu8, wu16, wu32, wu64, range1, range2, range3, range4, lp_succ, lh_some, Int.natCast_zero, Int.natCast_one, bne_self_eq_false, go_regs, go_regm, sxA, sxB, sxC, nft, ntf, sxD, sxE, sxF, sxO, qq_nil, qq_cons, qq1_true, qq1_false, qq2_some, List.getElem?_cons_zero, none_beq, emptyS, Option.some_beq_some, Option.getD_some, Option.getD_none, Option.bind_some, Option.map_some, Option.bind_none, Option.map_none, if_true, if_false, ite_true, ite_false, Bool.false_eq_true, reduceIte, reduceCtorEq, Nat.reduceEqDiff, beq_self_eq_true, Bool.and_true, Bool.true_and, Bool.and_false, Bool.false_and, Bool.or_true, Bool.true_or, Bool.or_false, Bool.false_or, Bool.not_true, Bool.not_false, List.getElem?_cons_zero, List.getElem?_cons_succ, List.getElem?_nil, List.length_cons, List.length_nil, List.all_cons, List.all_nil, List.map_cons, List.map_nil, List.flatMap_cons, List.flatMap_nil, List.append_nil, List.nil_append, List.cons_append, List.contains_nil, List.contains_cons, List.take_zero, List.drop_zero, List.take_succ_cons, List.drop_succ_cons, List.set_cons_zero, List.set_cons_succ, List.getD_cons_zero, List.getD_cons_succ, List.idxOf_cons_self, List.range_zero, List.isEmpty_nil, List.isEmpty_cons, decide_true, decide_false, and_self, true_and, and_true, Nat.zero_add, Nat.add_zero, Nat.max_self, Nat.zero_max, Nat.max_zero, Nat.le_refl, ne_eq, not_true_eq_false, not_false_eq_true, beq_iff_eq, Nat.reduceAdd, Nat.reduceSub, Nat.reduceMul, Nat.reduceLT, Nat.reduceLeDiff, Nat.reduceBEq, Nat.reduceBNe, Nat.sub_zero, Nat.zero_mul, Nat.mul_zero, Nat.mul_one, Nat.one_mul, List.take_nil, List.drop_nil, Option.isNone_none, Option.isNone_some, Int.natCast_nonneg, Int.toNat_natCast, Nat.zero_le, Nat.lt_irrefl, Nat.reduceGT, Int.reduceEq, Int.reduceLT, Int.reduceLE, Int.reduceToNat, Int.reduceAdd, Int.reduceSub, Int.reduceMul, Int.reduceNeg, Int.reduceBEq, Int.reduceBNe, b_api_Piece, f1, f2, f3, f4, f5, f6, f7, f8, f9, f10, f11, f12, f13, f14, f15, f16, f17, g1, c, g2, putL_length, pcs_len, pcs_flat, pcs_atom]
    done
end Go.Proofs.Ythmmgpdniijkeaa.Bus
