/- Put of the reference's glue, when a frame fits. -/
import Derived.Test.YteamlgfohagocaaRPut
namespace Go.Proofs.Yteamlgfohagocaa.Refs
open Go Go.Proofs.Yteamlgfohagocaa.Sym Go.Proofs.Yteamlgfohagocaa.Tab Go.Proofs.Yteamlgfohagocaa.Blk Go.Proofs.Yteamlgfohagocaa.Glue
set_option linter.unusedVariables false
set_option linter.unusedSimpArgs false
set_option maxHeartbeats 4000000
set_option maxRecDepth 20000
theorem fit_of {n : Int} {f : Fr} (h : fitN n f = true) : f.np = parts n ∧ f.part < parts n ∧ (f.b.size : Int) = (piece n f.part).2 := by
  unfold fitN at h
  simp only [Bool.and_eq_true, beq_iff_eq, decide_eq_true_eq] at h
  obtain ⟨⟨h1, h2⟩, h3⟩ := h
  refine ⟨h1, ?_, h3⟩
  unfold piece at h2
  split at h2
  · exact absurd h2 (by decide)
  · omega
structure Rg.In (w : Rg) : Prop where
  n : 1 ≤ w.size ∧ w.size ≤ 64
  l : w.came.length = (parts w.size).toNat
  s : ∀ x ∈ w.came, x.size ≤ 100
  inc : 0 ≤ w.inc ∧ w.inc ≤ 65535
  seq : 0 ≤ w.seq ∧ w.seq ≤ 4294967295
theorem rput_old (k : Nat) (w : Rg) (f : Fr) (hf : f.In) (hw : w.In) (c : (f.kind != 4) = false) (c2 : fitN w.size f = true) (c3 : num f.inc f.seq < num w.inc w.seq) : acall T (k + 40) 13 1 [.ptr 0 0, .agg f.c] [w.o false, w.c false] = some ⟨(w.put f).1, [(w.put f).2.o false, (w.put f).2.c false], 2⟩ := by
  have hn := hw.n
  have e : w.put f = (out ByteArray.empty false 1, w) := by rw [Rg.put, if_neg (by rw [c]; decide), if_neg (by rw [c2]; decide), if_pos c3]
  rw [e]
  rw [acall_go (body := b_fuglemanref17_Glue_Put) rfl rfl (by show 1 ≤ 2; decide)]
  have hl := lengths_a (k + 18) w.size hn
  have pl := parts_le w.size
  rw [parts_cuts w.size hn] at hl
  have hlI : (((parts w.size).toNat : Nat) : Int) = parts w.size := by omega
  have e1 := w64u hf.part
  have e2 := w64u hf.np
  obtain ⟨d1, d2, d3⟩ := fit_of c2
  have d1' : (f.np != parts w.size) = false := by rw [d1]; simp
  have d2' : ¬ parts w.size ≤ f.part := by omega
  have d4 : f.part < parts w.size := by omega
  have d5 : f.part.toNat < (parts w.size).toNat := by have := hf.part; omega
  have g2 : 0 ≤ f.part := hf.part.1
  obtain ⟨x, hx1, hx2, hx3⟩ := cuts_size w.size hn f.part.toNat (by omega)
  have g1 : (strs (cuts (zeros (w.size).toNat)))[f.part.toNat]? = some (.v (.string x)) := by simp [strs, hx1]
  have g4 : ((f.b.size : Int) != (x.size : Int)) = false := by
    have e : ((f.part.toNat : Nat) : Int) = f.part := by omega
    rw [hx2, e, d3]
    simp
  have hb : f.b.size ≤ 16 := by
    have := piece_in w.size f.part (by omega)
    omega
  have n1 := number_a (k + 38) f.inc f.seq hf.inc hf.seq
  have n2 := number_a (k + 38) w.inc w.seq hw.inc hw.seq
  unfold out
  simp -implicitDefEqProofs only [go_skip, go_ret, go_exit, go_seq, go_cond, cd_true, cd_false, cd_bool, go_block, go_loop, nx_nil, nx_c, nx_b, nx_l, rt_nil, rt_c, rt_b, rt_l, xt_c, xt_b, xt_l, go_reg, op_nil, op_cons, op1_true, op1_false, op2_some, go_regq, go_regt, qp_nil, qp_cons, qp1_true, qp1_false, qp2_some, aop_call, aopQ_call, aop_mv, aop_pick, aop_bin, aop_eqb, aop_eqp, aop_eqs, aop_eqst, aop_un, aop_load, aop_fld, aop_fad, aop_nilck, aop_ixs, aop_ixa, aop_ixstr, aop_ixv, aop_ext, aop_cvi, aop_cvs, aop_len, aop_lens, aop_min, aop_max, aop_slstr, aop_sls, aop_build, aop_cvbs, aop_mkf, aop_box, aop_alloc, aop_row, aop_store, aop_mks, aop_app, aop_cpy, aop_cvsb, aop_clr, aopQ_mv, aopQ_pick, aopQ_bin, aopQ_eqb, aopQ_eqp, aopQ_eqs, aopQ_eqst, aopQ_un, aopQ_load, aopQ_fld, aopQ_fad, aopQ_nilck, aopQ_ixs, aopQ_ixa, aopQ_ixstr, aopQ_ixv, aopQ_ext, aopQ_cvi, aopQ_cvs, aopQ_len, aopQ_lens, aopQ_min, aopQ_max, aopQ_slstr, aopQ_sls, aopQ_build, aopQ_cvbs, aopQ_mkf, Sym.wants, Sym.get, Sym.ev, Sym.evs, Sym.evO, Sym.evP, Sym.put, Sym.lev, Sym.aq, Sym.ae, aBin, aInt, isShift, aEqB, aEqP, aEqS, leavesEq, leafEq, aUn, Sym.rd, aLoad, aField, aFad, aNilck, asI, aIxS, aIxA, aIxV, aExt, aPick, aCvi, aCvs, aLen, aLenS, aMin2, aMax2, aFold, aFoldL, bnd, aSlStr, aSlS, fillL, newO, kill, aStore, putL, getO, cellsOf, Sym.elems, Sym.elemsS, aApp, aCpy, aClr, Sym.reps, aCall, aCallQ, finishCall, Sym.refs, Sym.refs1, Sym.refs0, okv, ok1, Sym.atom, flat0, dedup, Sym.reach, Sym.pos, Sym.sub, renO, Sym.ren, Sym.ren1, Sym.ren0, gmap, mergeOld, mergeNew, mergeO, allFresh, Sym.det, Sym.det0, Sym.canon, keepEnv, fn_ret, fn_normal, rs_keep, rs_frz, rz_mk, rk_true, rf_some, reps_v, all_rep, all_rep', all_strF, all_strA, max12, max21, btf, bft, btt, bff, aRes, Sym.one, frzM, frz1, frz0, frzL, args0, dead0, idx_ne, bytesV_length, all_bytesF, all_bytesA, toNums_bytes, bytesV_drop, bytesV_take, putL_bytes, strCells_bytes, natLit, w64, wu8, wu16, wu32, wu64, range1, range2, range3, range4, lp_succ, Int.natCast_zero, Int.natCast_one, bne_self_eq_false, go_regs, go_regm, om_nil, om_cons, om1_true, om1_false, om2_some, aopM_call, aopM_false, aCallM, sxA, sxB, sxC, nft, ntf, sxD, sxE, sxF, sxO, qq_nil, qq_cons, qq1_true, qq1_false, qq2_some, List.getElem?_cons_zero, none_beq, emptyS, Option.some_beq_some, Option.getD_some, Option.getD_none, Option.bind_some, Option.map_some, Option.bind_none, Option.map_none, if_true, if_false, ite_true, ite_false, Bool.false_eq_true, reduceIte, reduceCtorEq, Nat.reduceEqDiff, beq_self_eq_true, Bool.and_true, Bool.true_and, Bool.and_false, Bool.false_and, Bool.or_true, Bool.true_or, Bool.or_false, Bool.false_or, Bool.not_true, Bool.not_false, List.getElem?_cons_zero, List.getElem?_cons_succ, List.getElem?_nil, List.length_cons, List.length_nil, List.all_cons, List.all_nil, List.map_cons, List.map_nil, List.flatMap_cons, List.flatMap_nil, List.append_nil, List.nil_append, List.cons_append, List.contains_nil, List.contains_cons, List.take_zero, List.drop_zero, List.take_succ_cons, List.drop_succ_cons, List.set_cons_zero, List.set_cons_succ, List.getD_cons_zero, List.getD_cons_succ, List.idxOf_cons_self, List.range_zero, List.isEmpty_nil, List.isEmpty_cons, decide_true, decide_false, and_self, true_and, and_true, false_and, and_false, Nat.zero_add, Nat.add_zero, Nat.max_self, Nat.zero_max, Nat.max_zero, Nat.le_refl, ne_eq, not_true_eq_false, not_false_eq_true, beq_iff_eq, Nat.reduceAdd, Nat.reduceSub, Nat.reduceMul, Nat.reduceLT, Nat.reduceLeDiff, Nat.reduceBEq, Nat.reduceBNe, Nat.sub_zero, Nat.zero_mul, Nat.mul_zero, Nat.mul_one, Nat.one_mul, List.take_nil, List.drop_nil, Option.isNone_none, Option.isNone_some, Int.natCast_nonneg, Int.toNat_natCast, Nat.zero_le, Nat.lt_irrefl, Nat.reduceGT, Int.reduceEq, Int.reduceLT, Int.reduceLE, Int.reduceToNat, Int.reduceAdd, Int.reduceSub, Int.reduceMul, Int.reduceNeg, Int.reduceBEq, Int.reduceBNe, b_fuglemanref17_Glue_Put, Rg.o, Rg.c, Rg.no, Fr.c, hl, hlI, e1, e2, c, d1', d2', d4, d5, g1, g2, g4, Int.toNat_natCast, strs_set, strs_rep, strs_len, strs_flat, strs_atom, List.length_set, List.length_replicate, n1, n2, c3]
theorem rput_go (k : Nat) (w : Rg) (f : Fr) (hf : f.In) (hw : w.In) (c : (f.kind != 4) = false) (c2 : fitN w.size f = true) (c3 : ¬ num f.inc f.seq < num w.inc w.seq) (c4 : ¬ num w.inc w.seq < num f.inc f.seq) : acall T (k + 40) 13 1 [.ptr 0 0, .agg f.c] [w.o false, w.c false] = some ⟨(w.put f).1, [(w.put f).2.o false, (w.put f).2.c false], 2⟩ := by
  have hn := hw.n
  have hwl := hw.l
  have e : w.put f = w.lay f := by rw [Rg.put, if_neg (by rw [c]; decide), if_neg (by rw [c2]; decide), if_neg c3, if_neg c4]
  rw [e]
  rw [acall_go (body := b_fuglemanref17_Glue_Put) rfl rfl (by show 1 ≤ 2; decide)]
  have hl := lengths_a (k + 18) w.size hn
  have pl := parts_le w.size
  rw [parts_cuts w.size hn] at hl
  have hlI : (((parts w.size).toNat : Nat) : Int) = parts w.size := by omega
  have e1 := w64u hf.part
  have e2 := w64u hf.np
  obtain ⟨d1, d2, d3⟩ := fit_of c2
  have d1' : (f.np != parts w.size) = false := by rw [d1]; simp
  have d2' : ¬ parts w.size ≤ f.part := by omega
  have d4 : f.part < parts w.size := by omega
  have d5 : f.part.toNat < (parts w.size).toNat := by have := hf.part; omega
  have g2 : 0 ≤ f.part := hf.part.1
  obtain ⟨x, hx1, hx2, hx3⟩ := cuts_size w.size hn f.part.toNat (by omega)
  have g1 : (strs (cuts (zeros (w.size).toNat)))[f.part.toNat]? = some (.v (.string x)) := by simp [strs, hx1]
  have g4 : ((f.b.size : Int) != (x.size : Int)) = false := by
    have e : ((f.part.toNat : Nat) : Int) = f.part := by omega
    rw [hx2, e, d3]
    simp
  have hb : f.b.size ≤ 16 := by
    have := piece_in w.size f.part (by omega)
    omega
  have n1 := number_a (k + 38) f.inc f.seq hf.inc hf.seq
  have n2 := number_a (k + 38) w.inc w.seq hw.inc hw.seq
  have y0 : w.came[f.part.toNat]? = some w.came[f.part.toNat] := List.getElem?_eq_getElem (by omega)
  have y1 : (strs w.came)[f.part.toNat]? = some (.v (.string w.came[f.part.toNat])) := by simp [strs, y0]
  have y2 : f.part.toNat + 1 ≤ (parts w.size).toNat := d5
  have y3 : f.part.toNat ≤ (parts w.size).toNat - 1 := by omega
  unfold Rg.lay
  rw [y0, Option.getD_some]
  by_cases c5 : w.came[f.part.toNat] = ByteArray.empty
  · rw [if_pos c5]
    have ih := put_loop (acall T (k + 39)) (k + 39) false { w with came := w.came.set f.part.toNat f.b } (strs (cuts (zeros (w.size).toNat))) (by simp only [List.length_set, hwl]; omega) (fun x hx => by rcases List.mem_or_eq_of_mem_set hx with h | rfl; exact hw.s x h; omega) (k + 38) 0 ByteArray.empty (Nat.zero_le _) (by simp only [List.length_set, hwl]; omega) (Nat.zero_le _)
    simp only [Rg.o, Rg.c, List.length_set, hwl, List.drop_zero, Int.natCast_zero] at ih
    simp -implicitDefEqProofs only [go_skip, go_ret, go_exit, go_seq, go_cond, cd_true, cd_false, cd_bool, go_block, go_loop, nx_nil, nx_c, nx_b, nx_l, rt_nil, rt_c, rt_b, rt_l, xt_c, xt_b, xt_l, go_reg, op_nil, op_cons, op1_true, op1_false, op2_some, go_regq, go_regt, qp_nil, qp_cons, qp1_true, qp1_false, qp2_some, aop_call, aopQ_call, aop_mv, aop_pick, aop_bin, aop_eqb, aop_eqp, aop_eqs, aop_eqst, aop_un, aop_load, aop_fld, aop_fad, aop_nilck, aop_ixs, aop_ixa, aop_ixstr, aop_ixv, aop_ext, aop_cvi, aop_cvs, aop_len, aop_lens, aop_min, aop_max, aop_slstr, aop_sls, aop_build, aop_cvbs, aop_mkf, aop_box, aop_alloc, aop_row, aop_store, aop_mks, aop_app, aop_cpy, aop_cvsb, aop_clr, aopQ_mv, aopQ_pick, aopQ_bin, aopQ_eqb, aopQ_eqp, aopQ_eqs, aopQ_eqst, aopQ_un, aopQ_load, aopQ_fld, aopQ_fad, aopQ_nilck, aopQ_ixs, aopQ_ixa, aopQ_ixstr, aopQ_ixv, aopQ_ext, aopQ_cvi, aopQ_cvs, aopQ_len, aopQ_lens, aopQ_min, aopQ_max, aopQ_slstr, aopQ_sls, aopQ_build, aopQ_cvbs, aopQ_mkf, Sym.wants, Sym.get, Sym.ev, Sym.evs, Sym.evO, Sym.evP, Sym.put, Sym.lev, Sym.aq, Sym.ae, aBin, aInt, isShift, aEqB, aEqP, aEqS, leavesEq, leafEq, aUn, Sym.rd, aLoad, aField, aFad, aNilck, asI, aIxS, aIxA, aIxV, aExt, aPick, aCvi, aCvs, aLen, aLenS, aMin2, aMax2, aFold, aFoldL, bnd, aSlStr, aSlS, fillL, newO, kill, aStore, putL, getO, cellsOf, Sym.elems, Sym.elemsS, aApp, aCpy, aClr, Sym.reps, aCall, aCallQ, finishCall, Sym.refs, Sym.refs1, Sym.refs0, okv, ok1, Sym.atom, flat0, dedup, Sym.reach, Sym.pos, Sym.sub, renO, Sym.ren, Sym.ren1, Sym.ren0, gmap, mergeOld, mergeNew, mergeO, allFresh, Sym.det, Sym.det0, Sym.canon, keepEnv, fn_ret, fn_normal, rs_keep, rs_frz, rz_mk, rk_true, rf_some, reps_v, all_rep, all_rep', all_strF, all_strA, max12, max21, btf, bft, btt, bff, aRes, Sym.one, frzM, frz1, frz0, frzL, args0, dead0, idx_ne, bytesV_length, all_bytesF, all_bytesA, toNums_bytes, bytesV_drop, bytesV_take, putL_bytes, strCells_bytes, natLit, w64, wu8, wu16, wu32, wu64, range1, range2, range3, range4, lp_succ, Int.natCast_zero, Int.natCast_one, bne_self_eq_false, go_regs, go_regm, om_nil, om_cons, om1_true, om1_false, om2_some, aopM_call, aopM_false, aCallM, sxA, sxB, sxC, nft, ntf, sxD, sxE, sxF, sxO, qq_nil, qq_cons, qq1_true, qq1_false, qq2_some, List.getElem?_cons_zero, none_beq, emptyS, Option.some_beq_some, Option.getD_some, Option.getD_none, Option.bind_some, Option.map_some, Option.bind_none, Option.map_none, if_true, if_false, ite_true, ite_false, Bool.false_eq_true, reduceIte, reduceCtorEq, Nat.reduceEqDiff, beq_self_eq_true, Bool.and_true, Bool.true_and, Bool.and_false, Bool.false_and, Bool.or_true, Bool.true_or, Bool.or_false, Bool.false_or, Bool.not_true, Bool.not_false, List.getElem?_cons_zero, List.getElem?_cons_succ, List.getElem?_nil, List.length_cons, List.length_nil, List.all_cons, List.all_nil, List.map_cons, List.map_nil, List.flatMap_cons, List.flatMap_nil, List.append_nil, List.nil_append, List.cons_append, List.contains_nil, List.contains_cons, List.take_zero, List.drop_zero, List.take_succ_cons, List.drop_succ_cons, List.set_cons_zero, List.set_cons_succ, List.getD_cons_zero, List.getD_cons_succ, List.idxOf_cons_self, List.range_zero, List.isEmpty_nil, List.isEmpty_cons, decide_true, decide_false, and_self, true_and, and_true, false_and, and_false, Nat.zero_add, Nat.add_zero, Nat.max_self, Nat.zero_max, Nat.max_zero, Nat.le_refl, ne_eq, not_true_eq_false, not_false_eq_true, beq_iff_eq, Nat.reduceAdd, Nat.reduceSub, Nat.reduceMul, Nat.reduceLT, Nat.reduceLeDiff, Nat.reduceBEq, Nat.reduceBNe, Nat.sub_zero, Nat.zero_mul, Nat.mul_zero, Nat.mul_one, Nat.one_mul, List.take_nil, List.drop_nil, Option.isNone_none, Option.isNone_some, Int.natCast_nonneg, Int.toNat_natCast, Nat.zero_le, Nat.lt_irrefl, Nat.reduceGT, Int.reduceEq, Int.reduceLT, Int.reduceLE, Int.reduceToNat, Int.reduceAdd, Int.reduceSub, Int.reduceMul, Int.reduceNeg, Int.reduceBEq, Int.reduceBNe, b_fuglemanref17_Glue_Put, Rg.o, Rg.c, Rg.no, Fr.c, hl, hlI, e1, e2, c, d1', d2', d4, d5, g1, g2, g4, Int.toNat_natCast, strs_set, strs_rep, strs_len, strs_flat, strs_atom, List.length_set, List.length_replicate, n1, n2, c3, c4, c5, y1, y2, y3, hwl, ih]
  · rw [if_neg c5]
    unfold out
    simp -implicitDefEqProofs only [go_skip, go_ret, go_exit, go_seq, go_cond, cd_true, cd_false, cd_bool, go_block, go_loop, nx_nil, nx_c, nx_b, nx_l, rt_nil, rt_c, rt_b, rt_l, xt_c, xt_b, xt_l, go_reg, op_nil, op_cons, op1_true, op1_false, op2_some, go_regq, go_regt, qp_nil, qp_cons, qp1_true, qp1_false, qp2_some, aop_call, aopQ_call, aop_mv, aop_pick, aop_bin, aop_eqb, aop_eqp, aop_eqs, aop_eqst, aop_un, aop_load, aop_fld, aop_fad, aop_nilck, aop_ixs, aop_ixa, aop_ixstr, aop_ixv, aop_ext, aop_cvi, aop_cvs, aop_len, aop_lens, aop_min, aop_max, aop_slstr, aop_sls, aop_build, aop_cvbs, aop_mkf, aop_box, aop_alloc, aop_row, aop_store, aop_mks, aop_app, aop_cpy, aop_cvsb, aop_clr, aopQ_mv, aopQ_pick, aopQ_bin, aopQ_eqb, aopQ_eqp, aopQ_eqs, aopQ_eqst, aopQ_un, aopQ_load, aopQ_fld, aopQ_fad, aopQ_nilck, aopQ_ixs, aopQ_ixa, aopQ_ixstr, aopQ_ixv, aopQ_ext, aopQ_cvi, aopQ_cvs, aopQ_len, aopQ_lens, aopQ_min, aopQ_max, aopQ_slstr, aopQ_sls, aopQ_build, aopQ_cvbs, aopQ_mkf, Sym.wants, Sym.get, Sym.ev, Sym.evs, Sym.evO, Sym.evP, Sym.put, Sym.lev, Sym.aq, Sym.ae, aBin, aInt, isShift, aEqB, aEqP, aEqS, leavesEq, leafEq, aUn, Sym.rd, aLoad, aField, aFad, aNilck, asI, aIxS, aIxA, aIxV, aExt, aPick, aCvi, aCvs, aLen, aLenS, aMin2, aMax2, aFold, aFoldL, bnd, aSlStr, aSlS, fillL, newO, kill, aStore, putL, getO, cellsOf, Sym.elems, Sym.elemsS, aApp, aCpy, aClr, Sym.reps, aCall, aCallQ, finishCall, Sym.refs, Sym.refs1, Sym.refs0, okv, ok1, Sym.atom, flat0, dedup, Sym.reach, Sym.pos, Sym.sub, renO, Sym.ren, Sym.ren1, Sym.ren0, gmap, mergeOld, mergeNew, mergeO, allFresh, Sym.det, Sym.det0, Sym.canon, keepEnv, fn_ret, fn_normal, rs_keep, rs_frz, rz_mk, rk_true, rf_some, reps_v, all_rep, all_rep', all_strF, all_strA, max12, max21, btf, bft, btt, bff, aRes, Sym.one, frzM, frz1, frz0, frzL, args0, dead0, idx_ne, bytesV_length, all_bytesF, all_bytesA, toNums_bytes, bytesV_drop, bytesV_take, putL_bytes, strCells_bytes, natLit, w64, wu8, wu16, wu32, wu64, range1, range2, range3, range4, lp_succ, Int.natCast_zero, Int.natCast_one, bne_self_eq_false, go_regs, go_regm, om_nil, om_cons, om1_true, om1_false, om2_some, aopM_call, aopM_false, aCallM, sxA, sxB, sxC, nft, ntf, sxD, sxE, sxF, sxO, qq_nil, qq_cons, qq1_true, qq1_false, qq2_some, List.getElem?_cons_zero, none_beq, emptyS, Option.some_beq_some, Option.getD_some, Option.getD_none, Option.bind_some, Option.map_some, Option.bind_none, Option.map_none, if_true, if_false, ite_true, ite_false, Bool.false_eq_true, reduceIte, reduceCtorEq, Nat.reduceEqDiff, beq_self_eq_true, Bool.and_true, Bool.true_and, Bool.and_false, Bool.false_and, Bool.or_true, Bool.true_or, Bool.or_false, Bool.false_or, Bool.not_true, Bool.not_false, List.getElem?_cons_zero, List.getElem?_cons_succ, List.getElem?_nil, List.length_cons, List.length_nil, List.all_cons, List.all_nil, List.map_cons, List.map_nil, List.flatMap_cons, List.flatMap_nil, List.append_nil, List.nil_append, List.cons_append, List.contains_nil, List.contains_cons, List.take_zero, List.drop_zero, List.take_succ_cons, List.drop_succ_cons, List.set_cons_zero, List.set_cons_succ, List.getD_cons_zero, List.getD_cons_succ, List.idxOf_cons_self, List.range_zero, List.isEmpty_nil, List.isEmpty_cons, decide_true, decide_false, and_self, true_and, and_true, false_and, and_false, Nat.zero_add, Nat.add_zero, Nat.max_self, Nat.zero_max, Nat.max_zero, Nat.le_refl, ne_eq, not_true_eq_false, not_false_eq_true, beq_iff_eq, Nat.reduceAdd, Nat.reduceSub, Nat.reduceMul, Nat.reduceLT, Nat.reduceLeDiff, Nat.reduceBEq, Nat.reduceBNe, Nat.sub_zero, Nat.zero_mul, Nat.mul_zero, Nat.mul_one, Nat.one_mul, List.take_nil, List.drop_nil, Option.isNone_none, Option.isNone_some, Int.natCast_nonneg, Int.toNat_natCast, Nat.zero_le, Nat.lt_irrefl, Nat.reduceGT, Int.reduceEq, Int.reduceLT, Int.reduceLE, Int.reduceToNat, Int.reduceAdd, Int.reduceSub, Int.reduceMul, Int.reduceNeg, Int.reduceBEq, Int.reduceBNe, b_fuglemanref17_Glue_Put, Rg.o, Rg.c, Rg.no, Fr.c, hl, hlI, e1, e2, c, d1', d2', d4, d5, g1, g2, g4, Int.toNat_natCast, strs_set, strs_rep, strs_len, strs_flat, strs_atom, List.length_set, List.length_replicate, n1, n2, c3, c4, c5, y1, y2, y3, hwl]
end Go.Proofs.Yteamlgfohagocaa.Refs
