/- The law PartsWhole: its values' frames. -/
import Derived.Test.YteamlgfohagocaaWhole1
import Derived.Test.YteamlgfohagocaaSpl3
import Derived.Test.YteamlgfohagocaaAtCl
namespace Go.Proofs.Yteamlgfohagocaa.Spl
open Go Go.Proofs.Yteamlgfohagocaa.Sym Go.Proofs.Yteamlgfohagocaa.Tab Go.Proofs.Yteamlgfohagocaa.Blk Go.Proofs.Yteamlgfohagocaa.Glue Go.Proofs.Yteamlgfohagocaa.Refs Go.Proofs.Yteamlgfohagocaa.PR
set_option linter.unusedVariables false
set_option linter.unusedSimpArgs false
set_option maxHeartbeats 8000000
set_option maxRecDepth 20000
/-- A value, cut or filled up. -/
def padL (n : Nat) (s : ByteArray) : List Int := putI (List.replicate n 0) 0 ((numsOf s).take (Nat.min s.size n))
def pad (n : Nat) (s : ByteArray) : ByteArray := strOfNums (padL n s)
theorem padL_len (n : Nat) (s : ByteArray) : (padL n s).length = n := by rw [padL, putI_length, List.length_replicate]
theorem pad_size (n : Nat) (s : ByteArray) : (pad n s).size = n := by rw [pad, strOfNums_size, padL_len]
def val (n : Nat) (L : List ByteArray) (j : Nat) : ByteArray := pad n ((L[j]?).getD ByteArray.empty)
def rowj (P : Nat → ByteArray) (j : Nat) : AV := .shr (split (F j) (P j)).length false (frs (split (F j) (P j)))
def rows (P : Nat → ByteArray) (i : Nat) : List AV := (List.range i).map (rowj P)
theorem rows_len {P : Nat → ByteArray} {i : Nat} : (rows P i).length = i := by simp [rows]
theorem rows_snoc {P : Nat → ByteArray} {i : Nat} : rows P (i + 1) = rows P i ++ [rowj P i] := by simp [rows, List.range_succ]
theorem rows_flat {P : Nat → ByteArray} {i : Nat} : (rows P i).all flat0 = true := by simp [rows, rowj, flat0]
theorem rows_atom {P : Nat → ByteArray} {i : Nat} : (rows P i).all atom = true := by simp [rows, rowj, atom]
theorem rows_take {P : Nat → ByteArray} {i : Nat} : (rows P i).take i = rows P i := List.take_of_length_le (by rw [rows_len]; exact Nat.le_refl _)
theorem rows_at {P : Nat → ByteArray} {i j : Nat} (h : j < i) : (rows P i)[j]? = some (rowj P j) := by simp [rows, List.getElem?_map, List.getElem?_range h]
theorem split_len {f : Fr} {s : ByteArray} : (split f s).length = (parts s.size).toNat := by rw [split_range]; simp
theorem parts_pos {n : Nat} (h : 1 ≤ n ∧ n ≤ 64) : 1 ≤ parts n := by unfold parts; split <;> omega
theorem split_F (k : Nat) (j : Nat) {s : ByteArray} (h : 1 ≤ s.size ∧ s.size ≤ 64) : acall T (k + 9) 7 0 [.agg [.v (.int .i64 0), .v (.int .u8 0), .v (.int .u8 0), .v (.int .u16 0), .v (.int .u16 0), .v (.int .u16 0), .v (.int .u8 0), .v (.int .u16 0), .v (.int .u16 0), .v (.int .u16 0), .v (.int .u8 0), .v (.int .u16 0), .v (.bool false), .v (.int .u8 0), .v (.int .u16 ((j / 3 : Nat) : Int)), .v (.int .u32 j), .v (.int .u8 0), .v (.int .u8 0), .v (.string ByteArray.empty)], .v (.string s)] [] = some ⟨.shr (split (F j) s).length false (frs (split (F j) s)), [], 1⟩ := by
  have hp := parts_pos h
  have hr : rowA (split (F j) s) = .shr (split (F j) s).length false (frs (split (F j) s)) := by
    unfold rowA
    rw [if_neg]
    rw [List.isEmpty_iff_length_eq_zero, split_len]
    omega
  rw [← hr]
  exact split_a k s (by omega) (F j)
def strsV (L : List ByteArray) : List AV := L.flatMap (fun x : ByteArray => [.v (.string x)])
theorem strsV_at : ∀ {L : List ByteArray} {j : Nat} (h : j < L.length), (strsV L)[j]? = some (.v (.string L[j]))
  | x :: L, 0, h => rfl
  | x :: L, j + 1, h => by
    have := strsV_at (L := L) (j := j) (by simpa using h)
    rw [show strsV (x :: L) = .v (.string x) :: strsV L from rfl, List.getElem?_cons_succ, this]
    rfl
def envV (L : List ByteArray) (M : Nat) (X : List AV) (n : Nat) (t8 : AV) (i : Nat) : Env := [(1, .shr L.length false (strsV L)), (2, .shr M false X), (7, .v (.int .i64 n)), (8, t8), (43, .v (.int .i64 L.length)), (44, .v (.int .i64 i))]
theorem vstep (L : List ByteArray) (hL : L.length ≤ 8) (M : Nat) (X : List AV) (n : Nat) (hn : 1 ≤ n ∧ n ≤ 64) (i : Nat) (hi : i < L.length) (N : Nat) (ks : List It) :
    Lh (acall T 199) 199 (some ⟨envV L M X n (if i = 0 then .v (.slice none 0 0) else .view 0 0 i 1 none) i, if i = 0 then [] else [⟨true, true, true, rows (val n L) i⟩], 1, []⟩) [1, 2, 7, 8, 43, 44] l_fuglemanlaw17_PartsWhole_0 (N + 1) ks = Lh (acall T 199) 199 (some ⟨envV L M X n (.view 0 0 (i + 1) 1 none) (i + 1), [⟨true, true, true, rows (val n L) (i + 1)⟩], 1, []⟩) [1, 2, 7, 8, 43, 44] l_fuglemanlaw17_PartsWhole_0 N ks := by
  have c : (i : Int) < L.length := by omega
  have w5 : IntKind.i64.wrap ((i : Int) + 1) = i + 1 := w64 (by omega) (by omega)
  have hat := strsV_at hi
  have hv : val n L i = pad n L[i] := by unfold val; rw [List.getElem?_eq_getElem hi]; rfl
  have hsz : 1 ≤ (val n L i).size ∧ (val n L i).size ≤ 64 := by rw [hv, pad_size]; exact hn
  have hsp := split_F 190 i hsz
  have hrow : rowj (val n L) i = .shr (split (F i) (val n L i)).length false (frs (split (F i) (val n L i))) := rfl
  rw [← hrow, hv] at hsp
  have hfl : (rowj (val n L) i) = (rowj (val n L) i) := rfl
  have q1 : (i : Int).tdiv 3 = ((i / 3 : Nat) : Int) := by rw [Int.tdiv_eq_ediv_of_nonneg (by omega)]; omega
  have q2 : IntKind.i64.wrap ((i / 3 : Nat) : Int) = ((i / 3 : Nat) : Int) := w64 (by omega) (by omega)
  have q3 : IntKind.u16.wrap ((i / 3 : Nat) : Int) = ((i / 3 : Nat) : Int) := wu16 (by omega) (by omega)
  have q4 : IntKind.u32.wrap (i : Int) = i := wu32 (by omega) (by omega)
  have n1 : (0 : Int) ≤ n := by omega
  have n2 : n ≤ 140737488355328 := by omega
  have n3 : n ≤ 9223372036854775807 := by omega
  have n4 : (n : Int) ≤ n := Int.le_refl _
  have p1 : (padL n L[i]).take n = padL n L[i] := List.take_of_length_le (by rw [padL_len]; exact Nat.le_refl _)
  have p2 := padL_len n L[i]
  simp only [pad] at hsp
  simp only [padL] at hsp p1 p2
  rw [rows_snoc]
  have hra : (rowj (val n L) i) = .shr (split (F i) (val n L i)).length false (frs (split (F i) (val n L i))) := rfl
  generalize (i / 3 : Nat) = i3 at *
  rw [hra] at hsp ⊢
  generalize (split (F i) (val n L i)).length = sl at *
  generalize frs (split (F i) (val n L i)) = sf at *
  rw [lh_as l_fuglemanlaw17_PartsWhole_0.eq_1]
  by_cases z : i = 0
  · subst z
    have r0 : rows (val n L) 0 = [] := rfl
    rw [if_pos rfl, if_pos rfl, r0]
    simp only [Int.natCast_zero, Int.zero_add] at *
    simp -implicitDefEqProofs only [go_skip, go_ret, go_exit, go_seq, go_cond, cd_true, cd_false, cd_bool, go_block, go_loop, nx_nil, nx_c, nx_b, nx_l, rt_nil, rt_c, rt_b, rt_l, xt_c, xt_b, xt_l, go_reg, op_nil, op_cons, op1_true, op1_false, op2_some, go_regq, go_regt, qp_nil, qp_cons, qp1_true, qp1_false, qp2_some, aop_call, aopQ_call, aop_mv, aop_pick, aop_bin, aop_eqb, aop_eqp, aop_eqs, aop_eqst, aop_un, aop_load, aop_fld, aop_fad, aop_nilck, aop_ixs, aop_ixa, aop_ixstr, aop_ixv, aop_ext, aop_cvi, aop_cvs, aop_len, aop_lens, aop_min, aop_max, aop_slstr, aop_sls, aop_build, aop_cvbs, aop_mkf, aop_box, aop_alloc, aop_row, aop_store, aop_mks, aop_app, aop_cpy, aop_cvsb, aop_clr, aopQ_mv, aopQ_pick, aopQ_bin, aopQ_eqb, aopQ_eqp, aopQ_eqs, aopQ_eqst, aopQ_un, aopQ_load, aopQ_fld, aopQ_fad, aopQ_nilck, aopQ_ixs, aopQ_ixa, aopQ_ixstr, aopQ_ixv, aopQ_ext, aopQ_cvi, aopQ_cvs, aopQ_len, aopQ_lens, aopQ_min, aopQ_max, aopQ_slstr, aopQ_sls, aopQ_build, aopQ_cvbs, aopQ_mkf, Sym.wants, Sym.get, Sym.ev, Sym.evs, Sym.evO, Sym.evP, Sym.put, Sym.lev, Sym.aq, Sym.ae, aBin, aInt, isShift, aEqB, aEqP, aEqS, leavesEq, leafEq, aUn, Sym.rd, aLoad, aField, aFad, aNilck, asI, aIxS, aIxA, aIxV, aExt, aPick, aCvi, aCvs, aLen, aLenS, aMin2, aMax2, aFold, aFoldL, bnd, aSlStr, aSlS, fillL, newO, kill, aStore, putL, getO, cellsOf, Sym.elems, Sym.elemsS, aApp, aCpy, aClr, Sym.reps, aCall, aCallQ, finishCall, Sym.refs, Sym.refs1, Sym.refs0, okv, ok1, Sym.atom, flat0, dedup, Sym.reach, Sym.pos, Sym.sub, renO, Sym.ren, Sym.ren1, Sym.ren0, gmap, mergeOld, mergeNew, mergeO, allFresh, Sym.det, Sym.det0, Sym.canon, keepEnv, fn_ret, fn_normal, rs_keep, rs_frz, rz_mk, rk_true, rf_some, reps_v, all_rep, all_rep', all_strF, all_strA, max12, max21, btf, bft, btt, bff, aRes, Sym.one, frzM, frz1, frz0, frzL, args0, dead0, idx_ne, bytesV_length, all_bytesF, all_bytesA, toNums_bytes, bytesV_drop, bytesV_take, putL_bytes, strCells_bytes, natLit, w64, wu8, wu16, wu32, wu64, range1, range2, range3, range4, lp_succ, Int.natCast_zero, Int.natCast_one, bne_self_eq_false, go_regs, go_regm, om_nil, om_cons, om1_true, om1_false, om2_some, aopM_call, aopM_false, aCallM, sxA, sxB, sxC, nft, ntf, sxD, sxE, sxF, sxO, qq_nil, qq_cons, qq1_true, qq1_false, qq2_some, List.getElem?_cons_zero, none_beq, emptyS, Option.some_beq_some, Option.getD_some, Option.getD_none, Option.bind_some, Option.map_some, Option.bind_none, Option.map_none, if_true, if_false, ite_true, ite_false, Bool.false_eq_true, reduceIte, reduceCtorEq, Nat.reduceEqDiff, beq_self_eq_true, Bool.and_true, Bool.true_and, Bool.and_false, Bool.false_and, Bool.or_true, Bool.true_or, Bool.or_false, Bool.false_or, Bool.not_true, Bool.not_false, List.getElem?_cons_zero, List.getElem?_cons_succ, List.getElem?_nil, List.length_cons, List.length_nil, List.all_cons, List.all_nil, List.map_cons, List.map_nil, List.flatMap_cons, List.flatMap_nil, List.append_nil, List.nil_append, List.cons_append, List.contains_nil, List.contains_cons, List.take_zero, List.drop_zero, List.take_succ_cons, List.drop_succ_cons, List.set_cons_zero, List.set_cons_succ, List.getD_cons_zero, List.getD_cons_succ, List.idxOf_cons_self, List.range_zero, List.isEmpty_nil, List.isEmpty_cons, decide_true, decide_false, and_self, true_and, and_true, false_and, and_false, Nat.zero_add, Nat.add_zero, Nat.max_self, Nat.zero_max, Nat.max_zero, Nat.le_refl, ne_eq, not_true_eq_false, not_false_eq_true, beq_iff_eq, Nat.reduceAdd, Nat.reduceSub, Nat.reduceMul, Nat.reduceLT, Nat.reduceLeDiff, Nat.reduceBEq, Nat.reduceBNe, Nat.sub_zero, Nat.zero_mul, Nat.mul_zero, Nat.mul_one, Nat.one_mul, List.take_nil, List.drop_nil, Option.isNone_none, Option.isNone_some, Int.natCast_nonneg, Int.toNat_natCast, Nat.zero_le, Nat.lt_irrefl, Nat.reduceGT, Int.reduceEq, Int.reduceLT, Int.reduceLE, Int.reduceToNat, Int.reduceAdd, Int.reduceSub, Int.reduceMul, Int.reduceNeg, Int.reduceBEq, Int.reduceBNe, envV, c, w5, hat, hsp, q1, q2, q3, q4, n1, n2, n3, n4, p1, p2, reps_bytes, List.length_replicate]
  · have e1 : (i + 1) * 24 ≤ 140737488355328 := by omega
    have e2 : i + 1 ≤ 9223372036854775807 := by omega
    have e3 : ¬ i + 1 ≤ i := by omega
    have e4 : i ≤ 9223372036854775806 := by omega
    rw [if_neg z, if_neg z]
    simp -implicitDefEqProofs only [go_skip, go_ret, go_exit, go_seq, go_cond, cd_true, cd_false, cd_bool, go_block, go_loop, nx_nil, nx_c, nx_b, nx_l, rt_nil, rt_c, rt_b, rt_l, xt_c, xt_b, xt_l, go_reg, op_nil, op_cons, op1_true, op1_false, op2_some, go_regq, go_regt, qp_nil, qp_cons, qp1_true, qp1_false, qp2_some, aop_call, aopQ_call, aop_mv, aop_pick, aop_bin, aop_eqb, aop_eqp, aop_eqs, aop_eqst, aop_un, aop_load, aop_fld, aop_fad, aop_nilck, aop_ixs, aop_ixa, aop_ixstr, aop_ixv, aop_ext, aop_cvi, aop_cvs, aop_len, aop_lens, aop_min, aop_max, aop_slstr, aop_sls, aop_build, aop_cvbs, aop_mkf, aop_box, aop_alloc, aop_row, aop_store, aop_mks, aop_app, aop_cpy, aop_cvsb, aop_clr, aopQ_mv, aopQ_pick, aopQ_bin, aopQ_eqb, aopQ_eqp, aopQ_eqs, aopQ_eqst, aopQ_un, aopQ_load, aopQ_fld, aopQ_fad, aopQ_nilck, aopQ_ixs, aopQ_ixa, aopQ_ixstr, aopQ_ixv, aopQ_ext, aopQ_cvi, aopQ_cvs, aopQ_len, aopQ_lens, aopQ_min, aopQ_max, aopQ_slstr, aopQ_sls, aopQ_build, aopQ_cvbs, aopQ_mkf, Sym.wants, Sym.get, Sym.ev, Sym.evs, Sym.evO, Sym.evP, Sym.put, Sym.lev, Sym.aq, Sym.ae, aBin, aInt, isShift, aEqB, aEqP, aEqS, leavesEq, leafEq, aUn, Sym.rd, aLoad, aField, aFad, aNilck, asI, aIxS, aIxA, aIxV, aExt, aPick, aCvi, aCvs, aLen, aLenS, aMin2, aMax2, aFold, aFoldL, bnd, aSlStr, aSlS, fillL, newO, kill, aStore, putL, getO, cellsOf, Sym.elems, Sym.elemsS, aApp, aCpy, aClr, Sym.reps, aCall, aCallQ, finishCall, Sym.refs, Sym.refs1, Sym.refs0, okv, ok1, Sym.atom, flat0, dedup, Sym.reach, Sym.pos, Sym.sub, renO, Sym.ren, Sym.ren1, Sym.ren0, gmap, mergeOld, mergeNew, mergeO, allFresh, Sym.det, Sym.det0, Sym.canon, keepEnv, fn_ret, fn_normal, rs_keep, rs_frz, rz_mk, rk_true, rf_some, reps_v, all_rep, all_rep', all_strF, all_strA, max12, max21, btf, bft, btt, bff, aRes, Sym.one, frzM, frz1, frz0, frzL, args0, dead0, idx_ne, bytesV_length, all_bytesF, all_bytesA, toNums_bytes, bytesV_drop, bytesV_take, putL_bytes, strCells_bytes, natLit, w64, wu8, wu16, wu32, wu64, range1, range2, range3, range4, lp_succ, Int.natCast_zero, Int.natCast_one, bne_self_eq_false, go_regs, go_regm, om_nil, om_cons, om1_true, om1_false, om2_some, aopM_call, aopM_false, aCallM, sxA, sxB, sxC, nft, ntf, sxD, sxE, sxF, sxO, qq_nil, qq_cons, qq1_true, qq1_false, qq2_some, List.getElem?_cons_zero, none_beq, emptyS, Option.some_beq_some, Option.getD_some, Option.getD_none, Option.bind_some, Option.map_some, Option.bind_none, Option.map_none, if_true, if_false, ite_true, ite_false, Bool.false_eq_true, reduceIte, reduceCtorEq, Nat.reduceEqDiff, beq_self_eq_true, Bool.and_true, Bool.true_and, Bool.and_false, Bool.false_and, Bool.or_true, Bool.true_or, Bool.or_false, Bool.false_or, Bool.not_true, Bool.not_false, List.getElem?_cons_zero, List.getElem?_cons_succ, List.getElem?_nil, List.length_cons, List.length_nil, List.all_cons, List.all_nil, List.map_cons, List.map_nil, List.flatMap_cons, List.flatMap_nil, List.append_nil, List.nil_append, List.cons_append, List.contains_nil, List.contains_cons, List.take_zero, List.drop_zero, List.take_succ_cons, List.drop_succ_cons, List.set_cons_zero, List.set_cons_succ, List.getD_cons_zero, List.getD_cons_succ, List.idxOf_cons_self, List.range_zero, List.isEmpty_nil, List.isEmpty_cons, decide_true, decide_false, and_self, true_and, and_true, false_and, and_false, Nat.zero_add, Nat.add_zero, Nat.max_self, Nat.zero_max, Nat.max_zero, Nat.le_refl, ne_eq, not_true_eq_false, not_false_eq_true, beq_iff_eq, Nat.reduceAdd, Nat.reduceSub, Nat.reduceMul, Nat.reduceLT, Nat.reduceLeDiff, Nat.reduceBEq, Nat.reduceBNe, Nat.sub_zero, Nat.zero_mul, Nat.mul_zero, Nat.mul_one, Nat.one_mul, List.take_nil, List.drop_nil, Option.isNone_none, Option.isNone_some, Int.natCast_nonneg, Int.toNat_natCast, Nat.zero_le, Nat.lt_irrefl, Nat.reduceGT, Int.reduceEq, Int.reduceLT, Int.reduceLE, Int.reduceToNat, Int.reduceAdd, Int.reduceSub, Int.reduceMul, Int.reduceNeg, Int.reduceBEq, Int.reduceBNe, envV, c, w5, hat, hsp, q1, q2, q3, q4, n1, n2, n3, n4, p1, p2, e1, e2, e3, e4, z, reps_bytes, List.length_replicate, rows_len, rows_take, rows_flat, rows_atom, Int.natCast_add, Int.natCast_one]
end Go.Proofs.Yteamlgfohagocaa.Spl
