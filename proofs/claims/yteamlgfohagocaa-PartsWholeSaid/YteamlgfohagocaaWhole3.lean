/- The law PartsWhole: whichever parts come. -/
import Derived.Test.YteamlgfohagocaaWhole2
import Derived.Test.YteamlgfohagocaaArgs
namespace Go.Proofs.Yteamlgfohagocaa.Spl
open Go Go.Proofs.Yteamlgfohagocaa.Sym Go.Proofs.Yteamlgfohagocaa.Tab Go.Proofs.Yteamlgfohagocaa.Blk Go.Proofs.Yteamlgfohagocaa.Glue Go.Proofs.Yteamlgfohagocaa.Refs Go.Proofs.Yteamlgfohagocaa.PR Go.Proofs.Yteamlgfohagocaa.Args
set_option linter.unusedVariables false
set_option linter.unusedSimpArgs false
set_option maxHeartbeats 8000000
set_option maxRecDepth 20000
abbrev Cm := S44
theorem cms_at : ∀ {L : List Cm} {i : Nat} (h : i < L.length), ((L.flatMap S44.av).drop (i * 2)).take 2 = L[i].av
  | x :: L, 0, h => by simp [S44.av]
  | x :: L, i + 1, h => by
    have := cms_at (L := L) (i := i) (by simpa using h)
    rw [List.flatMap_cons, show (i + 1) * 2 = x.av.length + i * 2 by simp [S44.av]; omega, ← List.drop_drop, List.drop_left, this]
    rfl
theorem cms_len (L : List Cm) : (L.flatMap S44.av).length = L.length * 2 := by
  induction L with
  | nil => rfl
  | cons x L ih => rw [List.flatMap_cons, List.length_append, ih, List.length_cons]; simp [S44.av]; omega
def envC (L : List ByteArray) (n : Nat) (last : Int) (A : List Cm) (i : Nat) : Env := [(1, .shr L.length false (strsV L)), (7, .v (.int .i64 n)), (8, .view 0 0 L.length 1 none), (11, .ptr 1 0), (12, .v (.int .i64 last)), (71, .shr A.length false (A.flatMap S44.av)), (72, .v (.int .i64 A.length)), (73, .v (.int .i64 i))]
def obC (L : List ByteArray) (n : Nat) (g : Gl) : List Sym.Obj := [⟨true, true, true, rows (val n L) L.length⟩, gO g 2, g.b true]
theorem val_size (n : Nat) (L : List ByteArray) (j : Nat) : (val n L j).size = n := pad_size _ _
theorem rem_at {m : Nat} {x : Int} (hx : 0 ≤ x ∧ x ≤ 255) (hm : 1 ≤ m) : ∃ k : Nat, k < m ∧ x.tmod (m : Int) = k := by
  have h1 := Int.emod_nonneg x (b := (m : Int)) (by omega)
  have h2 := Int.emod_lt_of_pos x (show (0 : Int) < (m : Int) by omega)
  refine ⟨(x % (m : Int)).toNat, by omega, ?_⟩
  rw [tmod_nn hx.1]
  omega
theorem cstep (L : List ByteArray) (hL : 1 ≤ L.length ∧ L.length ≤ 8) (n : Nat) (hn : 1 ≤ n ∧ n ≤ 64) (A : List Cm) (hA : A.length ≤ 100) (last : Int) (g : Gl) (hg : St (val n L) L.length n last g) (i : Nat) (hi : i < A.length) (ha : S44.In A[i]) (N : Nat) (ks : List It) :
    ∃ last' g', St (val n L) L.length n last' g' ∧ Lh (acall T 199) 199 (some ⟨envC L n last A i, obC L n g, 1, []⟩) [1, 7, 8, 11, 12, 71, 72, 73] l_fuglemanlaw17_PartsWhole_2 (N + 1) ks = Lh (acall T 199) 199 (some ⟨envC L n last' A (i + 1), obC L n g', 1, []⟩) [1, 7, 8, 11, 12, 71, 72, 73] l_fuglemanlaw17_PartsWhole_2 N ks := by
  have c : (i : Int) < A.length := by omega
  have w5 : IntKind.i64.wrap ((i : Int) + 1) = i + 1 := w64 (by omega) (by omega)
  have hat := cms_at hi
  have f2 : i * 2 + 2 ≤ A.length * 2 := by omega
  have hal := cms_len A
  generalize A[i] = a at *
  obtain ⟨j, hj, hjm⟩ := rem_at ha.f0 hL.1
  have hpp := parts_pos hn
  have hpm4 := parts_le n
  have hsl : (split (F j) (val n L j)).length = (parts n).toNat := by rw [split_len, val_size]
  have hpt : 1 ≤ (parts n).toNat := by omega
  obtain ⟨p, hp, hpm⟩ := rem_at ha.f1 hpt
  have u1 : IntKind.i64.wrap a.f0 = a.f0 := w64 (by have := ha.f0; omega) (by have := ha.f0; omega)
  have u2 : IntKind.i64.wrap a.f1 = a.f1 := w64 (by have := ha.f1; omega) (by have := ha.f1; omega)
  have hgo := go_any hL.2 hn (fun j _ => val_size n L j) hg hj hp
  have hin : (fr (F j) (val n L j) p).In := fr_in (F_in (by omega)) (by rw [val_size]; exact hp)
  have hput := put_a 192 g (fr (F j) (val n L j) p) hin hg.1
  have hrow : (rows (val n L) L.length)[j]? = some (.shr (parts n).toNat false (frs (split (F j) (val n L j)))) := by rw [rows_at hj, rowj, hsl]
  have hpl : p < (split (F j) (val n L j)).length := by omega
  have hfr := frs_at (l := split (F j) (val n L j)) (xs := []) hpl
  rw [List.append_nil] at hfr
  have hgt : (split (F j) (val n L j))[p] = fr (F j) (val n L j) p := by simp [split_range]
  rw [hgt] at hfr
  have hfl : (frs (split (F j) (val n L j))).length = (parts n).toNat * 19 := by rw [frs_len, hsl]
  have h0l : 0 < (split (F j) (val n L j)).length := by omega
  have hf0 := frs_at (l := split (F j) (val n L j)) (xs := []) h0l
  rw [List.append_nil] at hf0
  have hg0 : (split (F j) (val n L j))[0] = fr (F j) (val n L j) 0 := by simp [split_range]
  rw [hg0, Nat.zero_mul, List.drop_zero] at hf0
  have hver : ((frs (split (F j) (val n L j))).drop 14).take 2 = [.v (.int .u16 (F j).inc), .v (.int .u32 (F j).seq)] := by
    have : ((frs (split (F j) (val n L j))).drop 14).take 2 = (((frs (split (F j) (val n L j))).take 19).drop 14).take 2 := by
      rw [List.drop_take, List.take_take]
      rfl
    rw [this, hf0]
    rfl
  have hva : val n L j = pad n (L[j]'hj) := by unfold val; rw [List.getElem?_eq_getElem hj]; rfl
  have hla := strsV_at hj
  have hgl : g.val.length = n := hg.2.1
  obtain ⟨d, s, e, r1, r2, r3⟩ := hgo
  rw [r1] at hput
  have htd := at_a 198 (g.put (fr (F j) (val n L j) p)).2
  generalize (g.put (fr (F j) (val n L j) p)).2 = g' at *
  have f3 : p * 19 + 19 ≤ (parts n).toNat * 19 := by omega
  have f4 : (p : Int) < (parts n).toNat := by omega
  have f5 : (j : Int) < L.length := by omega
  have f6 : ¬ (((parts n).toNat : Int) == 0) = true := by rw [beq_iff_eq]; omega
  have f6' : (((parts n).toNat : Int) == 0) = false := by simpa using f6
  have f7 : ¬ ((parts n).toNat : Int) = 0 := by omega
  have f8 : ¬ (L.length : Int) = 0 := by omega
  have f9 : (0 : Int) < (parts n).toNat := by omega
  have f10 : 14 + 2 ≤ (parts n).toNat * 19 := by omega
  have n1 : (0 : Int) ≤ n := by omega
  have n2 : n ≤ 140737488355328 := by omega
  have n3 : n ≤ 9223372036854775807 := by omega
  have n4 : (n : Int) ≤ n := Int.le_refl _
  have q2 : IntKind.i64.wrap (j : Int) = j := w64 (by omega) (by omega)
  have q3 : IntKind.i64.wrap (p : Int) = p := w64 (by omega) (by omega)
  cases d with
  | false =>
    obtain ⟨rfl, he, hst⟩ := r2 rfl
    refine ⟨last, g', hst, ?_⟩
    generalize (parts n).toNat = pn at *
    generalize fr (F j) (val n L j) p = q at *
    generalize frs (split (F j) (val n L j)) = sf at *
    simp only [out, Gl.o, Gl.b, Fr.c] at hput
    simp only [Fr.c] at hfr
    simp only [S44.av] at hat
    rw [lh_as l_fuglemanlaw17_PartsWhole_2.eq_1]
    rcases he with rfl | rfl | rfl <;> simp -implicitDefEqProofs only [go_skip, go_ret, go_exit, go_seq, go_cond, cd_true, cd_false, cd_bool, go_block, go_loop, nx_nil, nx_c, nx_b, nx_l, rt_nil, rt_c, rt_b, rt_l, xt_c, xt_b, xt_l, go_reg, op_nil, op_cons, op1_true, op1_false, op2_some, go_regq, go_regt, qp_nil, qp_cons, qp1_true, qp1_false, qp2_some, aop_call, aopQ_call, aop_mv, aop_pick, aop_bin, aop_eqb, aop_eqp, aop_eqs, aop_eqst, aop_un, aop_load, aop_fld, aop_fad, aop_nilck, aop_ixs, aop_ixa, aop_ixstr, aop_ixv, aop_ext, aop_cvi, aop_cvs, aop_len, aop_lens, aop_min, aop_max, aop_slstr, aop_sls, aop_build, aop_cvbs, aop_mkf, aop_box, aop_alloc, aop_row, aop_store, aop_mks, aop_app, aop_cpy, aop_cvsb, aop_clr, aopQ_mv, aopQ_pick, aopQ_bin, aopQ_eqb, aopQ_eqp, aopQ_eqs, aopQ_eqst, aopQ_un, aopQ_load, aopQ_fld, aopQ_fad, aopQ_nilck, aopQ_ixs, aopQ_ixa, aopQ_ixstr, aopQ_ixv, aopQ_ext, aopQ_cvi, aopQ_cvs, aopQ_len, aopQ_lens, aopQ_min, aopQ_max, aopQ_slstr, aopQ_sls, aopQ_build, aopQ_cvbs, aopQ_mkf, Sym.wants, Sym.get, Sym.ev, Sym.evs, Sym.evO, Sym.evP, Sym.put, Sym.lev, Sym.aq, Sym.ae, aBin, aInt, isShift, aEqB, aEqP, aEqS, leavesEq, leafEq, aUn, Sym.rd, aLoad, aField, aFad, aNilck, asI, aIxS, aIxA, aIxV, aExt, aPick, aCvi, aCvs, aLen, aLenS, aMin2, aMax2, aFold, aFoldL, bnd, aSlStr, aSlS, fillL, newO, kill, aStore, putL, getO, cellsOf, Sym.elems, Sym.elemsS, aApp, aCpy, aClr, Sym.reps, aCall, aCallQ, finishCall, Sym.refs, Sym.refs1, Sym.refs0, okv, ok1, Sym.atom, flat0, dedup, Sym.reach, Sym.pos, Sym.sub, renO, Sym.ren, Sym.ren1, Sym.ren0, gmap, mergeOld, mergeNew, mergeO, allFresh, Sym.det, Sym.det0, Sym.canon, keepEnv, fn_ret, fn_normal, rs_keep, rs_frz, rz_mk, rk_true, rf_some, reps_v, all_rep, all_rep', all_strF, all_strA, max12, max21, btf, bft, btt, bff, aRes, Sym.one, frzM, frz1, frz0, frzL, args0, dead0, idx_ne, bytesV_length, all_bytesF, all_bytesA, toNums_bytes, bytesV_drop, bytesV_take, putL_bytes, strCells_bytes, natLit, w64, wu8, wu16, wu32, wu64, range1, range2, range3, range4, lp_succ, Int.natCast_zero, Int.natCast_one, bne_self_eq_false, go_regs, go_regm, om_nil, om_cons, om1_true, om1_false, om2_some, aopM_call, aopM_false, aCallM, sxA, sxB, sxC, nft, ntf, sxD, sxE, sxF, sxO, qq_nil, qq_cons, qq1_true, qq1_false, qq2_some, List.getElem?_cons_zero, none_beq, emptyS, Option.some_beq_some, Option.getD_some, Option.getD_none, Option.bind_some, Option.map_some, Option.bind_none, Option.map_none, if_true, if_false, ite_true, ite_false, Bool.false_eq_true, reduceIte, reduceCtorEq, Nat.reduceEqDiff, beq_self_eq_true, Bool.and_true, Bool.true_and, Bool.and_false, Bool.false_and, Bool.or_true, Bool.true_or, Bool.or_false, Bool.false_or, Bool.not_true, Bool.not_false, List.getElem?_cons_zero, List.getElem?_cons_succ, List.getElem?_nil, List.length_cons, List.length_nil, List.all_cons, List.all_nil, List.map_cons, List.map_nil, List.flatMap_cons, List.flatMap_nil, List.append_nil, List.nil_append, List.cons_append, List.contains_nil, List.contains_cons, List.take_zero, List.drop_zero, List.take_succ_cons, List.drop_succ_cons, List.set_cons_zero, List.set_cons_succ, List.getD_cons_zero, List.getD_cons_succ, List.idxOf_cons_self, List.range_zero, List.isEmpty_nil, List.isEmpty_cons, decide_true, decide_false, and_self, true_and, and_true, false_and, and_false, Nat.zero_add, Nat.add_zero, Nat.max_self, Nat.zero_max, Nat.max_zero, Nat.le_refl, ne_eq, not_true_eq_false, not_false_eq_true, beq_iff_eq, Nat.reduceAdd, Nat.reduceSub, Nat.reduceMul, Nat.reduceLT, Nat.reduceLeDiff, Nat.reduceBEq, Nat.reduceBNe, Nat.sub_zero, Nat.zero_mul, Nat.mul_zero, Nat.mul_one, Nat.one_mul, List.take_nil, List.drop_nil, Option.isNone_none, Option.isNone_some, Int.natCast_nonneg, Int.toNat_natCast, Nat.zero_le, Nat.lt_irrefl, Nat.reduceGT, Int.reduceEq, Int.reduceLT, Int.reduceLE, Int.reduceToNat, Int.reduceAdd, Int.reduceSub, Int.reduceMul, Int.reduceNeg, Int.reduceBEq, Int.reduceBNe, envC, obC, gO, Gl.b, c, w5, hat, f2, hal, hjm, hpm, u1, u2, hrow, hfr, hfl, f3, f4, f5, f6', f7, f8, q2, q3, rows_len, hput, S44.av, Int.natCast_add, Int.natCast_one]
  | true =>
    obtain ⟨rfl, rfl, hlast, h1, h2, h3, hst⟩ := r3 rfl
    refine ⟨j, g', hst, ?_⟩
    unfold Gl.told at htd
    rw [if_pos h1, h2, h3] at htd
    have p1 : (padL n (L[j]'hj)).take n = padL n (L[j]'hj) := List.take_of_length_le (by rw [padL_len]; exact Nat.le_refl _)
    have p2 := padL_len n (L[j]'hj)
    have hle : ¬ (j : Int) ≤ last := by omega
    generalize (parts n).toNat = pn at *
    generalize (F j).inc = vi at *
    generalize (F j).seq = vs at *
    generalize fr (F j) (val n L j) p = q at *
    generalize frs (split (F j) (val n L j)) = sf at *
    rw [hva] at hput
    simp only [out, Gl.o, Gl.b, Fr.c, pad, padL] at hput
    simp only [padL] at p1 p2
    simp only [Fr.c] at hfr
    simp only [Gl.o, Gl.b, h1, h2, h3] at htd
    simp only [S44.av] at hat
    rw [lh_as l_fuglemanlaw17_PartsWhole_2.eq_1]
    simp -implicitDefEqProofs only [go_skip, go_ret, go_exit, go_seq, go_cond, cd_true, cd_false, cd_bool, go_block, go_loop, nx_nil, nx_c, nx_b, nx_l, rt_nil, rt_c, rt_b, rt_l, xt_c, xt_b, xt_l, go_reg, op_nil, op_cons, op1_true, op1_false, op2_some, go_regq, go_regt, qp_nil, qp_cons, qp1_true, qp1_false, qp2_some, aop_call, aopQ_call, aop_mv, aop_pick, aop_bin, aop_eqb, aop_eqp, aop_eqs, aop_eqst, aop_un, aop_load, aop_fld, aop_fad, aop_nilck, aop_ixs, aop_ixa, aop_ixstr, aop_ixv, aop_ext, aop_cvi, aop_cvs, aop_len, aop_lens, aop_min, aop_max, aop_slstr, aop_sls, aop_build, aop_cvbs, aop_mkf, aop_box, aop_alloc, aop_row, aop_store, aop_mks, aop_app, aop_cpy, aop_cvsb, aop_clr, aopQ_mv, aopQ_pick, aopQ_bin, aopQ_eqb, aopQ_eqp, aopQ_eqs, aopQ_eqst, aopQ_un, aopQ_load, aopQ_fld, aopQ_fad, aopQ_nilck, aopQ_ixs, aopQ_ixa, aopQ_ixstr, aopQ_ixv, aopQ_ext, aopQ_cvi, aopQ_cvs, aopQ_len, aopQ_lens, aopQ_min, aopQ_max, aopQ_slstr, aopQ_sls, aopQ_build, aopQ_cvbs, aopQ_mkf, Sym.wants, Sym.get, Sym.ev, Sym.evs, Sym.evO, Sym.evP, Sym.put, Sym.lev, Sym.aq, Sym.ae, aBin, aInt, isShift, aEqB, aEqP, aEqS, leavesEq, leafEq, aUn, Sym.rd, aLoad, aField, aFad, aNilck, asI, aIxS, aIxA, aIxV, aExt, aPick, aCvi, aCvs, aLen, aLenS, aMin2, aMax2, aFold, aFoldL, bnd, aSlStr, aSlS, fillL, newO, kill, aStore, putL, getO, cellsOf, Sym.elems, Sym.elemsS, aApp, aCpy, aClr, Sym.reps, aCall, aCallQ, finishCall, Sym.refs, Sym.refs1, Sym.refs0, okv, ok1, Sym.atom, flat0, dedup, Sym.reach, Sym.pos, Sym.sub, renO, Sym.ren, Sym.ren1, Sym.ren0, gmap, mergeOld, mergeNew, mergeO, allFresh, Sym.det, Sym.det0, Sym.canon, keepEnv, fn_ret, fn_normal, rs_keep, rs_frz, rz_mk, rk_true, rf_some, reps_v, all_rep, all_rep', all_strF, all_strA, max12, max21, btf, bft, btt, bff, aRes, Sym.one, frzM, frz1, frz0, frzL, args0, dead0, idx_ne, bytesV_length, all_bytesF, all_bytesA, toNums_bytes, bytesV_drop, bytesV_take, putL_bytes, strCells_bytes, natLit, w64, wu8, wu16, wu32, wu64, range1, range2, range3, range4, lp_succ, Int.natCast_zero, Int.natCast_one, bne_self_eq_false, go_regs, go_regm, om_nil, om_cons, om1_true, om1_false, om2_some, aopM_call, aopM_false, aCallM, sxA, sxB, sxC, nft, ntf, sxD, sxE, sxF, sxO, qq_nil, qq_cons, qq1_true, qq1_false, qq2_some, List.getElem?_cons_zero, none_beq, emptyS, Option.some_beq_some, Option.getD_some, Option.getD_none, Option.bind_some, Option.map_some, Option.bind_none, Option.map_none, if_true, if_false, ite_true, ite_false, Bool.false_eq_true, reduceIte, reduceCtorEq, Nat.reduceEqDiff, beq_self_eq_true, Bool.and_true, Bool.true_and, Bool.and_false, Bool.false_and, Bool.or_true, Bool.true_or, Bool.or_false, Bool.false_or, Bool.not_true, Bool.not_false, List.getElem?_cons_zero, List.getElem?_cons_succ, List.getElem?_nil, List.length_cons, List.length_nil, List.all_cons, List.all_nil, List.map_cons, List.map_nil, List.flatMap_cons, List.flatMap_nil, List.append_nil, List.nil_append, List.cons_append, List.contains_nil, List.contains_cons, List.take_zero, List.drop_zero, List.take_succ_cons, List.drop_succ_cons, List.set_cons_zero, List.set_cons_succ, List.getD_cons_zero, List.getD_cons_succ, List.idxOf_cons_self, List.range_zero, List.isEmpty_nil, List.isEmpty_cons, decide_true, decide_false, and_self, true_and, and_true, false_and, and_false, Nat.zero_add, Nat.add_zero, Nat.max_self, Nat.zero_max, Nat.max_zero, Nat.le_refl, ne_eq, not_true_eq_false, not_false_eq_true, beq_iff_eq, Nat.reduceAdd, Nat.reduceSub, Nat.reduceMul, Nat.reduceLT, Nat.reduceLeDiff, Nat.reduceBEq, Nat.reduceBNe, Nat.sub_zero, Nat.zero_mul, Nat.mul_zero, Nat.mul_one, Nat.one_mul, List.take_nil, List.drop_nil, Option.isNone_none, Option.isNone_some, Int.natCast_nonneg, Int.toNat_natCast, Nat.zero_le, Nat.lt_irrefl, Nat.reduceGT, Int.reduceEq, Int.reduceLT, Int.reduceLE, Int.reduceToNat, Int.reduceAdd, Int.reduceSub, Int.reduceMul, Int.reduceNeg, Int.reduceBEq, Int.reduceBNe, envC, obC, gO, Gl.b, c, w5, hat, f2, hal, hjm, hpm, u1, u2, hrow, hfr, hfl, f3, f4, f5, f6', f7, f8, f9, f10, q2, q3, rows_len, hput, htd, h1, h2, h3, hver, hla, hle, n1, n2, n3, n4, p1, p2, reps_bytes, List.length_replicate, S44.av, Int.natCast_add, Int.natCast_one]
theorem c_loop (L : List ByteArray) (hL : 1 ≤ L.length ∧ L.length ≤ 8) (n : Nat) (hn : 1 ≤ n ∧ n ≤ 64) (A : List Cm) (hA : A.length ≤ 100) (ha : ∀ (i : Nat) (h : i < A.length), S44.In A[i]) : ∀ (m N i : Nat) (last : Int) (g : Gl), i + m = A.length → m ≤ N → St (val n L) L.length n last g →
    FnR [.t 6] false false (Lh (acall T 199) 199 (some ⟨envC L n last A i, obC L n g, 1, []⟩) [1, 7, 8, 11, 12, 71, 72, 73] l_fuglemanlaw17_PartsWhole_2 N [.b 2, .c l_fuglemanlaw17_PartsWhole_3]) = some ⟨.v (.bool true), [], 1⟩
  | 0, N, i, last, g, hm, hN, hg => by
    have c : ¬ (i : Int) < A.length := by omega
    rw [lh_as l_fuglemanlaw17_PartsWhole_2.eq_1]
    simp -implicitDefEqProofs only [go_skip, go_ret, go_exit, go_seq, go_cond, cd_true, cd_false, cd_bool, go_block, go_loop, nx_nil, nx_c, nx_b, nx_l, rt_nil, rt_c, rt_b, rt_l, xt_c, xt_b, xt_l, go_reg, op_nil, op_cons, op1_true, op1_false, op2_some, go_regq, go_regt, qp_nil, qp_cons, qp1_true, qp1_false, qp2_some, aop_call, aopQ_call, aop_mv, aop_pick, aop_bin, aop_eqb, aop_eqp, aop_eqs, aop_eqst, aop_un, aop_load, aop_fld, aop_fad, aop_nilck, aop_ixs, aop_ixa, aop_ixstr, aop_ixv, aop_ext, aop_cvi, aop_cvs, aop_len, aop_lens, aop_min, aop_max, aop_slstr, aop_sls, aop_build, aop_cvbs, aop_mkf, aop_box, aop_alloc, aop_row, aop_store, aop_mks, aop_app, aop_cpy, aop_cvsb, aop_clr, aopQ_mv, aopQ_pick, aopQ_bin, aopQ_eqb, aopQ_eqp, aopQ_eqs, aopQ_eqst, aopQ_un, aopQ_load, aopQ_fld, aopQ_fad, aopQ_nilck, aopQ_ixs, aopQ_ixa, aopQ_ixstr, aopQ_ixv, aopQ_ext, aopQ_cvi, aopQ_cvs, aopQ_len, aopQ_lens, aopQ_min, aopQ_max, aopQ_slstr, aopQ_sls, aopQ_build, aopQ_cvbs, aopQ_mkf, Sym.wants, Sym.get, Sym.ev, Sym.evs, Sym.evO, Sym.evP, Sym.put, Sym.lev, Sym.aq, Sym.ae, aBin, aInt, isShift, aEqB, aEqP, aEqS, leavesEq, leafEq, aUn, Sym.rd, aLoad, aField, aFad, aNilck, asI, aIxS, aIxA, aIxV, aExt, aPick, aCvi, aCvs, aLen, aLenS, aMin2, aMax2, aFold, aFoldL, bnd, aSlStr, aSlS, fillL, newO, kill, aStore, putL, getO, cellsOf, Sym.elems, Sym.elemsS, aApp, aCpy, aClr, Sym.reps, aCall, aCallQ, finishCall, Sym.refs, Sym.refs1, Sym.refs0, okv, ok1, Sym.atom, flat0, dedup, Sym.reach, Sym.pos, Sym.sub, renO, Sym.ren, Sym.ren1, Sym.ren0, gmap, mergeOld, mergeNew, mergeO, allFresh, Sym.det, Sym.det0, Sym.canon, keepEnv, fn_ret, fn_normal, rs_keep, rs_frz, rz_mk, rk_true, rf_some, reps_v, all_rep, all_rep', all_strF, all_strA, max12, max21, btf, bft, btt, bff, aRes, Sym.one, frzM, frz1, frz0, frzL, args0, dead0, idx_ne, bytesV_length, all_bytesF, all_bytesA, toNums_bytes, bytesV_drop, bytesV_take, putL_bytes, strCells_bytes, natLit, w64, wu8, wu16, wu32, wu64, range1, range2, range3, range4, lp_succ, Int.natCast_zero, Int.natCast_one, bne_self_eq_false, go_regs, go_regm, om_nil, om_cons, om1_true, om1_false, om2_some, aopM_call, aopM_false, aCallM, sxA, sxB, sxC, nft, ntf, sxD, sxE, sxF, sxO, qq_nil, qq_cons, qq1_true, qq1_false, qq2_some, List.getElem?_cons_zero, none_beq, emptyS, Option.some_beq_some, Option.getD_some, Option.getD_none, Option.bind_some, Option.map_some, Option.bind_none, Option.map_none, if_true, if_false, ite_true, ite_false, Bool.false_eq_true, reduceIte, reduceCtorEq, Nat.reduceEqDiff, beq_self_eq_true, Bool.and_true, Bool.true_and, Bool.and_false, Bool.false_and, Bool.or_true, Bool.true_or, Bool.or_false, Bool.false_or, Bool.not_true, Bool.not_false, List.getElem?_cons_zero, List.getElem?_cons_succ, List.getElem?_nil, List.length_cons, List.length_nil, List.all_cons, List.all_nil, List.map_cons, List.map_nil, List.flatMap_cons, List.flatMap_nil, List.append_nil, List.nil_append, List.cons_append, List.contains_nil, List.contains_cons, List.take_zero, List.drop_zero, List.take_succ_cons, List.drop_succ_cons, List.set_cons_zero, List.set_cons_succ, List.getD_cons_zero, List.getD_cons_succ, List.idxOf_cons_self, List.range_zero, List.isEmpty_nil, List.isEmpty_cons, decide_true, decide_false, and_self, true_and, and_true, false_and, and_false, Nat.zero_add, Nat.add_zero, Nat.max_self, Nat.zero_max, Nat.max_zero, Nat.le_refl, ne_eq, not_true_eq_false, not_false_eq_true, beq_iff_eq, Nat.reduceAdd, Nat.reduceSub, Nat.reduceMul, Nat.reduceLT, Nat.reduceLeDiff, Nat.reduceBEq, Nat.reduceBNe, Nat.sub_zero, Nat.zero_mul, Nat.mul_zero, Nat.mul_one, Nat.one_mul, List.take_nil, List.drop_nil, Option.isNone_none, Option.isNone_some, Int.natCast_nonneg, Int.toNat_natCast, Nat.zero_le, Nat.lt_irrefl, Nat.reduceGT, Int.reduceEq, Int.reduceLT, Int.reduceLE, Int.reduceToNat, Int.reduceAdd, Int.reduceSub, Int.reduceMul, Int.reduceNeg, Int.reduceBEq, Int.reduceBNe, envC, obC, gO, Gl.b, c, l_fuglemanlaw17_PartsWhole_3]
  | m + 1, N, i, last, g, hm, hN, hg => by
    obtain ⟨N, rfl⟩ : ∃ n', N = n' + 1 := ⟨N - 1, by omega⟩
    have hi : i < A.length := by omega
    obtain ⟨last', g', hst, h⟩ := cstep L hL n hn A hA last g hg i hi (ha i hi) N [.b 2, .c l_fuglemanlaw17_PartsWhole_3]
    rw [h]
    exact c_loop L hL n hn A hA ha m N (i + 1) last' g' (by omega) (by omega) hst
theorem v_loop (L : List ByteArray) (hL : 1 ≤ L.length ∧ L.length ≤ 8) (M : Nat) (X : List AV) (n : Nat) (hn : 1 ≤ n ∧ n ≤ 64) (hend : FnR [.t 6] false false (Go (acall T 199) 199 l_fuglemanlaw17_PartsWhole_1 [] ⟨(45, .v (.bool false)) :: envV L M X n (.view 0 0 L.length 1 none) L.length, [⟨true, true, true, rows (val n L) L.length⟩], 1, []⟩) = some ⟨.v (.bool true), [], 1⟩) : ∀ (m N i : Nat), i + m = L.length → m ≤ N →
    FnR [.t 6] false false (Lh (acall T 199) 199 (some ⟨envV L M X n (if i = 0 then .v (.slice none 0 0) else .view 0 0 i 1 none) i, if i = 0 then [] else [⟨true, true, true, rows (val n L) i⟩], 1, []⟩) [1, 2, 7, 8, 43, 44] l_fuglemanlaw17_PartsWhole_0 N [.b 0, .c l_fuglemanlaw17_PartsWhole_1]) = some ⟨.v (.bool true), [], 1⟩
  | 0, N, i, hm, hN => by
    obtain rfl : i = L.length := by omega
    have c : ¬ (L.length : Int) < L.length := by omega
    rw [if_neg (by omega), if_neg (by omega), lh_as l_fuglemanlaw17_PartsWhole_0.eq_1]
    simp only [envV] at hend
    simp -implicitDefEqProofs only [go_skip, go_ret, go_exit, go_seq, go_cond, cd_true, cd_false, cd_bool, go_block, go_loop, nx_nil, nx_c, nx_b, nx_l, rt_nil, rt_c, rt_b, rt_l, xt_c, xt_b, xt_l, go_reg, op_nil, op_cons, op1_true, op1_false, op2_some, go_regq, go_regt, qp_nil, qp_cons, qp1_true, qp1_false, qp2_some, aop_call, aopQ_call, aop_mv, aop_pick, aop_bin, aop_eqb, aop_eqp, aop_eqs, aop_eqst, aop_un, aop_load, aop_fld, aop_fad, aop_nilck, aop_ixs, aop_ixa, aop_ixstr, aop_ixv, aop_ext, aop_cvi, aop_cvs, aop_len, aop_lens, aop_min, aop_max, aop_slstr, aop_sls, aop_build, aop_cvbs, aop_mkf, aop_box, aop_alloc, aop_row, aop_store, aop_mks, aop_app, aop_cpy, aop_cvsb, aop_clr, aopQ_mv, aopQ_pick, aopQ_bin, aopQ_eqb, aopQ_eqp, aopQ_eqs, aopQ_eqst, aopQ_un, aopQ_load, aopQ_fld, aopQ_fad, aopQ_nilck, aopQ_ixs, aopQ_ixa, aopQ_ixstr, aopQ_ixv, aopQ_ext, aopQ_cvi, aopQ_cvs, aopQ_len, aopQ_lens, aopQ_min, aopQ_max, aopQ_slstr, aopQ_sls, aopQ_build, aopQ_cvbs, aopQ_mkf, Sym.wants, Sym.get, Sym.ev, Sym.evs, Sym.evO, Sym.evP, Sym.put, Sym.lev, Sym.aq, Sym.ae, aBin, aInt, isShift, aEqB, aEqP, aEqS, leavesEq, leafEq, aUn, Sym.rd, aLoad, aField, aFad, aNilck, asI, aIxS, aIxA, aIxV, aExt, aPick, aCvi, aCvs, aLen, aLenS, aMin2, aMax2, aFold, aFoldL, bnd, aSlStr, aSlS, fillL, newO, kill, aStore, putL, getO, cellsOf, Sym.elems, Sym.elemsS, aApp, aCpy, aClr, Sym.reps, aCall, aCallQ, finishCall, Sym.refs, Sym.refs1, Sym.refs0, okv, ok1, Sym.atom, flat0, dedup, Sym.reach, Sym.pos, Sym.sub, renO, Sym.ren, Sym.ren1, Sym.ren0, gmap, mergeOld, mergeNew, mergeO, allFresh, Sym.det, Sym.det0, Sym.canon, keepEnv, fn_ret, fn_normal, rs_keep, rs_frz, rz_mk, rk_true, rf_some, reps_v, all_rep, all_rep', all_strF, all_strA, max12, max21, btf, bft, btt, bff, aRes, Sym.one, frzM, frz1, frz0, frzL, args0, dead0, idx_ne, bytesV_length, all_bytesF, all_bytesA, toNums_bytes, bytesV_drop, bytesV_take, putL_bytes, strCells_bytes, natLit, w64, wu8, wu16, wu32, wu64, range1, range2, range3, range4, lp_succ, Int.natCast_zero, Int.natCast_one, bne_self_eq_false, go_regs, go_regm, om_nil, om_cons, om1_true, om1_false, om2_some, aopM_call, aopM_false, aCallM, sxA, sxB, sxC, nft, ntf, sxD, sxE, sxF, sxO, qq_nil, qq_cons, qq1_true, qq1_false, qq2_some, List.getElem?_cons_zero, none_beq, emptyS, Option.some_beq_some, Option.getD_some, Option.getD_none, Option.bind_some, Option.map_some, Option.bind_none, Option.map_none, if_true, if_false, ite_true, ite_false, Bool.false_eq_true, reduceIte, reduceCtorEq, Nat.reduceEqDiff, beq_self_eq_true, Bool.and_true, Bool.true_and, Bool.and_false, Bool.false_and, Bool.or_true, Bool.true_or, Bool.or_false, Bool.false_or, Bool.not_true, Bool.not_false, List.getElem?_cons_zero, List.getElem?_cons_succ, List.getElem?_nil, List.length_cons, List.length_nil, List.all_cons, List.all_nil, List.map_cons, List.map_nil, List.flatMap_cons, List.flatMap_nil, List.append_nil, List.nil_append, List.cons_append, List.contains_nil, List.contains_cons, List.take_zero, List.drop_zero, List.take_succ_cons, List.drop_succ_cons, List.set_cons_zero, List.set_cons_succ, List.getD_cons_zero, List.getD_cons_succ, List.idxOf_cons_self, List.range_zero, List.isEmpty_nil, List.isEmpty_cons, decide_true, decide_false, and_self, true_and, and_true, false_and, and_false, Nat.zero_add, Nat.add_zero, Nat.max_self, Nat.zero_max, Nat.max_zero, Nat.le_refl, ne_eq, not_true_eq_false, not_false_eq_true, beq_iff_eq, Nat.reduceAdd, Nat.reduceSub, Nat.reduceMul, Nat.reduceLT, Nat.reduceLeDiff, Nat.reduceBEq, Nat.reduceBNe, Nat.sub_zero, Nat.zero_mul, Nat.mul_zero, Nat.mul_one, Nat.one_mul, List.take_nil, List.drop_nil, Option.isNone_none, Option.isNone_some, Int.natCast_nonneg, Int.toNat_natCast, Nat.zero_le, Nat.lt_irrefl, Nat.reduceGT, Int.reduceEq, Int.reduceLT, Int.reduceLE, Int.reduceToNat, Int.reduceAdd, Int.reduceSub, Int.reduceMul, Int.reduceNeg, Int.reduceBEq, Int.reduceBNe, envV, c]
    exact hend
  | m + 1, N, i, hm, hN => by
    obtain ⟨N, rfl⟩ : ∃ n', N = n' + 1 := ⟨N - 1, by omega⟩
    rw [vstep L hL.2 M X n hn i (by omega)]
    have ih := v_loop L hL M X n hn hend m N (i + 1) (by omega) (by omega)
    rw [if_neg (by omega), if_neg (by omega)] at ih
    exact ih
theorem hend_a (L : List ByteArray) (hL : 1 ≤ L.length ∧ L.length ≤ 8) (n : Nat) (hn : 1 ≤ n ∧ n ≤ 64) (A : List Cm) (hA : A.length ≤ 100) (ha : ∀ (i : Nat) (h : i < A.length), S44.In A[i]) : FnR [.t 6] false false (Go (acall T 199) 199 l_fuglemanlaw17_PartsWhole_1 [] ⟨(45, .v (.bool false)) :: envV L A.length (A.flatMap S44.av) n (.view 0 0 L.length 1 none) L.length, [⟨true, true, true, rows (val n L) L.length⟩], 1, []⟩) = some ⟨.v (.bool true), [], 1⟩ := by
  have hnew := new_a 197 n (by omega)
  rw [Int.toNat_natCast] at hnew
  have lp : ∀ (ks : List It) (st : Sym.St), Lp (acall T 199) 199 [1, 7, 8, 11, 12, 71, 72, 73] l_fuglemanlaw17_PartsWhole_2 199 ks st = Lh (acall T 199) 199 (canon [1, 7, 8, 11, 12, 71, 72, 73] st) [1, 7, 8, 11, 12, 71, 72, 73] l_fuglemanlaw17_PartsWhole_2 198 ks := fun ks s => lp_succ (n := 198)
  have h := c_loop L hL n hn A hA ha A.length 198 0 (-1) ⟨0, 0, false, 0, 0, List.replicate n 0⟩ (by omega) (by omega) ⟨⟨⟨Int.le_refl 0, by show (0 : Int) ≤ 1000; decide⟩, by show (List.replicate n (0 : Int)).length ≤ 64; rw [List.length_replicate]; omega⟩, List.length_replicate, .inl ⟨rfl, rfl⟩⟩
  simp only [envC, obC, gO, Gl.b, List.length_replicate, Int.natCast_zero] at h
  simp only [Gl.o, Gl.b, List.length_replicate] at hnew
  simp -implicitDefEqProofs only [go_skip, go_ret, go_exit, go_seq, go_cond, cd_true, cd_false, cd_bool, go_block, go_loop, nx_nil, nx_c, nx_b, nx_l, rt_nil, rt_c, rt_b, rt_l, xt_c, xt_b, xt_l, go_reg, op_nil, op_cons, op1_true, op1_false, op2_some, go_regq, go_regt, qp_nil, qp_cons, qp1_true, qp1_false, qp2_some, aop_call, aopQ_call, aop_mv, aop_pick, aop_bin, aop_eqb, aop_eqp, aop_eqs, aop_eqst, aop_un, aop_load, aop_fld, aop_fad, aop_nilck, aop_ixs, aop_ixa, aop_ixstr, aop_ixv, aop_ext, aop_cvi, aop_cvs, aop_len, aop_lens, aop_min, aop_max, aop_slstr, aop_sls, aop_build, aop_cvbs, aop_mkf, aop_box, aop_alloc, aop_row, aop_store, aop_mks, aop_app, aop_cpy, aop_cvsb, aop_clr, aopQ_mv, aopQ_pick, aopQ_bin, aopQ_eqb, aopQ_eqp, aopQ_eqs, aopQ_eqst, aopQ_un, aopQ_load, aopQ_fld, aopQ_fad, aopQ_nilck, aopQ_ixs, aopQ_ixa, aopQ_ixstr, aopQ_ixv, aopQ_ext, aopQ_cvi, aopQ_cvs, aopQ_len, aopQ_lens, aopQ_min, aopQ_max, aopQ_slstr, aopQ_sls, aopQ_build, aopQ_cvbs, aopQ_mkf, Sym.wants, Sym.get, Sym.ev, Sym.evs, Sym.evO, Sym.evP, Sym.put, Sym.lev, Sym.aq, Sym.ae, aBin, aInt, isShift, aEqB, aEqP, aEqS, leavesEq, leafEq, aUn, Sym.rd, aLoad, aField, aFad, aNilck, asI, aIxS, aIxA, aIxV, aExt, aPick, aCvi, aCvs, aLen, aLenS, aMin2, aMax2, aFold, aFoldL, bnd, aSlStr, aSlS, fillL, newO, kill, aStore, putL, getO, cellsOf, Sym.elems, Sym.elemsS, aApp, aCpy, aClr, Sym.reps, aCall, aCallQ, finishCall, Sym.refs, Sym.refs1, Sym.refs0, okv, ok1, Sym.atom, flat0, dedup, Sym.reach, Sym.pos, Sym.sub, renO, Sym.ren, Sym.ren1, Sym.ren0, gmap, mergeOld, mergeNew, mergeO, allFresh, Sym.det, Sym.det0, Sym.canon, keepEnv, fn_ret, fn_normal, rs_keep, rs_frz, rz_mk, rk_true, rf_some, reps_v, all_rep, all_rep', all_strF, all_strA, max12, max21, btf, bft, btt, bff, aRes, Sym.one, frzM, frz1, frz0, frzL, args0, dead0, idx_ne, bytesV_length, all_bytesF, all_bytesA, toNums_bytes, bytesV_drop, bytesV_take, putL_bytes, strCells_bytes, natLit, w64, wu8, wu16, wu32, wu64, range1, range2, range3, range4, lp_succ, Int.natCast_zero, Int.natCast_one, bne_self_eq_false, go_regs, go_regm, om_nil, om_cons, om1_true, om1_false, om2_some, aopM_call, aopM_false, aCallM, sxA, sxB, sxC, nft, ntf, sxD, sxE, sxF, sxO, qq_nil, qq_cons, qq1_true, qq1_false, qq2_some, List.getElem?_cons_zero, none_beq, emptyS, Option.some_beq_some, Option.getD_some, Option.getD_none, Option.bind_some, Option.map_some, Option.bind_none, Option.map_none, if_true, if_false, ite_true, ite_false, Bool.false_eq_true, reduceIte, reduceCtorEq, Nat.reduceEqDiff, beq_self_eq_true, Bool.and_true, Bool.true_and, Bool.and_false, Bool.false_and, Bool.or_true, Bool.true_or, Bool.or_false, Bool.false_or, Bool.not_true, Bool.not_false, List.getElem?_cons_zero, List.getElem?_cons_succ, List.getElem?_nil, List.length_cons, List.length_nil, List.all_cons, List.all_nil, List.map_cons, List.map_nil, List.flatMap_cons, List.flatMap_nil, List.append_nil, List.nil_append, List.cons_append, List.contains_nil, List.contains_cons, List.take_zero, List.drop_zero, List.take_succ_cons, List.drop_succ_cons, List.set_cons_zero, List.set_cons_succ, List.getD_cons_zero, List.getD_cons_succ, List.idxOf_cons_self, List.range_zero, List.isEmpty_nil, List.isEmpty_cons, decide_true, decide_false, and_self, true_and, and_true, false_and, and_false, Nat.zero_add, Nat.add_zero, Nat.max_self, Nat.zero_max, Nat.max_zero, Nat.le_refl, ne_eq, not_true_eq_false, not_false_eq_true, beq_iff_eq, Nat.reduceAdd, Nat.reduceSub, Nat.reduceMul, Nat.reduceLT, Nat.reduceLeDiff, Nat.reduceBEq, Nat.reduceBNe, Nat.sub_zero, Nat.zero_mul, Nat.mul_zero, Nat.mul_one, Nat.one_mul, List.take_nil, List.drop_nil, Option.isNone_none, Option.isNone_some, Int.natCast_nonneg, Int.toNat_natCast, Nat.zero_le, Nat.lt_irrefl, Nat.reduceGT, Int.reduceEq, Int.reduceLT, Int.reduceLE, Int.reduceToNat, Int.reduceAdd, Int.reduceSub, Int.reduceMul, Int.reduceNeg, Int.reduceBEq, Int.reduceBNe, l_fuglemanlaw17_PartsWhole_1, envV, hnew, lp, h, rows_len, rows_flat, rows_atom]
end Go.Proofs.Yteamlgfohagocaa.Spl
