/- The law PartsRuns: all frames. -/
import Derived.Test.YteamlgfohagocaaRuns2
namespace Go.Proofs.Yteamlgfohagocaa.Runs
open Go Go.Proofs.Yteamlgfohagocaa.Sym Go.Proofs.Yteamlgfohagocaa.Tab Go.Proofs.Yteamlgfohagocaa.Blk Go.Proofs.Yteamlgfohagocaa.Glue Go.Proofs.Yteamlgfohagocaa.Refs Go.Proofs.Yteamlgfohagocaa.PR
set_option linter.unusedVariables false
set_option linter.unusedSimpArgs false
set_option maxHeartbeats 8000000
set_option maxRecDepth 20000
def OkS (n : Int) (g : Gl) : Option Rg → Prop
  | none => g.is = false ∧ (g.val.length : Int) = n ∧ (1 ≤ n ∧ n ≤ 64) ∧ g.n = 0
  | some w => Inv n g w
theorem clr_ok (n : Int) (i : Nat) : ∀ (cl : List Int) (g : Gl) (w : Option Rg), OkS n g w → OkS n (clr i g w cl).1 (clr i g w cl).2
  | [], g, w, h => h
  | x :: cl, g, w, h => by
    rw [clr]
    split
    · refine clr_ok n i cl _ _ ?_
      cases w with
      | none => exact ⟨rfl, h.2.1, h.2.2.1, rfl⟩
      | some w => exact ⟨rfl, h.gl, h.hn, rfl⟩
    · exact clr_ok n i cl _ _ h
theorem gput_out (g : Gl) (f : Fr) : ∃ s b e, (g.put f).1 = out s b e := by
  have lay : ∀ g : Gl, ∃ s b e, (g.lay f).1 = out s b e := fun g => by
    unfold Gl.lay
    split
    · exact ⟨_, _, _, rfl⟩
    · split <;> exact ⟨_, _, _, rfl⟩
  unfold Gl.put
  split
  · exact ⟨_, _, _, rfl⟩
  · split
    · exact ⟨_, _, _, rfl⟩
    · split
      · split
        · exact ⟨_, _, _, rfl⟩
        · split <;> exact lay _
      · exact lay _
theorem frames_len (l : List Fr) : (l.flatMap Fr.c).length = l.length * 19 := by
  induction l with
  | nil => rfl
  | cons f l ih =>
    rw [List.flatMap_cons, List.length_append, ih, List.length_cons]
    show 19 + _ = _
    omega
theorem frames_at : ∀ (l : List Fr) (i : Nat) (h : i < l.length), ((l.flatMap Fr.c).drop (i * 19)).take 19 = l[i].c
  | f :: l, 0, _ => by
    rw [List.flatMap_cons]
    simp [Fr.c]
  | f :: l, i + 1, h => by
    have ih := frames_at l i (by simpa using h)
    have e : (i + 1) * 19 = f.c.length + i * 19 := by show _ = 19 + i * 19; omega
    rw [List.flatMap_cons, e, ← List.drop_drop, List.drop_left, ih]
    rfl
theorem outer (n : Int) (cl : List Int) (hcl : ∀ x ∈ cl, 0 ≤ x ∧ x ≤ 255) (hcn : cl.length ≤ 60) (l : List Fr) (hln : l.length ≤ 60) (hl : ∀ f ∈ l, f.In) : ∀ (N i : Nat) (g : Gl) (w : Option Rg), OkS n g w → i ≤ l.length → l.length - i ≤ N →
    FnR [.t 6] false false (Lh (acall T 199) 199 (some ⟨env0 n cl l i, obO n g w, 1, []⟩) [0, 2, 7, 11, 63, 64, 65] l_fuglemanlaw17_PartsRuns_0 N [.b 0, .c l_fuglemanlaw17_PartsRuns_4]) = some ⟨.v (.bool true), [], 1⟩
  | N, i, g, w, hok, hi, hN => by
    by_cases d : i < l.length
    · have d' : (i : Int) < l.length := by omega
      have e2 : (0 : Int) ≤ i := by omega
      have e5 : i * 19 + 19 ≤ (l.flatMap Fr.c).length := by rw [frames_len]; omega
      have e6 := frames_at l i d
      have hf := hl _ (List.getElem_mem d)
      generalize hfl : l[i] = f at e6 hf
      by_cases big : 40 < f.b.size
      · have big' : (40 : Int) < f.b.size := by omega
        rw [lh_as l_fuglemanlaw17_PartsRuns_0.eq_1]
        cases w <;> simp only [go_skip, go_ret, go_exit, go_seq, go_cond, cd_true, cd_false, cd_bool, go_block, go_loop, nx_nil, nx_c, nx_b, nx_l, rt_nil, rt_c, rt_b, rt_l, xt_c, xt_b, xt_l, go_reg, op_nil, op_cons, op1_true, op1_false, op2_some, go_regq, go_regt, qp_nil, qp_cons, qp1_true, qp1_false, qp2_some, aop_call, aopQ_call, aop_mv, aop_pick, aop_bin, aop_eqb, aop_eqp, aop_eqs, aop_eqst, aop_un, aop_load, aop_fld, aop_fad, aop_nilck, aop_ixs, aop_ixa, aop_ixstr, aop_ixv, aop_ext, aop_cvi, aop_cvs, aop_len, aop_lens, aop_min, aop_max, aop_slstr, aop_sls, aop_build, aop_cvbs, aop_box, aop_alloc, aop_row, aop_store, aop_mks, aop_app, aop_cpy, aop_cvsb, aopQ_mv, aopQ_pick, aopQ_bin, aopQ_eqb, aopQ_eqp, aopQ_eqs, aopQ_eqst, aopQ_un, aopQ_load, aopQ_fld, aopQ_fad, aopQ_nilck, aopQ_ixs, aopQ_ixa, aopQ_ixstr, aopQ_ixv, aopQ_ext, aopQ_cvi, aopQ_cvs, aopQ_len, aopQ_lens, aopQ_min, aopQ_max, aopQ_slstr, aopQ_sls, aopQ_build, aopQ_cvbs, Sym.wants, Sym.get, Sym.ev, Sym.evs, Sym.evO, Sym.evP, Sym.put, Sym.lev, Sym.aq, Sym.ae, aBin, aInt, isShift, aEqB, aEqP, aEqS, leavesEq, leafEq, aUn, Sym.rd, aLoad, aField, aFad, aNilck, asI, aIxS, aIxA, aIxV, aExt, aPick, aCvi, aCvs, aLen, aLenS, aMin2, aMax2, aFold, aFoldL, bnd, aSlStr, aSlS, fillL, newO, kill, aStore, putL, getO, cellsOf, Sym.elems, Sym.elemsS, aApp, aCpy, Sym.reps, aCall, aCallQ, finishCall, Sym.refs, Sym.refs1, Sym.refs0, okv, ok1, Sym.atom, flat0, dedup, Sym.reach, Sym.pos, Sym.sub, renO, Sym.ren, Sym.ren1, Sym.ren0, gmap, mergeOld, mergeNew, mergeO, allFresh, Sym.det, Sym.det0, Sym.canon, keepEnv, fn_ret, fn_normal, rs_keep, rs_frz, rz_mk, rk_true, rf_some, reps_v, all_rep, all_rep', all_strF, all_strA, max12, max21, btf, bft, btt, bff, aRes, Sym.one, frzM, frz1, frz0, frzL, args0, dead0, idx_ne, bytesV_length, all_bytesF, all_bytesA, toNums_bytes, bytesV_drop, bytesV_take, putL_bytes, strCells_bytes, natLit, w64, wu8, wu16, wu32, wu64, range1, range2, range3, range4, lp_succ, Int.natCast_zero, Int.natCast_one, bne_self_eq_false, go_regs, sxA, sxB, sxC, nft, ntf, sxD, sxE, sxF, sxO, qq_nil, qq_cons, qq1_true, qq1_false, qq2_some, List.getElem?_cons_zero, none_beq, emptyS, Option.some_beq_some, Option.getD_some, Option.getD_none, Option.bind_some, Option.map_some, Option.bind_none, Option.map_none, if_true, if_false, ite_true, ite_false, Bool.false_eq_true, reduceIte, reduceCtorEq, Nat.reduceEqDiff, beq_self_eq_true, Bool.and_true, Bool.true_and, Bool.and_false, Bool.false_and, Bool.or_true, Bool.true_or, Bool.or_false, Bool.false_or, Bool.not_true, Bool.not_false, List.getElem?_cons_zero, List.getElem?_cons_succ, List.getElem?_nil, List.length_cons, List.length_nil, List.all_cons, List.all_nil, List.map_cons, List.map_nil, List.flatMap_cons, List.flatMap_nil, List.append_nil, List.nil_append, List.cons_append, List.contains_nil, List.contains_cons, List.take_zero, List.drop_zero, List.take_succ_cons, List.drop_succ_cons, List.set_cons_zero, List.set_cons_succ, List.getD_cons_zero, List.getD_cons_succ, List.idxOf_cons_self, List.range_zero, List.isEmpty_nil, List.isEmpty_cons, decide_true, decide_false, and_self, true_and, and_true, Nat.zero_add, Nat.add_zero, Nat.max_self, Nat.zero_max, Nat.max_zero, Nat.le_refl, ne_eq, not_true_eq_false, not_false_eq_true, beq_iff_eq, Nat.reduceAdd, Nat.reduceSub, Nat.reduceMul, Nat.reduceLT, Nat.reduceLeDiff, Nat.reduceBEq, Nat.reduceBNe, Nat.sub_zero, Nat.zero_mul, Nat.mul_zero, Nat.mul_one, Nat.one_mul, List.take_nil, List.drop_nil, Nat.lt_irrefl, Nat.reduceGT, Int.reduceEq, Int.reduceLT, Int.reduceLE, Int.reduceToNat, Int.reduceAdd, Int.reduceSub, Int.reduceMul, Int.reduceNeg, Int.reduceBEq, Int.reduceBNe, env0, obO, gO, rO, Rg.no, Gl.b, Rg.c, d', e2, e5, e6, Fr.c, big', Int.toNat_natCast]
      · have big' : ¬ (40 : Int) < f.b.size := by omega
        cases N with
        | zero => omega
        | succ N =>
          have key : Lh (acall T 199) 199 (some ⟨env0 n cl l i, obO n g w, 1, []⟩) [0, 2, 7, 11, 63, 64, 65] l_fuglemanlaw17_PartsRuns_0 (N + 1) [.b 0, .c l_fuglemanlaw17_PartsRuns_4] = Lh (acall T 199) 199 (some ⟨env1 n cl l i 0, obI n g f w, 1, []⟩) [0, 2, 7, 11, 12, 13, 63, 64, 65, 74, 75, 76] l_fuglemanlaw17_PartsRuns_1 198 (.b 2 :: .c l_fuglemanlaw17_PartsRuns_2 :: .b 1 :: .c l_fuglemanlaw17_PartsRuns_3 :: .l [0, 2, 7, 11, 63, 64, 65] l_fuglemanlaw17_PartsRuns_0 (N + 1) :: [.b 0, .c l_fuglemanlaw17_PartsRuns_4]) := by
            rw [lh_as l_fuglemanlaw17_PartsRuns_0.eq_1]
            have lp : ∀ (ks : List It) (s : St), Lp (acall T 199) 199 [0, 2, 7, 11, 12, 13, 63, 64, 65, 74, 75, 76] l_fuglemanlaw17_PartsRuns_1 199 ks s = Lh (acall T 199) 199 (canon [0, 2, 7, 11, 12, 13, 63, 64, 65, 74, 75, 76] s) [0, 2, 7, 11, 12, 13, 63, 64, 65, 74, 75, 76] l_fuglemanlaw17_PartsRuns_1 198 ks := fun ks s => lp_succ (n := 198)
            cases w <;> simp only [go_skip, go_ret, go_exit, go_seq, go_cond, cd_true, cd_false, cd_bool, go_block, go_loop, nx_nil, nx_c, nx_b, nx_l, rt_nil, rt_c, rt_b, rt_l, xt_c, xt_b, xt_l, go_reg, op_nil, op_cons, op1_true, op1_false, op2_some, go_regq, go_regt, qp_nil, qp_cons, qp1_true, qp1_false, qp2_some, aop_call, aopQ_call, aop_mv, aop_pick, aop_bin, aop_eqb, aop_eqp, aop_eqs, aop_eqst, aop_un, aop_load, aop_fld, aop_fad, aop_nilck, aop_ixs, aop_ixa, aop_ixstr, aop_ixv, aop_ext, aop_cvi, aop_cvs, aop_len, aop_lens, aop_min, aop_max, aop_slstr, aop_sls, aop_build, aop_cvbs, aop_box, aop_alloc, aop_row, aop_store, aop_mks, aop_app, aop_cpy, aop_cvsb, aopQ_mv, aopQ_pick, aopQ_bin, aopQ_eqb, aopQ_eqp, aopQ_eqs, aopQ_eqst, aopQ_un, aopQ_load, aopQ_fld, aopQ_fad, aopQ_nilck, aopQ_ixs, aopQ_ixa, aopQ_ixstr, aopQ_ixv, aopQ_ext, aopQ_cvi, aopQ_cvs, aopQ_len, aopQ_lens, aopQ_min, aopQ_max, aopQ_slstr, aopQ_sls, aopQ_build, aopQ_cvbs, Sym.wants, Sym.get, Sym.ev, Sym.evs, Sym.evO, Sym.evP, Sym.put, Sym.lev, Sym.aq, Sym.ae, aBin, aInt, isShift, aEqB, aEqP, aEqS, leavesEq, leafEq, aUn, Sym.rd, aLoad, aField, aFad, aNilck, asI, aIxS, aIxA, aIxV, aExt, aPick, aCvi, aCvs, aLen, aLenS, aMin2, aMax2, aFold, aFoldL, bnd, aSlStr, aSlS, fillL, newO, kill, aStore, putL, getO, cellsOf, Sym.elems, Sym.elemsS, aApp, aCpy, Sym.reps, aCall, aCallQ, finishCall, Sym.refs, Sym.refs1, Sym.refs0, okv, ok1, Sym.atom, flat0, dedup, Sym.reach, Sym.pos, Sym.sub, renO, Sym.ren, Sym.ren1, Sym.ren0, gmap, mergeOld, mergeNew, mergeO, allFresh, Sym.det, Sym.det0, Sym.canon, keepEnv, fn_ret, fn_normal, rs_keep, rs_frz, rz_mk, rk_true, rf_some, reps_v, all_rep, all_rep', all_strF, all_strA, max12, max21, btf, bft, btt, bff, aRes, Sym.one, frzM, frz1, frz0, frzL, args0, dead0, idx_ne, bytesV_length, all_bytesF, all_bytesA, toNums_bytes, bytesV_drop, bytesV_take, putL_bytes, strCells_bytes, natLit, w64, wu8, wu16, wu32, wu64, range1, range2, range3, range4, lp_succ, Int.natCast_zero, Int.natCast_one, bne_self_eq_false, go_regs, sxA, sxB, sxC, nft, ntf, sxD, sxE, sxF, sxO, qq_nil, qq_cons, qq1_true, qq1_false, qq2_some, List.getElem?_cons_zero, none_beq, emptyS, Option.some_beq_some, Option.getD_some, Option.getD_none, Option.bind_some, Option.map_some, Option.bind_none, Option.map_none, if_true, if_false, ite_true, ite_false, Bool.false_eq_true, reduceIte, reduceCtorEq, Nat.reduceEqDiff, beq_self_eq_true, Bool.and_true, Bool.true_and, Bool.and_false, Bool.false_and, Bool.or_true, Bool.true_or, Bool.or_false, Bool.false_or, Bool.not_true, Bool.not_false, List.getElem?_cons_zero, List.getElem?_cons_succ, List.getElem?_nil, List.length_cons, List.length_nil, List.all_cons, List.all_nil, List.map_cons, List.map_nil, List.flatMap_cons, List.flatMap_nil, List.append_nil, List.nil_append, List.cons_append, List.contains_nil, List.contains_cons, List.take_zero, List.drop_zero, List.take_succ_cons, List.drop_succ_cons, List.set_cons_zero, List.set_cons_succ, List.getD_cons_zero, List.getD_cons_succ, List.idxOf_cons_self, List.range_zero, List.isEmpty_nil, List.isEmpty_cons, decide_true, decide_false, and_self, true_and, and_true, Nat.zero_add, Nat.add_zero, Nat.max_self, Nat.zero_max, Nat.max_zero, Nat.le_refl, ne_eq, not_true_eq_false, not_false_eq_true, beq_iff_eq, Nat.reduceAdd, Nat.reduceSub, Nat.reduceMul, Nat.reduceLT, Nat.reduceLeDiff, Nat.reduceBEq, Nat.reduceBNe, Nat.sub_zero, Nat.zero_mul, Nat.mul_zero, Nat.mul_one, Nat.one_mul, List.take_nil, List.drop_nil, Nat.lt_irrefl, Nat.reduceGT, Int.reduceEq, Int.reduceLT, Int.reduceLE, Int.reduceToNat, Int.reduceAdd, Int.reduceSub, Int.reduceMul, Int.reduceNeg, Int.reduceBEq, Int.reduceBNe, lp, env0, env1, obO, obI, gO, rO, Rg.no, Gl.b, Rg.c, d', e2, e5, e6, Fr.c, big', Int.toNat_natCast]
          rw [key, inner n cl hcl hcn l hln f i d _ 198 0 g w (Nat.zero_le _) (by omega), List.drop_zero]
          have hok1 := clr_ok n i cl g w hok
          generalize clr i g w cl = gw at hok1
          obtain ⟨g1, w1⟩ := gw
          simp only at hok1 ⊢
          obtain ⟨s, b, e, ho⟩ := gput_out g1 f
          cases w1 with
          | none =>
            obtain ⟨his, hgl, hn, hg0⟩ := hok1
            have hg : g1.In := ⟨by omega, by omega⟩
            have hp := put_a 192 g1 f hf hg
            rw [ho] at hp
            cases c1 : (f.kind != 4)
            · cases c2 : fitN n f
              · have hput : g1.put f = (out ByteArray.empty false 3, g1) := by
                  unfold Gl.put
                  rw [if_neg (by rw [c1]; decide), if_pos (by rw [fitsN hgl]; exact c2)]
                  rfl
                rw [hput] at ho hp
                simp only at ho hp
                have hr := rput_badN 159 n f hf hn c1 c2
                rw [ho] at hr
                rw [stepA n cl l hln f i N d _ g1 g1 s b e hp hr his]
                exact outer n cl hcl hcn l hln hl N (i + 1) g1 none ⟨his, hgl, hn, hg0⟩ d (by omega)
              · have hput : g1.put f = (g1.begin f.inc f.seq).lay f := by
                  unfold Gl.put
                  rw [if_neg (by rw [c1]; decide), if_neg (by rw [fitsN hgl, c2]; decide), if_neg (by rw [his]; decide)]
                have hr := rput_newN 159 n f hf hn c1 c2
                obtain ⟨z1, z2⟩ := lay_step (fresh_inv hn hgl hf) hf c2
                rw [← hput] at z1 z2
                rw [← z1, ho] at hr
                rw [stepB n cl l hln f i N d _ g1 (g1.put f).2 _ s b e hp hr z2]
                exact outer n cl hcl hcn l hln hl N (i + 1) _ (some _) z2 d (by omega)
            · have hput : g1.put f = (out ByteArray.empty false 11, g1) := by
                unfold Gl.put
                rw [if_pos c1]
                rfl
              rw [hput] at ho hp
              simp only at ho hp
              have hr := rput_kindN 159 n f c1
              rw [ho] at hr
              rw [stepA n cl l hln f i N d _ g1 g1 s b e hp hr his]
              exact outer n cl hcl hcn l hln hl N (i + 1) g1 none ⟨his, hgl, hn, hg0⟩ d (by omega)
          | some w1 =>
            have hv : Inv n g1 w1 := hok1
            have hp := put_a 192 g1 f hf hv.gin
            have hr := rput_a 159 w1 f hf hv.rin
            obtain ⟨z1, z2⟩ := put_step hv hf
            rw [ho] at hp
            rw [← z1, ho] at hr
            rw [stepC n cl l hln f i N d _ g1 (g1.put f).2 w1 _ s b e hp hr z2]
            exact outer n cl hcl hcn l hln hl N (i + 1) _ (some _) z2 d (by omega)
    · have d' : ¬ (i : Int) < l.length := by omega
      rw [lh_as l_fuglemanlaw17_PartsRuns_0.eq_1]
      cases w <;> simp only [go_skip, go_ret, go_exit, go_seq, go_cond, cd_true, cd_false, cd_bool, go_block, go_loop, nx_nil, nx_c, nx_b, nx_l, rt_nil, rt_c, rt_b, rt_l, xt_c, xt_b, xt_l, go_reg, op_nil, op_cons, op1_true, op1_false, op2_some, go_regq, go_regt, qp_nil, qp_cons, qp1_true, qp1_false, qp2_some, aop_call, aopQ_call, aop_mv, aop_pick, aop_bin, aop_eqb, aop_eqp, aop_eqs, aop_eqst, aop_un, aop_load, aop_fld, aop_fad, aop_nilck, aop_ixs, aop_ixa, aop_ixstr, aop_ixv, aop_ext, aop_cvi, aop_cvs, aop_len, aop_lens, aop_min, aop_max, aop_slstr, aop_sls, aop_build, aop_cvbs, aop_box, aop_alloc, aop_row, aop_store, aop_mks, aop_app, aop_cpy, aop_cvsb, aopQ_mv, aopQ_pick, aopQ_bin, aopQ_eqb, aopQ_eqp, aopQ_eqs, aopQ_eqst, aopQ_un, aopQ_load, aopQ_fld, aopQ_fad, aopQ_nilck, aopQ_ixs, aopQ_ixa, aopQ_ixstr, aopQ_ixv, aopQ_ext, aopQ_cvi, aopQ_cvs, aopQ_len, aopQ_lens, aopQ_min, aopQ_max, aopQ_slstr, aopQ_sls, aopQ_build, aopQ_cvbs, Sym.wants, Sym.get, Sym.ev, Sym.evs, Sym.evO, Sym.evP, Sym.put, Sym.lev, Sym.aq, Sym.ae, aBin, aInt, isShift, aEqB, aEqP, aEqS, leavesEq, leafEq, aUn, Sym.rd, aLoad, aField, aFad, aNilck, asI, aIxS, aIxA, aIxV, aExt, aPick, aCvi, aCvs, aLen, aLenS, aMin2, aMax2, aFold, aFoldL, bnd, aSlStr, aSlS, fillL, newO, kill, aStore, putL, getO, cellsOf, Sym.elems, Sym.elemsS, aApp, aCpy, Sym.reps, aCall, aCallQ, finishCall, Sym.refs, Sym.refs1, Sym.refs0, okv, ok1, Sym.atom, flat0, dedup, Sym.reach, Sym.pos, Sym.sub, renO, Sym.ren, Sym.ren1, Sym.ren0, gmap, mergeOld, mergeNew, mergeO, allFresh, Sym.det, Sym.det0, Sym.canon, keepEnv, fn_ret, fn_normal, rs_keep, rs_frz, rz_mk, rk_true, rf_some, reps_v, all_rep, all_rep', all_strF, all_strA, max12, max21, btf, bft, btt, bff, aRes, Sym.one, frzM, frz1, frz0, frzL, args0, dead0, idx_ne, bytesV_length, all_bytesF, all_bytesA, toNums_bytes, bytesV_drop, bytesV_take, putL_bytes, strCells_bytes, natLit, w64, wu8, wu16, wu32, wu64, range1, range2, range3, range4, lp_succ, Int.natCast_zero, Int.natCast_one, bne_self_eq_false, go_regs, sxA, sxB, sxC, nft, ntf, sxD, sxE, sxF, sxO, qq_nil, qq_cons, qq1_true, qq1_false, qq2_some, List.getElem?_cons_zero, none_beq, emptyS, Option.some_beq_some, Option.getD_some, Option.getD_none, Option.bind_some, Option.map_some, Option.bind_none, Option.map_none, if_true, if_false, ite_true, ite_false, Bool.false_eq_true, reduceIte, reduceCtorEq, Nat.reduceEqDiff, beq_self_eq_true, Bool.and_true, Bool.true_and, Bool.and_false, Bool.false_and, Bool.or_true, Bool.true_or, Bool.or_false, Bool.false_or, Bool.not_true, Bool.not_false, List.getElem?_cons_zero, List.getElem?_cons_succ, List.getElem?_nil, List.length_cons, List.length_nil, List.all_cons, List.all_nil, List.map_cons, List.map_nil, List.flatMap_cons, List.flatMap_nil, List.append_nil, List.nil_append, List.cons_append, List.contains_nil, List.contains_cons, List.take_zero, List.drop_zero, List.take_succ_cons, List.drop_succ_cons, List.set_cons_zero, List.set_cons_succ, List.getD_cons_zero, List.getD_cons_succ, List.idxOf_cons_self, List.range_zero, List.isEmpty_nil, List.isEmpty_cons, decide_true, decide_false, and_self, true_and, and_true, Nat.zero_add, Nat.add_zero, Nat.max_self, Nat.zero_max, Nat.max_zero, Nat.le_refl, ne_eq, not_true_eq_false, not_false_eq_true, beq_iff_eq, Nat.reduceAdd, Nat.reduceSub, Nat.reduceMul, Nat.reduceLT, Nat.reduceLeDiff, Nat.reduceBEq, Nat.reduceBNe, Nat.sub_zero, Nat.zero_mul, Nat.mul_zero, Nat.mul_one, Nat.one_mul, List.take_nil, List.drop_nil, Nat.lt_irrefl, Nat.reduceGT, Int.reduceEq, Int.reduceLT, Int.reduceLE, Int.reduceToNat, Int.reduceAdd, Int.reduceSub, Int.reduceMul, Int.reduceNeg, Int.reduceBEq, Int.reduceBNe, l_fuglemanlaw17_PartsRuns_4, env0, obO, d']
end Go.Proofs.Yteamlgfohagocaa.Runs
