/- The law BusHurts. -/
import Derived.Test.YthmmgpdniijkeaaBOps3
import Derived.Test.YthmmgpdniijkeaaBAwk
import Derived.Test.YthmmgpdniijkeaaArgs
namespace Go.Proofs.Ythmmgpdniijkeaa.Said
open Go Go.Proofs.Ythmmgpdniijkeaa.Sym Go.Proofs.Ythmmgpdniijkeaa.Tab Go.Proofs.Ythmmgpdniijkeaa.Bus Go.Proofs.Ythmmgpdniijkeaa.Args
set_option linter.unusedVariables false
set_option linter.unusedSimpArgs false
set_option maxHeartbeats 8000000
set_option maxRecDepth 20000
def oth : ByteArray := ⟨#[111, 116, 104, 101, 114]⟩
theorem b3_burst (q : Pc) (a : Int) (pat : Int) : (⟨[q, pc0 4 oth], 0, false⟩ : Bs).burst 0 a pat = if q.hurt = true then (11, ⟨[q, pc0 4 oth], 0, false⟩) else (0, ⟨[q.hit (Bus.burst q.b a pat), pc0 4 oth], 0, false⟩) := by
  unfold Bs.burst
  rw [if_pos (by rfl)]
  rfl
theorem size_cut (s : ByteArray) {m : Nat} (h : m < s.size) : s.extract 0 m ≠ s := by
  intro h2
  have := congrArg ByteArray.size h2
  rw [ByteArray.size_extract] at this
  omega
theorem hurtsA0 (s : ByteArray) (h2 : 2 ≤ s.size) (h40 : s.size ≤ 40) (x y : S32) (hx : S32.In x) (hy : S32.In y) (m1 : y.f0.tmod 2 = 0) (hs : s = Bus.burst s x.f2 x.f3) :
    FnR [.t 6] false false (Go (acall T 199) 199 b_fuglemanlaw09_BusHurts [] ⟨args0 0 [.v (.string s), .agg [.v (.int .u8 x.f0), .v (.int .i64 x.f1), .v (.int .i64 x.f2), .v (.int .u16 x.f3), .v (.string x.f4)], .agg [.v (.int .u8 y.f0), .v (.int .i64 y.f1), .v (.int .i64 y.f2), .v (.int .u16 y.f3), .v (.string y.f4)]], [], 0, List.range 0⟩) = some ⟨.v (.bool true), [], 1⟩ := by
  have hw : acall T 199 7 0 [] [] = some ⟨.v (.bool true), [], 1⟩ := awake_a
  have oe : (⟨#[111, 116, 104, 101, 114]⟩ : ByteArray) = oth := rfl
  have c1' : ¬ (s.size : Int) < 2 := by omega
  have c2' : ¬ (40 : Int) < s.size := by omega
  have hnew := new_a 198
  have hs1 := send_0 195 false 3 s ((okSend_iff 3 s).2 ⟨by decide, by decide, (by rintro rfl; simp at h2), by omega⟩)
  have hs2 : acall T 199 9 1 [.ptr 0 0, .v (.int .i64 4), .v (.string oth)] ((⟨[pc0 3 s], 0, false⟩ : Bs).ob false) = some ⟨.v (.int .i64 0), (⟨[pc0 3 s, pc0 4 oth], 0, false⟩ : Bs).ob false, 2⟩ := send_a 195 ⟨[pc0 3 s], 0, false⟩ 4 oth
  have in2 : ∀ q : Pc, q.b.size ≤ 255 → (⟨[q, pc0 4 oth], 0, false⟩ : Bs).In := fun q hq => ⟨by show 2 ≤ 64; decide, fun p hp => by
    rcases List.mem_cons.1 hp with rfl | hp
    · exact hq
    · rcases List.mem_cons.1 hp with rfl | hp
      · show 5 ≤ 255; decide
      · cases hp⟩
  have hb1 := burst_b 188 ⟨[pc0 3 s, pc0 4 oth], 0, false⟩ (in2 _ (by show s.size ≤ 255; omega)) 0 x.f2 x.f3 hx.f3
  rw [b3_burst, if_neg (by show ¬ false = true; decide)] at hb1
  have hsz := burst_size s x.f2 x.f3
  have hp0 : (pc0 3 s).hit (Bus.burst (pc0 3 s).b x.f2 x.f3) = ⟨Bus.burst s x.f2 x.f3, 3, wo 4294967295 3, !decide (s = Bus.burst s x.f2 x.f3)⟩ := rfl
  rw [hp0] at hb1
  generalize Bus.burst s x.f2 x.f3 = s1 at *
  have z1 : IntKind.i64.wrap y.f3 = y.f3 := w64 (by have := hy.f3; omega) (by have := hy.f3; omega)
  have z2 : IntKind.i64.wrap ((s.size : Int) - 1) = s.size - 1 := w64 (by omega) (by omega)
  have z3 : ¬ (s.size : Int) - 1 = 0 := by omega
  obtain ⟨n, hn⟩ : ∃ n : Nat, y.f3.tmod ((s.size : Int) - 1) = n ∧ n + 1 < s.size := by
    have h1 := Int.emod_nonneg y.f3 z3
    have h2 := Int.emod_lt_of_pos y.f3 (show (0 : Int) < (s.size : Int) - 1 by omega)
    refine ⟨(y.f3 % ((s.size : Int) - 1)).toNat, ?_, by omega⟩
    rw [tmod_nn hy.f3.1]
    omega
  obtain ⟨hn, hn2⟩ := hn
  have z4 : IntKind.i64.wrap (1 + (n : Int)) = ((n + 1 : Nat) : Int) := by rw [w64 (by omega) (by omega)]; omega
  have hoh : (pc0 4 oth).hurt = false := rfl
  have c199 : ∀ (b : Bs) (i n : Int), b.In → acall T 199 16 1 [.ptr 0 0, .v (.int .i64 i), .v (.int .i64 n)] (b.ob false) = some ⟨.v (.int .i64 (b.cut i n).1), (b.cut i n).2.ob false, 2⟩ := fun b i n hb => cut_b 188 b hb i n
  have p199 : ∀ (b : Bs) (i : Int), acall T 199 14 1 [.ptr 0 0, .v (.int .i64 i)] (b.ob false) = some ⟨b.piece i, b.ob false, 1⟩ := fun b i => piece_a 196 b i
  have t199 : ∀ (b : Bs) (i : Int), acall T 199 15 1 [.ptr 0 0, .v (.int .i64 i)] (b.ob false) = some ⟨.v (.int .i64 (b.twice i).1), (b.twice i).2.ob false, 2⟩ := fun b i => twice_b 188 b i
  have b199 : ∀ (b : Bs) (i a pat : Int), b.In → (0 ≤ pat ∧ pat ≤ 65535) → acall T 199 13 1 [.ptr 0 0, .v (.int .i64 i), .v (.int .i64 a), .v (.int .u16 pat)] (b.ob false) = some ⟨.v (.int .i64 (b.burst i a pat).1), (b.burst i a pat).2.ob false, 2⟩ := fun b i a pat hb hp => burst_b 188 b hb i a pat hp
  have in3 : ∀ q r : Pc, q.b.size ≤ 255 → r.b.size ≤ 255 → (⟨[q, pc0 4 oth, r], 0, false⟩ : Bs).In := fun q r hq hr => ⟨by show 3 ≤ 64; decide, fun p hp => by
    rcases List.mem_cons.1 hp with rfl | hp
    · exact hq
    · rcases List.mem_cons.1 hp with rfl | hp
      · show 5 ≤ 255; decide
      · rcases List.mem_cons.1 hp with rfl | hp
        · exact hr
        · cases hp⟩
  subst hs
  have hd : (!decide (s = s)) = false := by simp
  rw [hd] at hb1
  have hp1 := p199 ⟨[⟨s, 3, wo 4294967295 3, false⟩, pc0 4 oth], 0, false⟩ 0
  have hp1' : (⟨[⟨s, 3, wo 4294967295 3, false⟩, pc0 4 oth], 0, false⟩ : Bs).piece 0 = .tup [.agg (⟨s, 3, wo 4294967295 3, false⟩ : Pc).c, .v (.bool true)] := rfl
  have ht := t199 ⟨[⟨s, 3, wo 4294967295 3, false⟩, pc0 4 oth], 0, false⟩ 0
  have ht' : (⟨[⟨s, 3, wo 4294967295 3, false⟩, pc0 4 oth], 0, false⟩ : Bs).twice 0 = (0, ⟨[⟨s, 3, wo 4294967295 3, false⟩, pc0 4 oth, ⟨s, 3, wo 4294967295 3, false⟩], 0, false⟩) := rfl
  rw [hp1'] at hp1
  rw [ht'] at ht
  have hx1 : (s.size : Int) - ((n + 1 : Nat) : Int) = ((s.size - (n + 1) : Nat) : Int) := by omega
  have hcutq : ∀ r : Pc, r.hurt = false → r.b = s → r.hit (r.b.extract 0 (s.size - (n + 1))) = { r with b := s.extract 0 (s.size - (n + 1)), hurt := true } := fun r _ hr => by
    unfold Pc.hit
    rw [hr, decide_eq_false (fun h => size_cut s (by omega) h.symm)]
    rfl
  have hcut : ∀ (b : Bs) (i : Int), b.there i = true → (b.get i).hurt = false → (b.get i).b = s → b.cut i ((n + 1 : Nat) : Int) = (0, b.set i.toNat { b.get i with b := s.extract 0 (s.size - (n + 1)), hurt := true }) := fun b i h1 h2 h3 => by
    unfold Bs.cut
    rw [if_pos h1, if_neg (by rw [h2]; decide), if_neg (by rw [h3]; omega), ← hcutq _ h2 h3, h3, hx1, Int.toNat_natCast]
  have w5 : IntKind.i64.wrap ((s.size : Int) - ((n + 1 : Nat) : Int)) = ((s.size - (n + 1) : Nat) : Int) := by rw [w64 (by omega) (by omega), hx1]
  have w6 : s.size - (n + 1) ≤ s.size := by omega
  have hc := c199 ⟨[⟨s, 3, wo 4294967295 3, false⟩, pc0 4 oth, ⟨s, 3, wo 4294967295 3, false⟩], 0, false⟩ 0 ((n + 1 : Nat) : Int) (in3 _ _ (by show s.size ≤ 255; omega) (by show s.size ≤ 255; omega))
  rw [hcut _ _ rfl rfl rfl] at hc
  have he : (⟨[⟨s, 3, wo 4294967295 3, false⟩, pc0 4 oth, ⟨s, 3, wo 4294967295 3, false⟩], 0, false⟩ : Bs).set (0 : Int).toNat { (⟨[⟨s, 3, wo 4294967295 3, false⟩, pc0 4 oth, ⟨s, 3, wo 4294967295 3, false⟩], 0, false⟩ : Bs).get 0 with b := s.extract 0 (s.size - (n + 1)), hurt := true } = ⟨[⟨s.extract 0 (s.size - (n + 1)), 3, wo 4294967295 3, true⟩, pc0 4 oth, ⟨s, 3, wo 4294967295 3, false⟩], 0, false⟩ := rfl
  rw [he] at hc
  have hin := in3 ⟨s.extract 0 (s.size - (n + 1)), 3, wo 4294967295 3, true⟩ ⟨s, 3, wo 4294967295 3, false⟩ (by show (s.extract 0 (s.size - (n + 1))).size ≤ 255; rw [ByteArray.size_extract]; omega) (by show s.size ≤ 255; omega)
  have q0 : (⟨[⟨s.extract 0 (s.size - (n + 1)), 3, wo 4294967295 3, true⟩, pc0 4 oth, ⟨s, 3, wo 4294967295 3, false⟩], 0, false⟩ : Bs).piece 0 = .tup [.agg (⟨s.extract 0 (s.size - (n + 1)), 3, wo 4294967295 3, true⟩ : Pc).c, .v (.bool true)] := rfl
  have q1 : (⟨[⟨s.extract 0 (s.size - (n + 1)), 3, wo 4294967295 3, true⟩, pc0 4 oth, ⟨s, 3, wo 4294967295 3, false⟩], 0, false⟩ : Bs).piece 1 = .tup [.agg (pc0 4 oth).c, .v (.bool true)] := rfl
  have q2 : (⟨[⟨s.extract 0 (s.size - (n + 1)), 3, wo 4294967295 3, true⟩, pc0 4 oth, ⟨s, 3, wo 4294967295 3, false⟩], 0, false⟩ : Bs).piece 2 = .tup [.agg (⟨s, 3, wo 4294967295 3, false⟩ : Pc).c, .v (.bool true)] := rfl
  have r0 := p199 ⟨[⟨s.extract 0 (s.size - (n + 1)), 3, wo 4294967295 3, true⟩, pc0 4 oth, ⟨s, 3, wo 4294967295 3, false⟩], 0, false⟩ 0
  have r1 := p199 ⟨[⟨s.extract 0 (s.size - (n + 1)), 3, wo 4294967295 3, true⟩, pc0 4 oth, ⟨s, 3, wo 4294967295 3, false⟩], 0, false⟩ 1
  have r2 := p199 ⟨[⟨s.extract 0 (s.size - (n + 1)), 3, wo 4294967295 3, true⟩, pc0 4 oth, ⟨s, 3, wo 4294967295 3, false⟩], 0, false⟩ 2
  rw [q0] at r0
  rw [q1] at r1
  rw [q2] at r2
  have r3 := c199 _ 0 1 hin
  have q3 : (⟨[⟨s.extract 0 (s.size - (n + 1)), 3, wo 4294967295 3, true⟩, pc0 4 oth, ⟨s, 3, wo 4294967295 3, false⟩], 0, false⟩ : Bs).cut 0 1 = (11, ⟨[⟨s.extract 0 (s.size - (n + 1)), 3, wo 4294967295 3, true⟩, pc0 4 oth, ⟨s, 3, wo 4294967295 3, false⟩], 0, false⟩) := rfl
  rw [q3] at r3
  have v0 : IntKind.i64.wrap 0 = 0 := rfl
  have v2 : IntKind.i64.wrap 2 = 2 := rfl
  generalize wo 4294967295 3 = w3 at *
  simp only [Bs.ob, ob0, Pc.c, pc0, List.length_cons, List.length_nil, Nat.reduceAdd] at hnew hs1 hs2 hb1 hp1 ht hc r0 r1 r2 r3
  simp (config := { maxSteps := 1000000 }) only [go_skip, go_ret, go_exit, go_seq, go_cond, cd_true, cd_false, cd_bool, go_block, go_loop, nx_nil, nx_c, nx_b, nx_l, rt_nil, rt_c, rt_b, rt_l, xt_c, xt_b, xt_l, go_reg, op_nil, op_cons, op1_true, op1_false, op2_some, go_regq, go_regt, qp_nil, qp_cons, qp1_true, qp1_false, qp2_some, aop_call, aopQ_call, aop_mv, aop_pick, aop_bin, aop_eqb, aop_eqp, aop_eqs, aop_eqst, aop_un, aop_load, aop_fld, aop_fad, aop_nilck, aop_ixs, aop_ixa, aop_ixstr, aop_ixv, aop_ext, aop_cvi, aop_cvs, aop_len, aop_lens, aop_min, aop_max, aop_slstr, aop_sls, aop_build, aop_cvbs, aop_mkf, aop_box, aop_alloc, aop_row, aop_store, aop_mks, aop_app, aop_cpy, aop_cvsb, aop_clr, aopQ_mv, aopQ_pick, aopQ_bin, aopQ_eqb, aopQ_eqp, aopQ_eqs, aopQ_eqst, aopQ_un, aopQ_load, aopQ_fld, aopQ_fad, aopQ_nilck, aopQ_ixs, aopQ_ixa, aopQ_ixstr, aopQ_ixv, aopQ_ext, aopQ_cvi, aopQ_cvs, aopQ_len, aopQ_lens, aopQ_min, aopQ_max, aopQ_slstr, aopQ_sls, aopQ_build, aopQ_cvbs, aopQ_mkf, Sym.wants, Sym.get, Sym.ev, Sym.evs, Sym.evO, Sym.evP, Sym.put, Sym.lev, Sym.aq, Sym.ae, aBin, aInt, isShift, aEqB, aEqP, aEqS, leavesEq, leafEq, aUn, Sym.rd, aLoad, aField, aFad, aNilck, asI, aIxS, aIxA, aIxV, aExt, aPick, aCvi, aCvs, aLen, aLenS, aMin2, aMax2, aFold, aFoldL, bnd, aSlStr, aSlS, fillL, newO, kill, aStore, putL, getO, cellsOf, Sym.elems, Sym.elemsS, aApp, aCpy, aClr, Sym.reps, aCall, aCallQ, finishCall, Sym.refs, Sym.refs1, Sym.refs0, okv, ok1, Sym.atom, flat0, dedup, Sym.reach, Sym.pos, Sym.sub, renO, Sym.ren, Sym.ren1, Sym.ren0, gmap, mergeOld, mergeNew, mergeO, allFresh, Sym.det, Sym.det0, Sym.canon, keepEnv, fn_ret, fn_normal, rs_keep, rs_frz, rz_mk, rk_true, rf_some, reps_v, all_rep, all_rep', all_strF, all_strA, max12, max21, btf, bft, btt, bff, aRes, Sym.one, frzM, frz1, frz0, frzL, args0, dead0, idx_ne, bytesV_length, all_bytesF, all_bytesA, toNums_bytes, bytesV_drop, bytesV_take, putL_bytes, strCells_bytes, natLit, w64, wu8, wu16, wu32, wu64, range1, range2, range3, range4, lp_succ, lh_some, Int.natCast_zero, Int.natCast_one, bne_self_eq_false, go_regs, go_regm, sxA, sxB, sxC, nft, ntf, sxD, sxE, sxF, sxO, qq_nil, qq_cons, qq1_true, qq1_false, qq2_some, List.getElem?_cons_zero, none_beq, emptyS, Option.some_beq_some, Option.getD_some, Option.getD_none, Option.bind_some, Option.map_some, Option.bind_none, Option.map_none, if_true, if_false, ite_true, ite_false, Bool.false_eq_true, reduceIte, reduceCtorEq, Nat.reduceEqDiff, beq_self_eq_true, Bool.and_true, Bool.true_and, Bool.and_false, Bool.false_and, Bool.or_true, Bool.true_or, Bool.or_false, Bool.false_or, Bool.not_true, Bool.not_false, List.getElem?_cons_zero, List.getElem?_cons_succ, List.getElem?_nil, List.length_cons, List.length_nil, List.all_cons, List.all_nil, List.map_cons, List.map_nil, List.flatMap_cons, List.flatMap_nil, List.append_nil, List.nil_append, List.cons_append, List.contains_nil, List.contains_cons, List.take_zero, List.drop_zero, List.take_succ_cons, List.drop_succ_cons, List.set_cons_zero, List.set_cons_succ, List.getD_cons_zero, List.getD_cons_succ, List.idxOf_cons_self, List.range_zero, List.isEmpty_nil, List.isEmpty_cons, decide_true, decide_false, and_self, true_and, and_true, false_and, and_false, Nat.zero_add, Nat.add_zero, Nat.max_self, Nat.zero_max, Nat.max_zero, Nat.le_refl, ne_eq, not_true_eq_false, not_false_eq_true, beq_iff_eq, Nat.reduceAdd, Nat.reduceSub, Nat.reduceMul, Nat.reduceLT, Nat.reduceLeDiff, Nat.reduceBEq, Nat.reduceBNe, Nat.sub_zero, Nat.zero_mul, Nat.mul_zero, Nat.mul_one, Nat.one_mul, List.take_nil, List.drop_nil, Option.isNone_none, Option.isNone_some, Int.natCast_nonneg, Int.toNat_natCast, Nat.zero_le, Nat.lt_irrefl, Nat.reduceGT, Int.reduceEq, Int.reduceLT, Int.reduceLE, Int.reduceToNat, Int.reduceAdd, Int.reduceSub, Int.reduceMul, Int.reduceNeg, Int.reduceBEq, Int.reduceBNe, b_fuglemanlaw09_BusHurts, hw, c1', c2', oe, hnew, hs1, hs2, hb1, hp1, ht, m1, z1, z2, z3, z4, hn, hc, r0, r1, r2, r3, v0, v2, w5, w6]
  done
theorem hurtsA2 (s : ByteArray) (h2 : 2 ≤ s.size) (h40 : s.size ≤ 40) (x y : S32) (hx : S32.In x) (hy : S32.In y) (m1 : y.f0.tmod 2 = 1) (hs : s = Bus.burst s x.f2 x.f3) :
    FnR [.t 6] false false (Go (acall T 199) 199 b_fuglemanlaw09_BusHurts [] ⟨args0 0 [.v (.string s), .agg [.v (.int .u8 x.f0), .v (.int .i64 x.f1), .v (.int .i64 x.f2), .v (.int .u16 x.f3), .v (.string x.f4)], .agg [.v (.int .u8 y.f0), .v (.int .i64 y.f1), .v (.int .i64 y.f2), .v (.int .u16 y.f3), .v (.string y.f4)]], [], 0, List.range 0⟩) = some ⟨.v (.bool true), [], 1⟩ := by
  have hw : acall T 199 7 0 [] [] = some ⟨.v (.bool true), [], 1⟩ := awake_a
  have oe : (⟨#[111, 116, 104, 101, 114]⟩ : ByteArray) = oth := rfl
  have c1' : ¬ (s.size : Int) < 2 := by omega
  have c2' : ¬ (40 : Int) < s.size := by omega
  have hnew := new_a 198
  have hs1 := send_0 195 false 3 s ((okSend_iff 3 s).2 ⟨by decide, by decide, (by rintro rfl; simp at h2), by omega⟩)
  have hs2 : acall T 199 9 1 [.ptr 0 0, .v (.int .i64 4), .v (.string oth)] ((⟨[pc0 3 s], 0, false⟩ : Bs).ob false) = some ⟨.v (.int .i64 0), (⟨[pc0 3 s, pc0 4 oth], 0, false⟩ : Bs).ob false, 2⟩ := send_a 195 ⟨[pc0 3 s], 0, false⟩ 4 oth
  have in2 : ∀ q : Pc, q.b.size ≤ 255 → (⟨[q, pc0 4 oth], 0, false⟩ : Bs).In := fun q hq => ⟨by show 2 ≤ 64; decide, fun p hp => by
    rcases List.mem_cons.1 hp with rfl | hp
    · exact hq
    · rcases List.mem_cons.1 hp with rfl | hp
      · show 5 ≤ 255; decide
      · cases hp⟩
  have hb1 := burst_b 188 ⟨[pc0 3 s, pc0 4 oth], 0, false⟩ (in2 _ (by show s.size ≤ 255; omega)) 0 x.f2 x.f3 hx.f3
  rw [b3_burst, if_neg (by show ¬ false = true; decide)] at hb1
  have hsz := burst_size s x.f2 x.f3
  have hp0 : (pc0 3 s).hit (Bus.burst (pc0 3 s).b x.f2 x.f3) = ⟨Bus.burst s x.f2 x.f3, 3, wo 4294967295 3, !decide (s = Bus.burst s x.f2 x.f3)⟩ := rfl
  rw [hp0] at hb1
  generalize Bus.burst s x.f2 x.f3 = s1 at *
  have z1 : IntKind.i64.wrap y.f3 = y.f3 := w64 (by have := hy.f3; omega) (by have := hy.f3; omega)
  have z2 : IntKind.i64.wrap ((s.size : Int) - 1) = s.size - 1 := w64 (by omega) (by omega)
  have z3 : ¬ (s.size : Int) - 1 = 0 := by omega
  obtain ⟨n, hn⟩ : ∃ n : Nat, y.f3.tmod ((s.size : Int) - 1) = n ∧ n + 1 < s.size := by
    have h1 := Int.emod_nonneg y.f3 z3
    have h2 := Int.emod_lt_of_pos y.f3 (show (0 : Int) < (s.size : Int) - 1 by omega)
    refine ⟨(y.f3 % ((s.size : Int) - 1)).toNat, ?_, by omega⟩
    rw [tmod_nn hy.f3.1]
    omega
  obtain ⟨hn, hn2⟩ := hn
  have z4 : IntKind.i64.wrap (1 + (n : Int)) = ((n + 1 : Nat) : Int) := by rw [w64 (by omega) (by omega)]; omega
  have hoh : (pc0 4 oth).hurt = false := rfl
  have c199 : ∀ (b : Bs) (i n : Int), b.In → acall T 199 16 1 [.ptr 0 0, .v (.int .i64 i), .v (.int .i64 n)] (b.ob false) = some ⟨.v (.int .i64 (b.cut i n).1), (b.cut i n).2.ob false, 2⟩ := fun b i n hb => cut_b 188 b hb i n
  have p199 : ∀ (b : Bs) (i : Int), acall T 199 14 1 [.ptr 0 0, .v (.int .i64 i)] (b.ob false) = some ⟨b.piece i, b.ob false, 1⟩ := fun b i => piece_a 196 b i
  have t199 : ∀ (b : Bs) (i : Int), acall T 199 15 1 [.ptr 0 0, .v (.int .i64 i)] (b.ob false) = some ⟨.v (.int .i64 (b.twice i).1), (b.twice i).2.ob false, 2⟩ := fun b i => twice_b 188 b i
  have b199 : ∀ (b : Bs) (i a pat : Int), b.In → (0 ≤ pat ∧ pat ≤ 65535) → acall T 199 13 1 [.ptr 0 0, .v (.int .i64 i), .v (.int .i64 a), .v (.int .u16 pat)] (b.ob false) = some ⟨.v (.int .i64 (b.burst i a pat).1), (b.burst i a pat).2.ob false, 2⟩ := fun b i a pat hb hp => burst_b 188 b hb i a pat hp
  have in3 : ∀ q r : Pc, q.b.size ≤ 255 → r.b.size ≤ 255 → (⟨[q, pc0 4 oth, r], 0, false⟩ : Bs).In := fun q r hq hr => ⟨by show 3 ≤ 64; decide, fun p hp => by
    rcases List.mem_cons.1 hp with rfl | hp
    · exact hq
    · rcases List.mem_cons.1 hp with rfl | hp
      · show 5 ≤ 255; decide
      · rcases List.mem_cons.1 hp with rfl | hp
        · exact hr
        · cases hp⟩
  subst hs
  have hd : (!decide (s = s)) = false := by simp
  rw [hd] at hb1
  have hp1 := p199 ⟨[⟨s, 3, wo 4294967295 3, false⟩, pc0 4 oth], 0, false⟩ 0
  have hp1' : (⟨[⟨s, 3, wo 4294967295 3, false⟩, pc0 4 oth], 0, false⟩ : Bs).piece 0 = .tup [.agg (⟨s, 3, wo 4294967295 3, false⟩ : Pc).c, .v (.bool true)] := rfl
  have ht := t199 ⟨[⟨s, 3, wo 4294967295 3, false⟩, pc0 4 oth], 0, false⟩ 0
  have ht' : (⟨[⟨s, 3, wo 4294967295 3, false⟩, pc0 4 oth], 0, false⟩ : Bs).twice 0 = (0, ⟨[⟨s, 3, wo 4294967295 3, false⟩, pc0 4 oth, ⟨s, 3, wo 4294967295 3, false⟩], 0, false⟩) := rfl
  rw [hp1'] at hp1
  rw [ht'] at ht
  have hx1 : (s.size : Int) - ((n + 1 : Nat) : Int) = ((s.size - (n + 1) : Nat) : Int) := by omega
  have hcutq : ∀ r : Pc, r.hurt = false → r.b = s → r.hit (r.b.extract 0 (s.size - (n + 1))) = { r with b := s.extract 0 (s.size - (n + 1)), hurt := true } := fun r _ hr => by
    unfold Pc.hit
    rw [hr, decide_eq_false (fun h => size_cut s (by omega) h.symm)]
    rfl
  have hcut : ∀ (b : Bs) (i : Int), b.there i = true → (b.get i).hurt = false → (b.get i).b = s → b.cut i ((n + 1 : Nat) : Int) = (0, b.set i.toNat { b.get i with b := s.extract 0 (s.size - (n + 1)), hurt := true }) := fun b i h1 h2 h3 => by
    unfold Bs.cut
    rw [if_pos h1, if_neg (by rw [h2]; decide), if_neg (by rw [h3]; omega), ← hcutq _ h2 h3, h3, hx1, Int.toNat_natCast]
  have w5 : IntKind.i64.wrap ((s.size : Int) - ((n + 1 : Nat) : Int)) = ((s.size - (n + 1) : Nat) : Int) := by rw [w64 (by omega) (by omega), hx1]
  have w6 : s.size - (n + 1) ≤ s.size := by omega
  have hc := c199 ⟨[⟨s, 3, wo 4294967295 3, false⟩, pc0 4 oth, ⟨s, 3, wo 4294967295 3, false⟩], 0, false⟩ 2 ((n + 1 : Nat) : Int) (in3 _ _ (by show s.size ≤ 255; omega) (by show s.size ≤ 255; omega))
  rw [hcut _ _ rfl rfl rfl] at hc
  have he : (⟨[⟨s, 3, wo 4294967295 3, false⟩, pc0 4 oth, ⟨s, 3, wo 4294967295 3, false⟩], 0, false⟩ : Bs).set (2 : Int).toNat { (⟨[⟨s, 3, wo 4294967295 3, false⟩, pc0 4 oth, ⟨s, 3, wo 4294967295 3, false⟩], 0, false⟩ : Bs).get 2 with b := s.extract 0 (s.size - (n + 1)), hurt := true } = ⟨[⟨s, 3, wo 4294967295 3, false⟩, pc0 4 oth, ⟨s.extract 0 (s.size - (n + 1)), 3, wo 4294967295 3, true⟩], 0, false⟩ := rfl
  rw [he] at hc
  have hin := in3 ⟨s, 3, wo 4294967295 3, false⟩ ⟨s.extract 0 (s.size - (n + 1)), 3, wo 4294967295 3, true⟩ (by show s.size ≤ 255; omega) (by show (s.extract 0 (s.size - (n + 1))).size ≤ 255; rw [ByteArray.size_extract]; omega)
  have q0 : (⟨[⟨s, 3, wo 4294967295 3, false⟩, pc0 4 oth, ⟨s.extract 0 (s.size - (n + 1)), 3, wo 4294967295 3, true⟩], 0, false⟩ : Bs).piece 0 = .tup [.agg (⟨s, 3, wo 4294967295 3, false⟩ : Pc).c, .v (.bool true)] := rfl
  have q1 : (⟨[⟨s, 3, wo 4294967295 3, false⟩, pc0 4 oth, ⟨s.extract 0 (s.size - (n + 1)), 3, wo 4294967295 3, true⟩], 0, false⟩ : Bs).piece 1 = .tup [.agg (pc0 4 oth).c, .v (.bool true)] := rfl
  have q2 : (⟨[⟨s, 3, wo 4294967295 3, false⟩, pc0 4 oth, ⟨s.extract 0 (s.size - (n + 1)), 3, wo 4294967295 3, true⟩], 0, false⟩ : Bs).piece 2 = .tup [.agg (⟨s.extract 0 (s.size - (n + 1)), 3, wo 4294967295 3, true⟩ : Pc).c, .v (.bool true)] := rfl
  have r0 := p199 ⟨[⟨s, 3, wo 4294967295 3, false⟩, pc0 4 oth, ⟨s.extract 0 (s.size - (n + 1)), 3, wo 4294967295 3, true⟩], 0, false⟩ 0
  have r1 := p199 ⟨[⟨s, 3, wo 4294967295 3, false⟩, pc0 4 oth, ⟨s.extract 0 (s.size - (n + 1)), 3, wo 4294967295 3, true⟩], 0, false⟩ 1
  have r2 := p199 ⟨[⟨s, 3, wo 4294967295 3, false⟩, pc0 4 oth, ⟨s.extract 0 (s.size - (n + 1)), 3, wo 4294967295 3, true⟩], 0, false⟩ 2
  rw [q0] at r0
  rw [q1] at r1
  rw [q2] at r2
  have r3 := c199 _ 2 1 hin
  have q3 : (⟨[⟨s, 3, wo 4294967295 3, false⟩, pc0 4 oth, ⟨s.extract 0 (s.size - (n + 1)), 3, wo 4294967295 3, true⟩], 0, false⟩ : Bs).cut 2 1 = (11, ⟨[⟨s, 3, wo 4294967295 3, false⟩, pc0 4 oth, ⟨s.extract 0 (s.size - (n + 1)), 3, wo 4294967295 3, true⟩], 0, false⟩) := rfl
  rw [q3] at r3
  have v0 : IntKind.i64.wrap 0 = 0 := rfl
  have v2 : IntKind.i64.wrap 2 = 2 := rfl
  generalize wo 4294967295 3 = w3 at *
  simp only [Bs.ob, ob0, Pc.c, pc0, List.length_cons, List.length_nil, Nat.reduceAdd] at hnew hs1 hs2 hb1 hp1 ht hc r0 r1 r2 r3
  simp (config := { maxSteps := 1000000 }) only [go_skip, go_ret, go_exit, go_seq, go_cond, cd_true, cd_false, cd_bool, go_block, go_loop, nx_nil, nx_c, nx_b, nx_l, rt_nil, rt_c, rt_b, rt_l, xt_c, xt_b, xt_l, go_reg, op_nil, op_cons, op1_true, op1_false, op2_some, go_regq, go_regt, qp_nil, qp_cons, qp1_true, qp1_false, qp2_some, aop_call, aopQ_call, aop_mv, aop_pick, aop_bin, aop_eqb, aop_eqp, aop_eqs, aop_eqst, aop_un, aop_load, aop_fld, aop_fad, aop_nilck, aop_ixs, aop_ixa, aop_ixstr, aop_ixv, aop_ext, aop_cvi, aop_cvs, aop_len, aop_lens, aop_min, aop_max, aop_slstr, aop_sls, aop_build, aop_cvbs, aop_mkf, aop_box, aop_alloc, aop_row, aop_store, aop_mks, aop_app, aop_cpy, aop_cvsb, aop_clr, aopQ_mv, aopQ_pick, aopQ_bin, aopQ_eqb, aopQ_eqp, aopQ_eqs, aopQ_eqst, aopQ_un, aopQ_load, aopQ_fld, aopQ_fad, aopQ_nilck, aopQ_ixs, aopQ_ixa, aopQ_ixstr, aopQ_ixv, aopQ_ext, aopQ_cvi, aopQ_cvs, aopQ_len, aopQ_lens, aopQ_min, aopQ_max, aopQ_slstr, aopQ_sls, aopQ_build, aopQ_cvbs, aopQ_mkf, Sym.wants, Sym.get, Sym.ev, Sym.evs, Sym.evO, Sym.evP, Sym.put, Sym.lev, Sym.aq, Sym.ae, aBin, aInt, isShift, aEqB, aEqP, aEqS, leavesEq, leafEq, aUn, Sym.rd, aLoad, aField, aFad, aNilck, asI, aIxS, aIxA, aIxV, aExt, aPick, aCvi, aCvs, aLen, aLenS, aMin2, aMax2, aFold, aFoldL, bnd, aSlStr, aSlS, fillL, newO, kill, aStore, putL, getO, cellsOf, Sym.elems, Sym.elemsS, aApp, aCpy, aClr, Sym.reps, aCall, aCallQ, finishCall, Sym.refs, Sym.refs1, Sym.refs0, okv, ok1, Sym.atom, flat0, dedup, Sym.reach, Sym.pos, Sym.sub, renO, Sym.ren, Sym.ren1, Sym.ren0, gmap, mergeOld, mergeNew, mergeO, allFresh, Sym.det, Sym.det0, Sym.canon, keepEnv, fn_ret, fn_normal, rs_keep, rs_frz, rz_mk, rk_true, rf_some, reps_v, all_rep, all_rep', all_strF, all_strA, max12, max21, btf, bft, btt, bff, aRes, Sym.one, frzM, frz1, frz0, frzL, args0, dead0, idx_ne, bytesV_length, all_bytesF, all_bytesA, toNums_bytes, bytesV_drop, bytesV_take, putL_bytes, strCells_bytes, natLit, w64, wu8, wu16, wu32, wu64, range1, range2, range3, range4, lp_succ, lh_some, Int.natCast_zero, Int.natCast_one, bne_self_eq_false, go_regs, go_regm, sxA, sxB, sxC, nft, ntf, sxD, sxE, sxF, sxO, qq_nil, qq_cons, qq1_true, qq1_false, qq2_some, List.getElem?_cons_zero, none_beq, emptyS, Option.some_beq_some, Option.getD_some, Option.getD_none, Option.bind_some, Option.map_some, Option.bind_none, Option.map_none, if_true, if_false, ite_true, ite_false, Bool.false_eq_true, reduceIte, reduceCtorEq, Nat.reduceEqDiff, beq_self_eq_true, Bool.and_true, Bool.true_and, Bool.and_false, Bool.false_and, Bool.or_true, Bool.true_or, Bool.or_false, Bool.false_or, Bool.not_true, Bool.not_false, List.getElem?_cons_zero, List.getElem?_cons_succ, List.getElem?_nil, List.length_cons, List.length_nil, List.all_cons, List.all_nil, List.map_cons, List.map_nil, List.flatMap_cons, List.flatMap_nil, List.append_nil, List.nil_append, List.cons_append, List.contains_nil, List.contains_cons, List.take_zero, List.drop_zero, List.take_succ_cons, List.drop_succ_cons, List.set_cons_zero, List.set_cons_succ, List.getD_cons_zero, List.getD_cons_succ, List.idxOf_cons_self, List.range_zero, List.isEmpty_nil, List.isEmpty_cons, decide_true, decide_false, and_self, true_and, and_true, false_and, and_false, Nat.zero_add, Nat.add_zero, Nat.max_self, Nat.zero_max, Nat.max_zero, Nat.le_refl, ne_eq, not_true_eq_false, not_false_eq_true, beq_iff_eq, Nat.reduceAdd, Nat.reduceSub, Nat.reduceMul, Nat.reduceLT, Nat.reduceLeDiff, Nat.reduceBEq, Nat.reduceBNe, Nat.sub_zero, Nat.zero_mul, Nat.mul_zero, Nat.mul_one, Nat.one_mul, List.take_nil, List.drop_nil, Option.isNone_none, Option.isNone_some, Int.natCast_nonneg, Int.toNat_natCast, Nat.zero_le, Nat.lt_irrefl, Nat.reduceGT, Int.reduceEq, Int.reduceLT, Int.reduceLE, Int.reduceToNat, Int.reduceAdd, Int.reduceSub, Int.reduceMul, Int.reduceNeg, Int.reduceBEq, Int.reduceBNe, b_fuglemanlaw09_BusHurts, hw, c1', c2', oe, hnew, hs1, hs2, hb1, hp1, ht, m1, z1, z2, z3, z4, hn, hc, r0, r1, r2, r3, v0, v2, w5, w6]
  done
theorem hurtsB0 (s : ByteArray) (h2 : 2 ≤ s.size) (h40 : s.size ≤ 40) (x y : S32) (hx : S32.In x) (hy : S32.In y) (m1 : y.f0.tmod 2 = 0) (hs : ¬ s = Bus.burst s x.f2 x.f3) :
    FnR [.t 6] false false (Go (acall T 199) 199 b_fuglemanlaw09_BusHurts [] ⟨args0 0 [.v (.string s), .agg [.v (.int .u8 x.f0), .v (.int .i64 x.f1), .v (.int .i64 x.f2), .v (.int .u16 x.f3), .v (.string x.f4)], .agg [.v (.int .u8 y.f0), .v (.int .i64 y.f1), .v (.int .i64 y.f2), .v (.int .u16 y.f3), .v (.string y.f4)]], [], 0, List.range 0⟩) = some ⟨.v (.bool true), [], 1⟩ := by
  have hw : acall T 199 7 0 [] [] = some ⟨.v (.bool true), [], 1⟩ := awake_a
  have oe : (⟨#[111, 116, 104, 101, 114]⟩ : ByteArray) = oth := rfl
  have c1' : ¬ (s.size : Int) < 2 := by omega
  have c2' : ¬ (40 : Int) < s.size := by omega
  have hnew := new_a 198
  have hs1 := send_0 195 false 3 s ((okSend_iff 3 s).2 ⟨by decide, by decide, (by rintro rfl; simp at h2), by omega⟩)
  have hs2 : acall T 199 9 1 [.ptr 0 0, .v (.int .i64 4), .v (.string oth)] ((⟨[pc0 3 s], 0, false⟩ : Bs).ob false) = some ⟨.v (.int .i64 0), (⟨[pc0 3 s, pc0 4 oth], 0, false⟩ : Bs).ob false, 2⟩ := send_a 195 ⟨[pc0 3 s], 0, false⟩ 4 oth
  have in2 : ∀ q : Pc, q.b.size ≤ 255 → (⟨[q, pc0 4 oth], 0, false⟩ : Bs).In := fun q hq => ⟨by show 2 ≤ 64; decide, fun p hp => by
    rcases List.mem_cons.1 hp with rfl | hp
    · exact hq
    · rcases List.mem_cons.1 hp with rfl | hp
      · show 5 ≤ 255; decide
      · cases hp⟩
  have hb1 := burst_b 188 ⟨[pc0 3 s, pc0 4 oth], 0, false⟩ (in2 _ (by show s.size ≤ 255; omega)) 0 x.f2 x.f3 hx.f3
  rw [b3_burst, if_neg (by show ¬ false = true; decide)] at hb1
  have hsz := burst_size s x.f2 x.f3
  have hp0 : (pc0 3 s).hit (Bus.burst (pc0 3 s).b x.f2 x.f3) = ⟨Bus.burst s x.f2 x.f3, 3, wo 4294967295 3, !decide (s = Bus.burst s x.f2 x.f3)⟩ := rfl
  rw [hp0] at hb1
  generalize Bus.burst s x.f2 x.f3 = s1 at *
  have z1 : IntKind.i64.wrap y.f3 = y.f3 := w64 (by have := hy.f3; omega) (by have := hy.f3; omega)
  have z2 : IntKind.i64.wrap ((s.size : Int) - 1) = s.size - 1 := w64 (by omega) (by omega)
  have z3 : ¬ (s.size : Int) - 1 = 0 := by omega
  obtain ⟨n, hn⟩ : ∃ n : Nat, y.f3.tmod ((s.size : Int) - 1) = n ∧ n + 1 < s.size := by
    have h1 := Int.emod_nonneg y.f3 z3
    have h2 := Int.emod_lt_of_pos y.f3 (show (0 : Int) < (s.size : Int) - 1 by omega)
    refine ⟨(y.f3 % ((s.size : Int) - 1)).toNat, ?_, by omega⟩
    rw [tmod_nn hy.f3.1]
    omega
  obtain ⟨hn, hn2⟩ := hn
  have z4 : IntKind.i64.wrap (1 + (n : Int)) = ((n + 1 : Nat) : Int) := by rw [w64 (by omega) (by omega)]; omega
  have hoh : (pc0 4 oth).hurt = false := rfl
  have c199 : ∀ (b : Bs) (i n : Int), b.In → acall T 199 16 1 [.ptr 0 0, .v (.int .i64 i), .v (.int .i64 n)] (b.ob false) = some ⟨.v (.int .i64 (b.cut i n).1), (b.cut i n).2.ob false, 2⟩ := fun b i n hb => cut_b 188 b hb i n
  have p199 : ∀ (b : Bs) (i : Int), acall T 199 14 1 [.ptr 0 0, .v (.int .i64 i)] (b.ob false) = some ⟨b.piece i, b.ob false, 1⟩ := fun b i => piece_a 196 b i
  have t199 : ∀ (b : Bs) (i : Int), acall T 199 15 1 [.ptr 0 0, .v (.int .i64 i)] (b.ob false) = some ⟨.v (.int .i64 (b.twice i).1), (b.twice i).2.ob false, 2⟩ := fun b i => twice_b 188 b i
  have b199 : ∀ (b : Bs) (i a pat : Int), b.In → (0 ≤ pat ∧ pat ≤ 65535) → acall T 199 13 1 [.ptr 0 0, .v (.int .i64 i), .v (.int .i64 a), .v (.int .u16 pat)] (b.ob false) = some ⟨.v (.int .i64 (b.burst i a pat).1), (b.burst i a pat).2.ob false, 2⟩ := fun b i a pat hb hp => burst_b 188 b hb i a pat hp
  have in3 : ∀ q r : Pc, q.b.size ≤ 255 → r.b.size ≤ 255 → (⟨[q, pc0 4 oth, r], 0, false⟩ : Bs).In := fun q r hq hr => ⟨by show 3 ≤ 64; decide, fun p hp => by
    rcases List.mem_cons.1 hp with rfl | hp
    · exact hq
    · rcases List.mem_cons.1 hp with rfl | hp
      · show 5 ≤ 255; decide
      · rcases List.mem_cons.1 hp with rfl | hp
        · exact hr
        · cases hp⟩
  have hd : (!decide (s = s1)) = true := by simp [hs]
  have hs' : ¬ s1 = s := fun h => hs h.symm
  rw [hd] at hb1
  have hp1 := p199 ⟨[⟨s1, 3, wo 4294967295 3, true⟩, pc0 4 oth], 0, false⟩ 0
  have hp1' : (⟨[⟨s1, 3, wo 4294967295 3, true⟩, pc0 4 oth], 0, false⟩ : Bs).piece 0 = .tup [.agg (⟨s1, 3, wo 4294967295 3, true⟩ : Pc).c, .v (.bool true)] := rfl
  have ht := t199 ⟨[⟨s1, 3, wo 4294967295 3, true⟩, pc0 4 oth], 0, false⟩ 0
  have ht' : (⟨[⟨s1, 3, wo 4294967295 3, true⟩, pc0 4 oth], 0, false⟩ : Bs).twice 0 = (0, ⟨[⟨s1, 3, wo 4294967295 3, true⟩, pc0 4 oth, ⟨s1, 3, wo 4294967295 3, true⟩], 0, false⟩) := rfl
  rw [hp1'] at hp1
  rw [ht'] at ht
  have hin := in3 ⟨s1, 3, wo 4294967295 3, true⟩ ⟨s1, 3, wo 4294967295 3, true⟩ (by show s1.size ≤ 255; omega) (by show s1.size ≤ 255; omega)
  have q0 : (⟨[⟨s1, 3, wo 4294967295 3, true⟩, pc0 4 oth, ⟨s1, 3, wo 4294967295 3, true⟩], 0, false⟩ : Bs).piece 0 = .tup [.agg (⟨s1, 3, wo 4294967295 3, true⟩ : Pc).c, .v (.bool true)] := rfl
  have q1 : (⟨[⟨s1, 3, wo 4294967295 3, true⟩, pc0 4 oth, ⟨s1, 3, wo 4294967295 3, true⟩], 0, false⟩ : Bs).piece 1 = .tup [.agg (pc0 4 oth).c, .v (.bool true)] := rfl
  have q2 : (⟨[⟨s1, 3, wo 4294967295 3, true⟩, pc0 4 oth, ⟨s1, 3, wo 4294967295 3, true⟩], 0, false⟩ : Bs).piece 2 = .tup [.agg (⟨s1, 3, wo 4294967295 3, true⟩ : Pc).c, .v (.bool true)] := rfl
  have r0 := p199 ⟨[⟨s1, 3, wo 4294967295 3, true⟩, pc0 4 oth, ⟨s1, 3, wo 4294967295 3, true⟩], 0, false⟩ 0
  have r1 := p199 ⟨[⟨s1, 3, wo 4294967295 3, true⟩, pc0 4 oth, ⟨s1, 3, wo 4294967295 3, true⟩], 0, false⟩ 1
  have r2 := p199 ⟨[⟨s1, 3, wo 4294967295 3, true⟩, pc0 4 oth, ⟨s1, 3, wo 4294967295 3, true⟩], 0, false⟩ 2
  rw [q0] at r0
  rw [q1] at r1
  rw [q2] at r2
  have v0 : IntKind.i64.wrap 0 = 0 := rfl
  have v2 : IntKind.i64.wrap 2 = 2 := rfl
  have hc := c199 _ 0 ((n + 1 : Nat) : Int) hin
  have q4 : (⟨[⟨s1, 3, wo 4294967295 3, true⟩, pc0 4 oth, ⟨s1, 3, wo 4294967295 3, true⟩], 0, false⟩ : Bs).cut 0 ((n + 1 : Nat) : Int) = (11, ⟨[⟨s1, 3, wo 4294967295 3, true⟩, pc0 4 oth, ⟨s1, 3, wo 4294967295 3, true⟩], 0, false⟩) := rfl
  rw [q4] at hc
  have r3 := b199 _ 0 0 65535 hin ⟨by decide, by decide⟩
  have q3 : (⟨[⟨s1, 3, wo 4294967295 3, true⟩, pc0 4 oth, ⟨s1, 3, wo 4294967295 3, true⟩], 0, false⟩ : Bs).burst 0 0 65535 = (11, ⟨[⟨s1, 3, wo 4294967295 3, true⟩, pc0 4 oth, ⟨s1, 3, wo 4294967295 3, true⟩], 0, false⟩) := rfl
  rw [q3] at r3
  generalize wo 4294967295 3 = w3 at *
  simp only [Bs.ob, ob0, Pc.c, pc0, List.length_cons, List.length_nil, Nat.reduceAdd] at hnew hs1 hs2 hb1 hp1 ht hc r0 r1 r2 r3
  simp (config := { maxSteps := 1000000 }) only [go_skip, go_ret, go_exit, go_seq, go_cond, cd_true, cd_false, cd_bool, go_block, go_loop, nx_nil, nx_c, nx_b, nx_l, rt_nil, rt_c, rt_b, rt_l, xt_c, xt_b, xt_l, go_reg, op_nil, op_cons, op1_true, op1_false, op2_some, go_regq, go_regt, qp_nil, qp_cons, qp1_true, qp1_false, qp2_some, aop_call, aopQ_call, aop_mv, aop_pick, aop_bin, aop_eqb, aop_eqp, aop_eqs, aop_eqst, aop_un, aop_load, aop_fld, aop_fad, aop_nilck, aop_ixs, aop_ixa, aop_ixstr, aop_ixv, aop_ext, aop_cvi, aop_cvs, aop_len, aop_lens, aop_min, aop_max, aop_slstr, aop_sls, aop_build, aop_cvbs, aop_mkf, aop_box, aop_alloc, aop_row, aop_store, aop_mks, aop_app, aop_cpy, aop_cvsb, aop_clr, aopQ_mv, aopQ_pick, aopQ_bin, aopQ_eqb, aopQ_eqp, aopQ_eqs, aopQ_eqst, aopQ_un, aopQ_load, aopQ_fld, aopQ_fad, aopQ_nilck, aopQ_ixs, aopQ_ixa, aopQ_ixstr, aopQ_ixv, aopQ_ext, aopQ_cvi, aopQ_cvs, aopQ_len, aopQ_lens, aopQ_min, aopQ_max, aopQ_slstr, aopQ_sls, aopQ_build, aopQ_cvbs, aopQ_mkf, Sym.wants, Sym.get, Sym.ev, Sym.evs, Sym.evO, Sym.evP, Sym.put, Sym.lev, Sym.aq, Sym.ae, aBin, aInt, isShift, aEqB, aEqP, aEqS, leavesEq, leafEq, aUn, Sym.rd, aLoad, aField, aFad, aNilck, asI, aIxS, aIxA, aIxV, aExt, aPick, aCvi, aCvs, aLen, aLenS, aMin2, aMax2, aFold, aFoldL, bnd, aSlStr, aSlS, fillL, newO, kill, aStore, putL, getO, cellsOf, Sym.elems, Sym.elemsS, aApp, aCpy, aClr, Sym.reps, aCall, aCallQ, finishCall, Sym.refs, Sym.refs1, Sym.refs0, okv, ok1, Sym.atom, flat0, dedup, Sym.reach, Sym.pos, Sym.sub, renO, Sym.ren, Sym.ren1, Sym.ren0, gmap, mergeOld, mergeNew, mergeO, allFresh, Sym.det, Sym.det0, Sym.canon, keepEnv, fn_ret, fn_normal, rs_keep, rs_frz, rz_mk, rk_true, rf_some, reps_v, all_rep, all_rep', all_strF, all_strA, max12, max21, btf, bft, btt, bff, aRes, Sym.one, frzM, frz1, frz0, frzL, args0, dead0, idx_ne, bytesV_length, all_bytesF, all_bytesA, toNums_bytes, bytesV_drop, bytesV_take, putL_bytes, strCells_bytes, natLit, w64, wu8, wu16, wu32, wu64, range1, range2, range3, range4, lp_succ, lh_some, Int.natCast_zero, Int.natCast_one, bne_self_eq_false, go_regs, go_regm, sxA, sxB, sxC, nft, ntf, sxD, sxE, sxF, sxO, qq_nil, qq_cons, qq1_true, qq1_false, qq2_some, List.getElem?_cons_zero, none_beq, emptyS, Option.some_beq_some, Option.getD_some, Option.getD_none, Option.bind_some, Option.map_some, Option.bind_none, Option.map_none, if_true, if_false, ite_true, ite_false, Bool.false_eq_true, reduceIte, reduceCtorEq, Nat.reduceEqDiff, beq_self_eq_true, Bool.and_true, Bool.true_and, Bool.and_false, Bool.false_and, Bool.or_true, Bool.true_or, Bool.or_false, Bool.false_or, Bool.not_true, Bool.not_false, List.getElem?_cons_zero, List.getElem?_cons_succ, List.getElem?_nil, List.length_cons, List.length_nil, List.all_cons, List.all_nil, List.map_cons, List.map_nil, List.flatMap_cons, List.flatMap_nil, List.append_nil, List.nil_append, List.cons_append, List.contains_nil, List.contains_cons, List.take_zero, List.drop_zero, List.take_succ_cons, List.drop_succ_cons, List.set_cons_zero, List.set_cons_succ, List.getD_cons_zero, List.getD_cons_succ, List.idxOf_cons_self, List.range_zero, List.isEmpty_nil, List.isEmpty_cons, decide_true, decide_false, and_self, true_and, and_true, false_and, and_false, Nat.zero_add, Nat.add_zero, Nat.max_self, Nat.zero_max, Nat.max_zero, Nat.le_refl, ne_eq, not_true_eq_false, not_false_eq_true, beq_iff_eq, Nat.reduceAdd, Nat.reduceSub, Nat.reduceMul, Nat.reduceLT, Nat.reduceLeDiff, Nat.reduceBEq, Nat.reduceBNe, Nat.sub_zero, Nat.zero_mul, Nat.mul_zero, Nat.mul_one, Nat.one_mul, List.take_nil, List.drop_nil, Option.isNone_none, Option.isNone_some, Int.natCast_nonneg, Int.toNat_natCast, Nat.zero_le, Nat.lt_irrefl, Nat.reduceGT, Int.reduceEq, Int.reduceLT, Int.reduceLE, Int.reduceToNat, Int.reduceAdd, Int.reduceSub, Int.reduceMul, Int.reduceNeg, Int.reduceBEq, Int.reduceBNe, b_fuglemanlaw09_BusHurts, hw, c1', c2', oe, hnew, hs1, hs2, hb1, hp1, ht, m1, z1, z2, z3, z4, hn, hc, r0, r1, r2, r3, v0, v2, hs']
  done
theorem hurtsB2 (s : ByteArray) (h2 : 2 ≤ s.size) (h40 : s.size ≤ 40) (x y : S32) (hx : S32.In x) (hy : S32.In y) (m1 : y.f0.tmod 2 = 1) (hs : ¬ s = Bus.burst s x.f2 x.f3) :
    FnR [.t 6] false false (Go (acall T 199) 199 b_fuglemanlaw09_BusHurts [] ⟨args0 0 [.v (.string s), .agg [.v (.int .u8 x.f0), .v (.int .i64 x.f1), .v (.int .i64 x.f2), .v (.int .u16 x.f3), .v (.string x.f4)], .agg [.v (.int .u8 y.f0), .v (.int .i64 y.f1), .v (.int .i64 y.f2), .v (.int .u16 y.f3), .v (.string y.f4)]], [], 0, List.range 0⟩) = some ⟨.v (.bool true), [], 1⟩ := by
  have hw : acall T 199 7 0 [] [] = some ⟨.v (.bool true), [], 1⟩ := awake_a
  have oe : (⟨#[111, 116, 104, 101, 114]⟩ : ByteArray) = oth := rfl
  have c1' : ¬ (s.size : Int) < 2 := by omega
  have c2' : ¬ (40 : Int) < s.size := by omega
  have hnew := new_a 198
  have hs1 := send_0 195 false 3 s ((okSend_iff 3 s).2 ⟨by decide, by decide, (by rintro rfl; simp at h2), by omega⟩)
  have hs2 : acall T 199 9 1 [.ptr 0 0, .v (.int .i64 4), .v (.string oth)] ((⟨[pc0 3 s], 0, false⟩ : Bs).ob false) = some ⟨.v (.int .i64 0), (⟨[pc0 3 s, pc0 4 oth], 0, false⟩ : Bs).ob false, 2⟩ := send_a 195 ⟨[pc0 3 s], 0, false⟩ 4 oth
  have in2 : ∀ q : Pc, q.b.size ≤ 255 → (⟨[q, pc0 4 oth], 0, false⟩ : Bs).In := fun q hq => ⟨by show 2 ≤ 64; decide, fun p hp => by
    rcases List.mem_cons.1 hp with rfl | hp
    · exact hq
    · rcases List.mem_cons.1 hp with rfl | hp
      · show 5 ≤ 255; decide
      · cases hp⟩
  have hb1 := burst_b 188 ⟨[pc0 3 s, pc0 4 oth], 0, false⟩ (in2 _ (by show s.size ≤ 255; omega)) 0 x.f2 x.f3 hx.f3
  rw [b3_burst, if_neg (by show ¬ false = true; decide)] at hb1
  have hsz := burst_size s x.f2 x.f3
  have hp0 : (pc0 3 s).hit (Bus.burst (pc0 3 s).b x.f2 x.f3) = ⟨Bus.burst s x.f2 x.f3, 3, wo 4294967295 3, !decide (s = Bus.burst s x.f2 x.f3)⟩ := rfl
  rw [hp0] at hb1
  generalize Bus.burst s x.f2 x.f3 = s1 at *
  have z1 : IntKind.i64.wrap y.f3 = y.f3 := w64 (by have := hy.f3; omega) (by have := hy.f3; omega)
  have z2 : IntKind.i64.wrap ((s.size : Int) - 1) = s.size - 1 := w64 (by omega) (by omega)
  have z3 : ¬ (s.size : Int) - 1 = 0 := by omega
  obtain ⟨n, hn⟩ : ∃ n : Nat, y.f3.tmod ((s.size : Int) - 1) = n ∧ n + 1 < s.size := by
    have h1 := Int.emod_nonneg y.f3 z3
    have h2 := Int.emod_lt_of_pos y.f3 (show (0 : Int) < (s.size : Int) - 1 by omega)
    refine ⟨(y.f3 % ((s.size : Int) - 1)).toNat, ?_, by omega⟩
    rw [tmod_nn hy.f3.1]
    omega
  obtain ⟨hn, hn2⟩ := hn
  have z4 : IntKind.i64.wrap (1 + (n : Int)) = ((n + 1 : Nat) : Int) := by rw [w64 (by omega) (by omega)]; omega
  have hoh : (pc0 4 oth).hurt = false := rfl
  have c199 : ∀ (b : Bs) (i n : Int), b.In → acall T 199 16 1 [.ptr 0 0, .v (.int .i64 i), .v (.int .i64 n)] (b.ob false) = some ⟨.v (.int .i64 (b.cut i n).1), (b.cut i n).2.ob false, 2⟩ := fun b i n hb => cut_b 188 b hb i n
  have p199 : ∀ (b : Bs) (i : Int), acall T 199 14 1 [.ptr 0 0, .v (.int .i64 i)] (b.ob false) = some ⟨b.piece i, b.ob false, 1⟩ := fun b i => piece_a 196 b i
  have t199 : ∀ (b : Bs) (i : Int), acall T 199 15 1 [.ptr 0 0, .v (.int .i64 i)] (b.ob false) = some ⟨.v (.int .i64 (b.twice i).1), (b.twice i).2.ob false, 2⟩ := fun b i => twice_b 188 b i
  have b199 : ∀ (b : Bs) (i a pat : Int), b.In → (0 ≤ pat ∧ pat ≤ 65535) → acall T 199 13 1 [.ptr 0 0, .v (.int .i64 i), .v (.int .i64 a), .v (.int .u16 pat)] (b.ob false) = some ⟨.v (.int .i64 (b.burst i a pat).1), (b.burst i a pat).2.ob false, 2⟩ := fun b i a pat hb hp => burst_b 188 b hb i a pat hp
  have in3 : ∀ q r : Pc, q.b.size ≤ 255 → r.b.size ≤ 255 → (⟨[q, pc0 4 oth, r], 0, false⟩ : Bs).In := fun q r hq hr => ⟨by show 3 ≤ 64; decide, fun p hp => by
    rcases List.mem_cons.1 hp with rfl | hp
    · exact hq
    · rcases List.mem_cons.1 hp with rfl | hp
      · show 5 ≤ 255; decide
      · rcases List.mem_cons.1 hp with rfl | hp
        · exact hr
        · cases hp⟩
  have hd : (!decide (s = s1)) = true := by simp [hs]
  have hs' : ¬ s1 = s := fun h => hs h.symm
  rw [hd] at hb1
  have hp1 := p199 ⟨[⟨s1, 3, wo 4294967295 3, true⟩, pc0 4 oth], 0, false⟩ 0
  have hp1' : (⟨[⟨s1, 3, wo 4294967295 3, true⟩, pc0 4 oth], 0, false⟩ : Bs).piece 0 = .tup [.agg (⟨s1, 3, wo 4294967295 3, true⟩ : Pc).c, .v (.bool true)] := rfl
  have ht := t199 ⟨[⟨s1, 3, wo 4294967295 3, true⟩, pc0 4 oth], 0, false⟩ 0
  have ht' : (⟨[⟨s1, 3, wo 4294967295 3, true⟩, pc0 4 oth], 0, false⟩ : Bs).twice 0 = (0, ⟨[⟨s1, 3, wo 4294967295 3, true⟩, pc0 4 oth, ⟨s1, 3, wo 4294967295 3, true⟩], 0, false⟩) := rfl
  rw [hp1'] at hp1
  rw [ht'] at ht
  have hin := in3 ⟨s1, 3, wo 4294967295 3, true⟩ ⟨s1, 3, wo 4294967295 3, true⟩ (by show s1.size ≤ 255; omega) (by show s1.size ≤ 255; omega)
  have q0 : (⟨[⟨s1, 3, wo 4294967295 3, true⟩, pc0 4 oth, ⟨s1, 3, wo 4294967295 3, true⟩], 0, false⟩ : Bs).piece 0 = .tup [.agg (⟨s1, 3, wo 4294967295 3, true⟩ : Pc).c, .v (.bool true)] := rfl
  have q1 : (⟨[⟨s1, 3, wo 4294967295 3, true⟩, pc0 4 oth, ⟨s1, 3, wo 4294967295 3, true⟩], 0, false⟩ : Bs).piece 1 = .tup [.agg (pc0 4 oth).c, .v (.bool true)] := rfl
  have q2 : (⟨[⟨s1, 3, wo 4294967295 3, true⟩, pc0 4 oth, ⟨s1, 3, wo 4294967295 3, true⟩], 0, false⟩ : Bs).piece 2 = .tup [.agg (⟨s1, 3, wo 4294967295 3, true⟩ : Pc).c, .v (.bool true)] := rfl
  have r0 := p199 ⟨[⟨s1, 3, wo 4294967295 3, true⟩, pc0 4 oth, ⟨s1, 3, wo 4294967295 3, true⟩], 0, false⟩ 0
  have r1 := p199 ⟨[⟨s1, 3, wo 4294967295 3, true⟩, pc0 4 oth, ⟨s1, 3, wo 4294967295 3, true⟩], 0, false⟩ 1
  have r2 := p199 ⟨[⟨s1, 3, wo 4294967295 3, true⟩, pc0 4 oth, ⟨s1, 3, wo 4294967295 3, true⟩], 0, false⟩ 2
  rw [q0] at r0
  rw [q1] at r1
  rw [q2] at r2
  have v0 : IntKind.i64.wrap 0 = 0 := rfl
  have v2 : IntKind.i64.wrap 2 = 2 := rfl
  have hc := c199 _ 2 ((n + 1 : Nat) : Int) hin
  have q4 : (⟨[⟨s1, 3, wo 4294967295 3, true⟩, pc0 4 oth, ⟨s1, 3, wo 4294967295 3, true⟩], 0, false⟩ : Bs).cut 2 ((n + 1 : Nat) : Int) = (11, ⟨[⟨s1, 3, wo 4294967295 3, true⟩, pc0 4 oth, ⟨s1, 3, wo 4294967295 3, true⟩], 0, false⟩) := rfl
  rw [q4] at hc
  have r3 := b199 _ 2 0 65535 hin ⟨by decide, by decide⟩
  have q3 : (⟨[⟨s1, 3, wo 4294967295 3, true⟩, pc0 4 oth, ⟨s1, 3, wo 4294967295 3, true⟩], 0, false⟩ : Bs).burst 2 0 65535 = (11, ⟨[⟨s1, 3, wo 4294967295 3, true⟩, pc0 4 oth, ⟨s1, 3, wo 4294967295 3, true⟩], 0, false⟩) := rfl
  rw [q3] at r3
  generalize wo 4294967295 3 = w3 at *
  simp only [Bs.ob, ob0, Pc.c, pc0, List.length_cons, List.length_nil, Nat.reduceAdd] at hnew hs1 hs2 hb1 hp1 ht hc r0 r1 r2 r3
  simp (config := { maxSteps := 1000000 }) only [go_skip, go_ret, go_exit, go_seq, go_cond, cd_true, cd_false, cd_bool, go_block, go_loop, nx_nil, nx_c, nx_b, nx_l, rt_nil, rt_c, rt_b, rt_l, xt_c, xt_b, xt_l, go_reg, op_nil, op_cons, op1_true, op1_false, op2_some, go_regq, go_regt, qp_nil, qp_cons, qp1_true, qp1_false, qp2_some, aop_call, aopQ_call, aop_mv, aop_pick, aop_bin, aop_eqb, aop_eqp, aop_eqs, aop_eqst, aop_un, aop_load, aop_fld, aop_fad, aop_nilck, aop_ixs, aop_ixa, aop_ixstr, aop_ixv, aop_ext, aop_cvi, aop_cvs, aop_len, aop_lens, aop_min, aop_max, aop_slstr, aop_sls, aop_build, aop_cvbs, aop_mkf, aop_box, aop_alloc, aop_row, aop_store, aop_mks, aop_app, aop_cpy, aop_cvsb, aop_clr, aopQ_mv, aopQ_pick, aopQ_bin, aopQ_eqb, aopQ_eqp, aopQ_eqs, aopQ_eqst, aopQ_un, aopQ_load, aopQ_fld, aopQ_fad, aopQ_nilck, aopQ_ixs, aopQ_ixa, aopQ_ixstr, aopQ_ixv, aopQ_ext, aopQ_cvi, aopQ_cvs, aopQ_len, aopQ_lens, aopQ_min, aopQ_max, aopQ_slstr, aopQ_sls, aopQ_build, aopQ_cvbs, aopQ_mkf, Sym.wants, Sym.get, Sym.ev, Sym.evs, Sym.evO, Sym.evP, Sym.put, Sym.lev, Sym.aq, Sym.ae, aBin, aInt, isShift, aEqB, aEqP, aEqS, leavesEq, leafEq, aUn, Sym.rd, aLoad, aField, aFad, aNilck, asI, aIxS, aIxA, aIxV, aExt, aPick, aCvi, aCvs, aLen, aLenS, aMin2, aMax2, aFold, aFoldL, bnd, aSlStr, aSlS, fillL, newO, kill, aStore, putL, getO, cellsOf, Sym.elems, Sym.elemsS, aApp, aCpy, aClr, Sym.reps, aCall, aCallQ, finishCall, Sym.refs, Sym.refs1, Sym.refs0, okv, ok1, Sym.atom, flat0, dedup, Sym.reach, Sym.pos, Sym.sub, renO, Sym.ren, Sym.ren1, Sym.ren0, gmap, mergeOld, mergeNew, mergeO, allFresh, Sym.det, Sym.det0, Sym.canon, keepEnv, fn_ret, fn_normal, rs_keep, rs_frz, rz_mk, rk_true, rf_some, reps_v, all_rep, all_rep', all_strF, all_strA, max12, max21, btf, bft, btt, bff, aRes, Sym.one, frzM, frz1, frz0, frzL, args0, dead0, idx_ne, bytesV_length, all_bytesF, all_bytesA, toNums_bytes, bytesV_drop, bytesV_take, putL_bytes, strCells_bytes, natLit, w64, wu8, wu16, wu32, wu64, range1, range2, range3, range4, lp_succ, lh_some, Int.natCast_zero, Int.natCast_one, bne_self_eq_false, go_regs, go_regm, sxA, sxB, sxC, nft, ntf, sxD, sxE, sxF, sxO, qq_nil, qq_cons, qq1_true, qq1_false, qq2_some, List.getElem?_cons_zero, none_beq, emptyS, Option.some_beq_some, Option.getD_some, Option.getD_none, Option.bind_some, Option.map_some, Option.bind_none, Option.map_none, if_true, if_false, ite_true, ite_false, Bool.false_eq_true, reduceIte, reduceCtorEq, Nat.reduceEqDiff, beq_self_eq_true, Bool.and_true, Bool.true_and, Bool.and_false, Bool.false_and, Bool.or_true, Bool.true_or, Bool.or_false, Bool.false_or, Bool.not_true, Bool.not_false, List.getElem?_cons_zero, List.getElem?_cons_succ, List.getElem?_nil, List.length_cons, List.length_nil, List.all_cons, List.all_nil, List.map_cons, List.map_nil, List.flatMap_cons, List.flatMap_nil, List.append_nil, List.nil_append, List.cons_append, List.contains_nil, List.contains_cons, List.take_zero, List.drop_zero, List.take_succ_cons, List.drop_succ_cons, List.set_cons_zero, List.set_cons_succ, List.getD_cons_zero, List.getD_cons_succ, List.idxOf_cons_self, List.range_zero, List.isEmpty_nil, List.isEmpty_cons, decide_true, decide_false, and_self, true_and, and_true, false_and, and_false, Nat.zero_add, Nat.add_zero, Nat.max_self, Nat.zero_max, Nat.max_zero, Nat.le_refl, ne_eq, not_true_eq_false, not_false_eq_true, beq_iff_eq, Nat.reduceAdd, Nat.reduceSub, Nat.reduceMul, Nat.reduceLT, Nat.reduceLeDiff, Nat.reduceBEq, Nat.reduceBNe, Nat.sub_zero, Nat.zero_mul, Nat.mul_zero, Nat.mul_one, Nat.one_mul, List.take_nil, List.drop_nil, Option.isNone_none, Option.isNone_some, Int.natCast_nonneg, Int.toNat_natCast, Nat.zero_le, Nat.lt_irrefl, Nat.reduceGT, Int.reduceEq, Int.reduceLT, Int.reduceLE, Int.reduceToNat, Int.reduceAdd, Int.reduceSub, Int.reduceMul, Int.reduceNeg, Int.reduceBEq, Int.reduceBNe, b_fuglemanlaw09_BusHurts, hw, c1', c2', oe, hnew, hs1, hs2, hb1, hp1, ht, m1, z1, z2, z3, z4, hn, hc, r0, r1, r2, r3, v0, v2, hs']
  done
theorem BusHurts : ∀ (a0 : ByteArray) (a1 : S32) (a2 : S32), a0.size ≤ 140737488351232 → S32.In a1 → S32.In a2 → ∃ ob d, acall T 200 4 0 [.v (.string a0), .agg a1.av, .agg a2.av] [] = some ⟨.v (.bool true), ob, d⟩ := by
  intro s x y h0 hx hy
  refine ⟨[], 1, ?_⟩
  rw [acall_go (k := 199) (body := b_fuglemanlaw09_BusHurts) rfl rfl (Nat.zero_le _)]
  have hw : acall T 199 7 0 [] [] = some ⟨.v (.bool true), [], 1⟩ := awake_a
  have oe : (⟨#[111, 116, 104, 101, 114]⟩ : ByteArray) = oth := rfl
  simp only [S32.av]
  by_cases c1 : s.size < 2
  · have c1' : (s.size : Int) < 2 := by omega
    simp only [go_skip, go_ret, go_exit, go_seq, go_cond, cd_true, cd_false, cd_bool, go_block, go_loop, nx_nil, nx_c, nx_b, nx_l, rt_nil, rt_c, rt_b, rt_l, xt_c, xt_b, xt_l, go_reg, op_nil, op_cons, op1_true, op1_false, op2_some, go_regq, go_regt, qp_nil, qp_cons, qp1_true, qp1_false, qp2_some, aop_call, aopQ_call, aop_mv, aop_pick, aop_bin, aop_eqb, aop_eqp, aop_eqs, aop_eqst, aop_un, aop_load, aop_fld, aop_fad, aop_nilck, aop_ixs, aop_ixa, aop_ixstr, aop_ixv, aop_ext, aop_cvi, aop_cvs, aop_len, aop_lens, aop_min, aop_max, aop_slstr, aop_sls, aop_build, aop_cvbs, aop_mkf, aop_box, aop_alloc, aop_row, aop_store, aop_mks, aop_app, aop_cpy, aop_cvsb, aop_clr, aopQ_mv, aopQ_pick, aopQ_bin, aopQ_eqb, aopQ_eqp, aopQ_eqs, aopQ_eqst, aopQ_un, aopQ_load, aopQ_fld, aopQ_fad, aopQ_nilck, aopQ_ixs, aopQ_ixa, aopQ_ixstr, aopQ_ixv, aopQ_ext, aopQ_cvi, aopQ_cvs, aopQ_len, aopQ_lens, aopQ_min, aopQ_max, aopQ_slstr, aopQ_sls, aopQ_build, aopQ_cvbs, aopQ_mkf, Sym.wants, Sym.get, Sym.ev, Sym.evs, Sym.evO, Sym.evP, Sym.put, Sym.lev, Sym.aq, Sym.ae, aBin, aInt, isShift, aEqB, aEqP, aEqS, leavesEq, leafEq, aUn, Sym.rd, aLoad, aField, aFad, aNilck, asI, aIxS, aIxA, aIxV, aExt, aPick, aCvi, aCvs, aLen, aLenS, aMin2, aMax2, aFold, aFoldL, bnd, aSlStr, aSlS, fillL, newO, kill, aStore, putL, getO, cellsOf, Sym.elems, Sym.elemsS, aApp, aCpy, aClr, Sym.reps, aCall, aCallQ, finishCall, Sym.refs, Sym.refs1, Sym.refs0, okv, ok1, Sym.atom, flat0, dedup, Sym.reach, Sym.pos, Sym.sub, renO, Sym.ren, Sym.ren1, Sym.ren0, gmap, mergeOld, mergeNew, mergeO, allFresh, Sym.det, Sym.det0, Sym.canon, keepEnv, fn_ret, fn_normal, rs_keep, rs_frz, rz_mk, rk_true, rf_some, reps_v, all_rep, all_rep', all_strF, all_strA, max12, max21, btf, bft, btt, bff, aRes, Sym.one, frzM, frz1, frz0, frzL, args0, dead0, idx_ne, bytesV_length, all_bytesF, all_bytesA, toNums_bytes, bytesV_drop, bytesV_take, putL_bytes, strCells_bytes, natLit, w64, wu8, wu16, wu32, wu64, range1, range2, range3, range4, lp_succ, lh_some, Int.natCast_zero, Int.natCast_one, bne_self_eq_false, go_regs, go_regm, sxA, sxB, sxC, nft, ntf, sxD, sxE, sxF, sxO, qq_nil, qq_cons, qq1_true, qq1_false, qq2_some, List.getElem?_cons_zero, none_beq, emptyS, Option.some_beq_some, Option.getD_some, Option.getD_none, Option.bind_some, Option.map_some, Option.bind_none, Option.map_none, if_true, if_false, ite_true, ite_false, Bool.false_eq_true, reduceIte, reduceCtorEq, Nat.reduceEqDiff, beq_self_eq_true, Bool.and_true, Bool.true_and, Bool.and_false, Bool.false_and, Bool.or_true, Bool.true_or, Bool.or_false, Bool.false_or, Bool.not_true, Bool.not_false, List.getElem?_cons_zero, List.getElem?_cons_succ, List.getElem?_nil, List.length_cons, List.length_nil, List.all_cons, List.all_nil, List.map_cons, List.map_nil, List.flatMap_cons, List.flatMap_nil, List.append_nil, List.nil_append, List.cons_append, List.contains_nil, List.contains_cons, List.take_zero, List.drop_zero, List.take_succ_cons, List.drop_succ_cons, List.set_cons_zero, List.set_cons_succ, List.getD_cons_zero, List.getD_cons_succ, List.idxOf_cons_self, List.range_zero, List.isEmpty_nil, List.isEmpty_cons, decide_true, decide_false, and_self, true_and, and_true, false_and, and_false, Nat.zero_add, Nat.add_zero, Nat.max_self, Nat.zero_max, Nat.max_zero, Nat.le_refl, ne_eq, not_true_eq_false, not_false_eq_true, beq_iff_eq, Nat.reduceAdd, Nat.reduceSub, Nat.reduceMul, Nat.reduceLT, Nat.reduceLeDiff, Nat.reduceBEq, Nat.reduceBNe, Nat.sub_zero, Nat.zero_mul, Nat.mul_zero, Nat.mul_one, Nat.one_mul, List.take_nil, List.drop_nil, Option.isNone_none, Option.isNone_some, Int.natCast_nonneg, Int.toNat_natCast, Nat.zero_le, Nat.lt_irrefl, Nat.reduceGT, Int.reduceEq, Int.reduceLT, Int.reduceLE, Int.reduceToNat, Int.reduceAdd, Int.reduceSub, Int.reduceMul, Int.reduceNeg, Int.reduceBEq, Int.reduceBNe, b_fuglemanlaw09_BusHurts, hw, c1']
  · have c1' : ¬ (s.size : Int) < 2 := by omega
    by_cases c2 : 40 < s.size
    · have c2' : (40 : Int) < s.size := by omega
      simp only [go_skip, go_ret, go_exit, go_seq, go_cond, cd_true, cd_false, cd_bool, go_block, go_loop, nx_nil, nx_c, nx_b, nx_l, rt_nil, rt_c, rt_b, rt_l, xt_c, xt_b, xt_l, go_reg, op_nil, op_cons, op1_true, op1_false, op2_some, go_regq, go_regt, qp_nil, qp_cons, qp1_true, qp1_false, qp2_some, aop_call, aopQ_call, aop_mv, aop_pick, aop_bin, aop_eqb, aop_eqp, aop_eqs, aop_eqst, aop_un, aop_load, aop_fld, aop_fad, aop_nilck, aop_ixs, aop_ixa, aop_ixstr, aop_ixv, aop_ext, aop_cvi, aop_cvs, aop_len, aop_lens, aop_min, aop_max, aop_slstr, aop_sls, aop_build, aop_cvbs, aop_mkf, aop_box, aop_alloc, aop_row, aop_store, aop_mks, aop_app, aop_cpy, aop_cvsb, aop_clr, aopQ_mv, aopQ_pick, aopQ_bin, aopQ_eqb, aopQ_eqp, aopQ_eqs, aopQ_eqst, aopQ_un, aopQ_load, aopQ_fld, aopQ_fad, aopQ_nilck, aopQ_ixs, aopQ_ixa, aopQ_ixstr, aopQ_ixv, aopQ_ext, aopQ_cvi, aopQ_cvs, aopQ_len, aopQ_lens, aopQ_min, aopQ_max, aopQ_slstr, aopQ_sls, aopQ_build, aopQ_cvbs, aopQ_mkf, Sym.wants, Sym.get, Sym.ev, Sym.evs, Sym.evO, Sym.evP, Sym.put, Sym.lev, Sym.aq, Sym.ae, aBin, aInt, isShift, aEqB, aEqP, aEqS, leavesEq, leafEq, aUn, Sym.rd, aLoad, aField, aFad, aNilck, asI, aIxS, aIxA, aIxV, aExt, aPick, aCvi, aCvs, aLen, aLenS, aMin2, aMax2, aFold, aFoldL, bnd, aSlStr, aSlS, fillL, newO, kill, aStore, putL, getO, cellsOf, Sym.elems, Sym.elemsS, aApp, aCpy, aClr, Sym.reps, aCall, aCallQ, finishCall, Sym.refs, Sym.refs1, Sym.refs0, okv, ok1, Sym.atom, flat0, dedup, Sym.reach, Sym.pos, Sym.sub, renO, Sym.ren, Sym.ren1, Sym.ren0, gmap, mergeOld, mergeNew, mergeO, allFresh, Sym.det, Sym.det0, Sym.canon, keepEnv, fn_ret, fn_normal, rs_keep, rs_frz, rz_mk, rk_true, rf_some, reps_v, all_rep, all_rep', all_strF, all_strA, max12, max21, btf, bft, btt, bff, aRes, Sym.one, frzM, frz1, frz0, frzL, args0, dead0, idx_ne, bytesV_length, all_bytesF, all_bytesA, toNums_bytes, bytesV_drop, bytesV_take, putL_bytes, strCells_bytes, natLit, w64, wu8, wu16, wu32, wu64, range1, range2, range3, range4, lp_succ, lh_some, Int.natCast_zero, Int.natCast_one, bne_self_eq_false, go_regs, go_regm, sxA, sxB, sxC, nft, ntf, sxD, sxE, sxF, sxO, qq_nil, qq_cons, qq1_true, qq1_false, qq2_some, List.getElem?_cons_zero, none_beq, emptyS, Option.some_beq_some, Option.getD_some, Option.getD_none, Option.bind_some, Option.map_some, Option.bind_none, Option.map_none, if_true, if_false, ite_true, ite_false, Bool.false_eq_true, reduceIte, reduceCtorEq, Nat.reduceEqDiff, beq_self_eq_true, Bool.and_true, Bool.true_and, Bool.and_false, Bool.false_and, Bool.or_true, Bool.true_or, Bool.or_false, Bool.false_or, Bool.not_true, Bool.not_false, List.getElem?_cons_zero, List.getElem?_cons_succ, List.getElem?_nil, List.length_cons, List.length_nil, List.all_cons, List.all_nil, List.map_cons, List.map_nil, List.flatMap_cons, List.flatMap_nil, List.append_nil, List.nil_append, List.cons_append, List.contains_nil, List.contains_cons, List.take_zero, List.drop_zero, List.take_succ_cons, List.drop_succ_cons, List.set_cons_zero, List.set_cons_succ, List.getD_cons_zero, List.getD_cons_succ, List.idxOf_cons_self, List.range_zero, List.isEmpty_nil, List.isEmpty_cons, decide_true, decide_false, and_self, true_and, and_true, false_and, and_false, Nat.zero_add, Nat.add_zero, Nat.max_self, Nat.zero_max, Nat.max_zero, Nat.le_refl, ne_eq, not_true_eq_false, not_false_eq_true, beq_iff_eq, Nat.reduceAdd, Nat.reduceSub, Nat.reduceMul, Nat.reduceLT, Nat.reduceLeDiff, Nat.reduceBEq, Nat.reduceBNe, Nat.sub_zero, Nat.zero_mul, Nat.mul_zero, Nat.mul_one, Nat.one_mul, List.take_nil, List.drop_nil, Option.isNone_none, Option.isNone_some, Int.natCast_nonneg, Int.toNat_natCast, Nat.zero_le, Nat.lt_irrefl, Nat.reduceGT, Int.reduceEq, Int.reduceLT, Int.reduceLE, Int.reduceToNat, Int.reduceAdd, Int.reduceSub, Int.reduceMul, Int.reduceNeg, Int.reduceBEq, Int.reduceBNe, b_fuglemanlaw09_BusHurts, hw, c1', c2']
    · have m1 : y.f0.tmod 2 = 0 ∨ y.f0.tmod 2 = 1 := by rw [tmod_nn hy.f0.1]; omega
      by_cases hs : s = Bus.burst s x.f2 x.f3
      · rcases m1 with m1 | m1
        · exact hurtsA0 s (by omega) (by omega) x y hx hy m1 hs
        · exact hurtsA2 s (by omega) (by omega) x y hx hy m1 hs
      · rcases m1 with m1 | m1
        · exact hurtsB0 s (by omega) (by omega) x y hx hy m1 hs
        · exact hurtsB2 s (by omega) (by omega) x y hx hy m1 hs
end Go.Proofs.Ythmmgpdniijkeaa.Said
