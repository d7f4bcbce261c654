/- The reference's burst. -/
import Derived.Test.YthmmgpdniijkeaaBBurst
namespace Go.Proofs.Ythmmgpdniijkeaa.Bus
open Go Go.Proofs.Ythmmgpdniijkeaa.Sym Go.Proofs.Ythmmgpdniijkeaa.Tab
set_option linter.unusedVariables false
set_option linter.unusedSimpArgs false
set_option maxHeartbeats 4000000
set_option maxRecDepth 20000
def turnOf (q : Nat) : Int := IntKind.u8.wrap (1 * 2 ^ min (7 - q % 8) IntKind.u8.bits)
def rloop (at_ pat n : Nat) : Nat → Nat → List Int → List Int
  | 0, _, l => l
  | m + 1, i, l => rloop at_ pat n m (i + 1) (if pat.testBit (15 - i) = true ∧ at_ + i < 8 * n then l.set ((at_ + i) / 8) (bitsV .xor .u8 (l.getD ((at_ + i) / 8) 0) (turnOf (at_ + i))) else l)
theorem fdiv_nat (p k : Nat) : (p : Int).fdiv (2 ^ k) = ((p / 2 ^ k : Nat) : Int) := by
  rw [Int.fdiv_eq_ediv_of_nonneg _ (Int.le_of_lt (Int.pow_pos (by decide)))]
  have : ((2 : Int) ^ k) = ((2 ^ k : Nat) : Int) := by simp
  rw [this, Int.natCast_ediv]
theorem rburst_loop (C : CT) (lf : Nat) (s : ByteArray) (at_ pat n : Nat) (hs : s.size = n) (hn : n ≤ 300) (h8 : at_ < 8 * n) (hp : pat ≤ 65535) : ∀ (m N i : Nat) (l : List Int), i + m = 16 → m ≤ N → l.length = n →
    FnR [.t 6] false false (Lh C lf (some ⟨[(0, .v (.string s)), (1, .v (.int .i64 at_)), (2, .v (.int .u16 pat)), (7, .view 0 0 n 1 none), (8, .v (.int .i64 i))], [⟨true, true, true, bytesV l⟩], 1, []⟩) [0, 1, 2, 7, 8] l_fuglemanref01_Burst_0 N [.b 0, .c l_fuglemanref01_Burst_1]) = some ⟨.v (.string (strOfNums (rloop at_ pat n m i l))), [], 1⟩
  | m, N, i, l, hi, hN, hl => by
    rw [lh_as l_fuglemanref01_Burst_0.eq_1]
    have hbl : (bytesV l).length = n := by rw [bytesV_length, hl]
    cases m with
    | zero =>
      have t1 : l.take n = l := List.take_of_length_le (by omega)
      have f2 : n ≤ l.length := by omega
      have c1 : ¬ (i : Int) < 16 := by omega
      simp -implicitDefEqProofs only [eqs, Sym.wants, Sym.get, Sym.ev, Sym.evs, Sym.evO, Sym.evP, Sym.put, Sym.lev, Sym.aq, Sym.ae, aBin, aInt, isShift, aEqB, aEqP, aEqS, leavesEq, leafEq, aUn, Sym.rd, aLoad, aField, aFad, aNilck, asI, aIxS, aIxA, aIxV, aExt, aPick, aCvi, aCvs, aLen, aLenS, aMin2, aMax2, aFold, aFoldL, bnd, aSlStr, aSlS, fillL, newO, kill, aStore, putL, getO, cellsOf, Sym.elems, Sym.elemsS, aApp, aCpy, aClr, Sym.reps, aCall, aCallQ, finishCall, Sym.refs, Sym.refs1, Sym.refs0, okv, ok1, Sym.atom, flat0, dedup, Sym.reach, Sym.pos, Sym.sub, renO, Sym.ren, Sym.ren1, Sym.ren0, gmap, mergeOld, mergeNew, mergeO, allFresh, Sym.det, Sym.det0, Sym.canon, keepEnv, aRes, Sym.one, frzM, frz1, frz0, frzL, args0, dead0, aCallM, if_true, if_false, ite_true, ite_false, reduceIte, reduceCtorEq, Nat.reduceEqDiff, ne_eq, Nat.reduceAdd, Nat.reduceSub, Nat.reduceMul, Nat.reduceLT, Nat.reduceLeDiff, Nat.reduceBEq, Nat.reduceBNe, Nat.reduceGT, Int.reduceEq, Int.reduceLT, Int.reduceLE, Int.reduceToNat, Int.reduceAdd, Int.reduceSub, Int.reduceMul, Int.reduceNeg, Int.reduceBEq, Int.reduceBNe, l_fuglemanref01_Burst_1, c1, f2, t1, rloop]
    | succ m =>
      obtain ⟨N, rfl⟩ : ∃ n', N = n' + 1 := ⟨N - 1, by omega⟩
      have c1 : (i : Int) < 16 := by omega
      have w1 : IntKind.i64.wrap (pat : Int) = pat := w64 (by omega) (by omega)
      have w2 : IntKind.i64.wrap (15 - (i : Int)) = ((15 - i : Nat) : Int) := by rw [w64 (by omega) (by omega)]; omega
      have w3 : ¬ ((15 - i : Nat) : Int) < 0 := by omega
      have w4 : min (15 - i) IntKind.i64.bits = 15 - i := by show min (15 - i) 64 = _; omega
      have w5 : IntKind.i64.wrap ((i : Int) + 1) = i + 1 := w64 (by omega) (by omega)
      have e1 := fdiv_nat pat (15 - i)
      have e2 : ((pat / 2 ^ (15 - i) : Nat) : Int).tmod 2 = ((pat / 2 ^ (15 - i) % 2 : Nat) : Int) := by
        generalize pat / 2 ^ (15 - i) = q
        rw [tmod_nn (by omega)]
        omega
      have e3 : (((pat / 2 ^ (15 - i) % 2 : Nat) : Int) == 1) = pat.testBit (15 - i) := by
        rw [Nat.testBit_eq_decide_div_mod_eq, Bool.eq_iff_iff, beq_iff_eq, decide_eq_true_eq]
        generalize pat / 2 ^ (15 - i) = q
        omega
      have ez : (0 : Int) ≤ (2 : Int) := by decide
      have w0 : IntKind.i64.wrap ((pat / 2 ^ (15 - i) : Nat) : Int) = ((pat / 2 ^ (15 - i) : Nat) : Int) := by
        have := Nat.div_le_self pat (2 ^ (15 - i))
        generalize pat / 2 ^ (15 - i) = q at *
        exact w64 (by omega) (by omega)
      cases hb : pat.testBit (15 - i)
      · have ih := rburst_loop C lf s at_ pat n hs hn h8 hp m N (i + 1) l (by omega) (by omega) hl
        rw [Int.natCast_add, Int.natCast_one] at ih
        rw [hb] at e3
        have e : rloop at_ pat n (m + 1) i l = rloop at_ pat n m (i + 1) l := by rw [rloop, if_neg (by rw [hb]; simp)]
        rw [e]
        simp -implicitDefEqProofs only [eqs, Sym.wants, Sym.get, Sym.ev, Sym.evs, Sym.evO, Sym.evP, Sym.put, Sym.lev, Sym.aq, Sym.ae, aBin, aInt, isShift, aEqB, aEqP, aEqS, leavesEq, leafEq, aUn, Sym.rd, aLoad, aField, aFad, aNilck, asI, aIxS, aIxA, aIxV, aExt, aPick, aCvi, aCvs, aLen, aLenS, aMin2, aMax2, aFold, aFoldL, bnd, aSlStr, aSlS, fillL, newO, kill, aStore, putL, getO, cellsOf, Sym.elems, Sym.elemsS, aApp, aCpy, aClr, Sym.reps, aCall, aCallQ, finishCall, Sym.refs, Sym.refs1, Sym.refs0, okv, ok1, Sym.atom, flat0, dedup, Sym.reach, Sym.pos, Sym.sub, renO, Sym.ren, Sym.ren1, Sym.ren0, gmap, mergeOld, mergeNew, mergeO, allFresh, Sym.det, Sym.det0, Sym.canon, keepEnv, aRes, Sym.one, frzM, frz1, frz0, frzL, args0, dead0, aCallM, if_true, if_false, ite_true, ite_false, reduceIte, reduceCtorEq, Nat.reduceEqDiff, ne_eq, Nat.reduceAdd, Nat.reduceSub, Nat.reduceMul, Nat.reduceLT, Nat.reduceLeDiff, Nat.reduceBEq, Nat.reduceBNe, Nat.reduceGT, Int.reduceEq, Int.reduceLT, Int.reduceLE, Int.reduceToNat, Int.reduceAdd, Int.reduceSub, Int.reduceMul, Int.reduceNeg, Int.reduceBEq, Int.reduceBNe, c1, w1, w2, w3, w4, w5, e1, e2, e3, w0, ih]
      · rw [hb] at e3
        have m1 : IntKind.i64.wrap (8 * (s.size : Int)) = 8 * (n : Int) := by rw [w64 (by omega) (by omega), hs]
        have m2 : IntKind.i64.wrap (8 * (n : Int) - at_) = 8 * n - at_ := w64 (by omega) (by omega)
        by_cases hc : at_ + i < 8 * n
        · have c2 : (i : Int) < 8 * n - at_ := by omega
          have k1 : IntKind.i64.wrap ((at_ : Int) + i) = ((at_ + i : Nat) : Int) := by rw [w64 (by omega) (by omega)]; omega
          have k2 : ((at_ + i : Nat) : Int).tdiv 8 = (((at_ + i) / 8 : Nat) : Int) := by rw [tdiv_nn (by omega)]; omega
          have k3 : ((at_ + i : Nat) : Int).tmod 8 = (((at_ + i) % 8 : Nat) : Int) := by rw [tmod_nn (by omega)]; omega
          have k0 : IntKind.i64.wrap (((at_ + i) / 8 : Nat) : Int) = (((at_ + i) / 8 : Nat) : Int) := w64 (by omega) (by omega)
          have k4 : IntKind.i64.wrap (7 - (((at_ + i) % 8 : Nat) : Int)) = ((7 - (at_ + i) % 8 : Nat) : Int) := by rw [w64 (by omega) (by omega)]; omega
          have k5 : ¬ ((7 - (at_ + i) % 8 : Nat) : Int) < 0 := by omega
          have hin : (at_ + i) / 8 < l.length := by omega
          have k6 : (((at_ + i) / 8 : Nat) : Int) < n := by omega
          have k7 := bytesV_at hin
          have hg : l.getD ((at_ + i) / 8) 0 = l[(at_ + i) / 8] := by rw [List.getD_eq_getElem?_getD, List.getElem?_eq_getElem hin]; rfl
          have f3 : (at_ + i) / 8 + 1 ≤ l.length := by omega
          have ih := rburst_loop C lf s at_ pat n hs hn h8 hp m N (i + 1) (l.set ((at_ + i) / 8) (bitsV .xor .u8 (l.getD ((at_ + i) / 8) 0) (turnOf (at_ + i)))) (by omega) (by omega) (by rw [List.length_set, hl])
          rw [hg] at ih
          rw [Int.natCast_add (n := i), Int.natCast_one] at ih
          have e : rloop at_ pat n (m + 1) i l = rloop at_ pat n m (i + 1) (l.set ((at_ + i) / 8) (bitsV .xor .u8 (l.getD ((at_ + i) / 8) 0) (turnOf (at_ + i)))) := by rw [rloop, if_pos ⟨hb, hc⟩]
          rw [e, hg]
          unfold turnOf at ih ⊢
          simp -implicitDefEqProofs only [eqs, Sym.wants, Sym.get, Sym.ev, Sym.evs, Sym.evO, Sym.evP, Sym.put, Sym.lev, Sym.aq, Sym.ae, aBin, aInt, isShift, aEqB, aEqP, aEqS, leavesEq, leafEq, aUn, Sym.rd, aLoad, aField, aFad, aNilck, asI, aIxS, aIxA, aIxV, aExt, aPick, aCvi, aCvs, aLen, aLenS, aMin2, aMax2, aFold, aFoldL, bnd, aSlStr, aSlS, fillL, newO, kill, aStore, putL, getO, cellsOf, Sym.elems, Sym.elemsS, aApp, aCpy, aClr, Sym.reps, aCall, aCallQ, finishCall, Sym.refs, Sym.refs1, Sym.refs0, okv, ok1, Sym.atom, flat0, dedup, Sym.reach, Sym.pos, Sym.sub, renO, Sym.ren, Sym.ren1, Sym.ren0, gmap, mergeOld, mergeNew, mergeO, allFresh, Sym.det, Sym.det0, Sym.canon, keepEnv, aRes, Sym.one, frzM, frz1, frz0, frzL, args0, dead0, aCallM, if_true, if_false, ite_true, ite_false, reduceIte, reduceCtorEq, Nat.reduceEqDiff, ne_eq, Nat.reduceAdd, Nat.reduceSub, Nat.reduceMul, Nat.reduceLT, Nat.reduceLeDiff, Nat.reduceBEq, Nat.reduceBNe, Nat.reduceGT, Int.reduceEq, Int.reduceLT, Int.reduceLE, Int.reduceToNat, Int.reduceAdd, Int.reduceSub, Int.reduceMul, Int.reduceNeg, Int.reduceBEq, Int.reduceBNe, c1, c2, w1, w2, w3, w4, w5, e1, e2, e3, w0, m1, m2, k0, k1, k2, k3, k4, k5, k6, k7, f3, bytesV_set, ih]
        · have c2 : ¬ (i : Int) < 8 * n - at_ := by omega
          have ih := rburst_loop C lf s at_ pat n hs hn h8 hp m N (i + 1) l (by omega) (by omega) hl
          rw [Int.natCast_add, Int.natCast_one] at ih
          have e : rloop at_ pat n (m + 1) i l = rloop at_ pat n m (i + 1) l := by rw [rloop, if_neg (fun h => hc h.2)]
          rw [e]
          simp -implicitDefEqProofs only [eqs, Sym.wants, Sym.get, Sym.ev, Sym.evs, Sym.evO, Sym.evP, Sym.put, Sym.lev, Sym.aq, Sym.ae, aBin, aInt, isShift, aEqB, aEqP, aEqS, leavesEq, leafEq, aUn, Sym.rd, aLoad, aField, aFad, aNilck, asI, aIxS, aIxA, aIxV, aExt, aPick, aCvi, aCvs, aLen, aLenS, aMin2, aMax2, aFold, aFoldL, bnd, aSlStr, aSlS, fillL, newO, kill, aStore, putL, getO, cellsOf, Sym.elems, Sym.elemsS, aApp, aCpy, aClr, Sym.reps, aCall, aCallQ, finishCall, Sym.refs, Sym.refs1, Sym.refs0, okv, ok1, Sym.atom, flat0, dedup, Sym.reach, Sym.pos, Sym.sub, renO, Sym.ren, Sym.ren1, Sym.ren0, gmap, mergeOld, mergeNew, mergeO, allFresh, Sym.det, Sym.det0, Sym.canon, keepEnv, aRes, Sym.one, frzM, frz1, frz0, frzL, args0, dead0, aCallM, if_true, if_false, ite_true, ite_false, reduceIte, reduceCtorEq, Nat.reduceEqDiff, ne_eq, Nat.reduceAdd, Nat.reduceSub, Nat.reduceMul, Nat.reduceLT, Nat.reduceLeDiff, Nat.reduceBEq, Nat.reduceBNe, Nat.reduceGT, Int.reduceEq, Int.reduceLT, Int.reduceLE, Int.reduceToNat, Int.reduceAdd, Int.reduceSub, Int.reduceMul, Int.reduceNeg, Int.reduceBEq, Int.reduceBNe, c1, c2, w1, w2, w3, w4, w5, e1, e2, e3, w0, m1, m2, ih]
def rburst (s : ByteArray) (at_ pat : Int) : ByteArray := if at_ < 0 ∨ 8 * (s.size : Int) ≤ at_ then s else strOfNums (rloop at_.toNat pat.toNat s.size 16 0 (numsOf s))
theorem rburst_a (k : Nat) (s : ByteArray) (hs : s.size ≤ 300) (at_ pat : Int) (hp : 0 ≤ pat ∧ pat ≤ 65535) : acall T (k + 20) 44 0 [.v (.string s), .v (.int .i64 at_), .v (.int .u16 pat)] [] = some ⟨.v (.string (rburst s at_ pat)), [], if at_ < 0 ∨ 8 * (s.size : Int) ≤ at_ then 0 else 1⟩ := by
  rw [acall_go (body := b_fuglemanref01_Burst) rfl rfl (Nat.zero_le _)]
  have m1 : IntKind.i64.wrap (8 * (s.size : Int)) = 8 * (s.size : Int) := w64 (by omega) (by omega)
  unfold rburst
  by_cases c1 : at_ < 0
  · simp -implicitDefEqProofs only [eqs, Sym.wants, Sym.get, Sym.ev, Sym.evs, Sym.evO, Sym.evP, Sym.put, Sym.lev, Sym.aq, Sym.ae, aBin, aInt, isShift, aEqB, aEqP, aEqS, leavesEq, leafEq, aUn, Sym.rd, aLoad, aField, aFad, aNilck, asI, aIxS, aIxA, aIxV, aExt, aPick, aCvi, aCvs, aLen, aLenS, aMin2, aMax2, aFold, aFoldL, bnd, aSlStr, aSlS, fillL, newO, kill, aStore, putL, getO, cellsOf, Sym.elems, Sym.elemsS, aApp, aCpy, aClr, Sym.reps, aCall, aCallQ, finishCall, Sym.refs, Sym.refs1, Sym.refs0, okv, ok1, Sym.atom, flat0, dedup, Sym.reach, Sym.pos, Sym.sub, renO, Sym.ren, Sym.ren1, Sym.ren0, gmap, mergeOld, mergeNew, mergeO, allFresh, Sym.det, Sym.det0, Sym.canon, keepEnv, aRes, Sym.one, frzM, frz1, frz0, frzL, args0, dead0, aCallM, if_true, if_false, ite_true, ite_false, reduceIte, reduceCtorEq, Nat.reduceEqDiff, ne_eq, Nat.reduceAdd, Nat.reduceSub, Nat.reduceMul, Nat.reduceLT, Nat.reduceLeDiff, Nat.reduceBEq, Nat.reduceBNe, Nat.reduceGT, Int.reduceEq, Int.reduceLT, Int.reduceLE, Int.reduceToNat, Int.reduceAdd, Int.reduceSub, Int.reduceMul, Int.reduceNeg, Int.reduceBEq, Int.reduceBNe, b_fuglemanref01_Burst, c1, true_or]
  · by_cases c2 : 8 * (s.size : Int) ≤ at_
    · simp -implicitDefEqProofs only [eqs, Sym.wants, Sym.get, Sym.ev, Sym.evs, Sym.evO, Sym.evP, Sym.put, Sym.lev, Sym.aq, Sym.ae, aBin, aInt, isShift, aEqB, aEqP, aEqS, leavesEq, leafEq, aUn, Sym.rd, aLoad, aField, aFad, aNilck, asI, aIxS, aIxA, aIxV, aExt, aPick, aCvi, aCvs, aLen, aLenS, aMin2, aMax2, aFold, aFoldL, bnd, aSlStr, aSlS, fillL, newO, kill, aStore, putL, getO, cellsOf, Sym.elems, Sym.elemsS, aApp, aCpy, aClr, Sym.reps, aCall, aCallQ, finishCall, Sym.refs, Sym.refs1, Sym.refs0, okv, ok1, Sym.atom, flat0, dedup, Sym.reach, Sym.pos, Sym.sub, renO, Sym.ren, Sym.ren1, Sym.ren0, gmap, mergeOld, mergeNew, mergeO, allFresh, Sym.det, Sym.det0, Sym.canon, keepEnv, aRes, Sym.one, frzM, frz1, frz0, frzL, args0, dead0, aCallM, if_true, if_false, ite_true, ite_false, reduceIte, reduceCtorEq, Nat.reduceEqDiff, ne_eq, Nat.reduceAdd, Nat.reduceSub, Nat.reduceMul, Nat.reduceLT, Nat.reduceLeDiff, Nat.reduceBEq, Nat.reduceBNe, Nat.reduceGT, Int.reduceEq, Int.reduceLT, Int.reduceLE, Int.reduceToNat, Int.reduceAdd, Int.reduceSub, Int.reduceMul, Int.reduceNeg, Int.reduceBEq, Int.reduceBNe, b_fuglemanref01_Burst, c1, c2, m1, or_true]
    · obtain ⟨a, rfl⟩ : ∃ a : Nat, at_ = a := ⟨at_.toNat, by omega⟩
      obtain ⟨p, rfl⟩ : ∃ a : Nat, pat = a := ⟨pat.toNat, by omega⟩
      have hl := rburst_loop (acall T (k + 19)) (k + 19) s a p s.size rfl hs (by omega) (by omega) 16 (k + 18) 0 (numsOf s) rfl (by omega) (numsOf_len s)
      have lp : ∀ (ks : List It) (st : St), Lp (acall T (k + 19)) (k + 19) [0, 1, 2, 7, 8] l_fuglemanref01_Burst_0 (k + 19) ks st = Lh (acall T (k + 19)) (k + 19) (canon [0, 1, 2, 7, 8] st) [0, 1, 2, 7, 8] l_fuglemanref01_Burst_0 (k + 18) ks := fun ks st => lp_succ (n := k + 18)
      rw [Int.natCast_zero] at hl
      simp -implicitDefEqProofs only [eqs, Sym.wants, Sym.get, Sym.ev, Sym.evs, Sym.evO, Sym.evP, Sym.put, Sym.lev, Sym.aq, Sym.ae, aBin, aInt, isShift, aEqB, aEqP, aEqS, leavesEq, leafEq, aUn, Sym.rd, aLoad, aField, aFad, aNilck, asI, aIxS, aIxA, aIxV, aExt, aPick, aCvi, aCvs, aLen, aLenS, aMin2, aMax2, aFold, aFoldL, bnd, aSlStr, aSlS, fillL, newO, kill, aStore, putL, getO, cellsOf, Sym.elems, Sym.elemsS, aApp, aCpy, aClr, Sym.reps, aCall, aCallQ, finishCall, Sym.refs, Sym.refs1, Sym.refs0, okv, ok1, Sym.atom, flat0, dedup, Sym.reach, Sym.pos, Sym.sub, renO, Sym.ren, Sym.ren1, Sym.ren0, gmap, mergeOld, mergeNew, mergeO, allFresh, Sym.det, Sym.det0, Sym.canon, keepEnv, aRes, Sym.one, frzM, frz1, frz0, frzL, args0, dead0, aCallM, if_true, if_false, ite_true, ite_false, reduceIte, reduceCtorEq, Nat.reduceEqDiff, ne_eq, Nat.reduceAdd, Nat.reduceSub, Nat.reduceMul, Nat.reduceLT, Nat.reduceLeDiff, Nat.reduceBEq, Nat.reduceBNe, Nat.reduceGT, Int.reduceEq, Int.reduceLT, Int.reduceLE, Int.reduceToNat, Int.reduceAdd, Int.reduceSub, Int.reduceMul, Int.reduceNeg, Int.reduceBEq, Int.reduceBNe, b_fuglemanref01_Burst, c1, c2, m1, or_self, hl, lp]
end Go.Proofs.Ythmmgpdniijkeaa.Bus
