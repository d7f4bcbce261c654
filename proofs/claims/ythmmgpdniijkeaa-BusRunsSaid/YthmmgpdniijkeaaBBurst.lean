/- Package crc: a burst. -/
import Derived.Test.YthmmgpdniijkeaaBOps2
namespace Go.Proofs.Ythmmgpdniijkeaa.Bus
open Go Go.Proofs.Ythmmgpdniijkeaa.Sym Go.Proofs.Ythmmgpdniijkeaa.Tab
set_option linter.unusedVariables false
set_option linter.unusedSimpArgs false
set_option maxHeartbeats 4000000
set_option maxRecDepth 20000
theorem bytesV_set {l : List Int} {i : Nat} {x : Int} : (bytesV l).set i (.v (.int .u8 x)) = bytesV (l.set i x) := by simp [bytesV, List.map_set]
theorem bytesV_at {l : List Int} {i : Nat} (h : i < l.length) : (bytesV l)[i]? = some (.v (.int .u8 l[i])) := by simp [bytesV, List.getElem?_eq_getElem h]
/-- What a byte is turned by. -/
def byteOf (w : Int) (d : Nat) : Int := IntKind.u8.wrap (w.fdiv (2 ^ min (16 - 8 * d) IntKind.u32.bits))
def bloop (w : Int) : Nat → Nat → Nat → List Int → List Int
  | 0, _, _, l => l
  | m + 1, i, d, l => bloop w m (i + 1) (d + 1) (l.set i (bitsV .xor .u8 (l.getD i 0) (byteOf w d)))
def wide (pat : Int) (r : Nat) : Int := IntKind.u32.wrap (pat * 2 ^ min (8 - r) IntKind.u32.bits)
def burst (s : ByteArray) (at_ pat : Int) : ByteArray :=
  if at_ < 0 ∨ 8 * (s.size : Int) ≤ at_ then s
  else strOfNums (bloop (wide pat (at_.toNat % 8)) (min (at_.toNat / 8 + 3) s.size - at_.toNat / 8) (at_.toNat / 8) 0 (numsOf s))
theorem numsOf_len (s : ByteArray) : (numsOf s).length = s.size := by simp [numsOf]
theorem bloop_len (w : Int) : ∀ m i d l, (bloop w m i d l).length = l.length
  | 0, _, _, _ => rfl
  | m + 1, i, d, l => by rw [bloop, bloop_len w m, List.length_set]
theorem burst_loop (C : CT) (lf : Nat) (at_ a n : Nat) (w : Int) (ha : at_ / 8 = a) (hn : n ≤ 1000) (h8 : at_ < 8000) : ∀ (m N i d : Nat) (l : List Int), a + d = i → i + m = min (a + 3) n → m ≤ N → l.length = n → d ≤ 3 →
    FnR [.t 6] false false (Lh C lf (some ⟨[(1, .v (.int .i64 at_)), (7, .view 0 0 n 1 none), (8, .v (.int .u32 w)), (9, .v (.int .i64 i))], [⟨true, true, true, bytesV l⟩], 1, []⟩) [1, 7, 8, 9] l_crc_Burst_0 N [.b 0, .c l_crc_Burst_1]) = some ⟨.v (.string (strOfNums (bloop w m i d l))), [], 1⟩
  | m, N, i, d, l, hi, hm, hN, hl, hd => by
    rw [lh_as l_crc_Burst_0.eq_1]
    have e1 : (at_ : Int).tdiv 8 = a := by rw [tdiv_nn (by omega)]; omega
    have e2 : IntKind.i64.wrap (a : Int) = a := w64 (by omega) (by omega)
    have e3 : IntKind.i64.wrap ((a : Int) + 3) = a + 3 := w64 (by omega) (by omega)
    have hbl : (bytesV l).length = n := by rw [bytesV_length, hl]
    have f1 : n ≤ (bytesV l).length := by omega
    cases m with
    | zero =>
      have t1 : l.take n = l := List.take_of_length_le (by omega)
      have f2 : n ≤ l.length := by omega
      by_cases c : (n : Int) < (a : Int) + 3
      · have c1 : ¬ (i : Int) < n := by omega
        simp -implicitDefEqProofs only [eqs, Sym.wants, Sym.get, Sym.ev, Sym.evs, Sym.evO, Sym.evP, Sym.put, Sym.lev, Sym.aq, Sym.ae, aBin, aInt, isShift, aEqB, aEqP, aEqS, leavesEq, leafEq, aUn, Sym.rd, aLoad, aField, aFad, aNilck, asI, aIxS, aIxA, aIxV, aExt, aPick, aCvi, aCvs, aLen, aLenS, aMin2, aMax2, aFold, aFoldL, bnd, aSlStr, aSlS, fillL, newO, kill, aStore, putL, getO, cellsOf, Sym.elems, Sym.elemsS, aApp, aCpy, aClr, Sym.reps, aCall, aCallQ, finishCall, Sym.refs, Sym.refs1, Sym.refs0, okv, ok1, Sym.atom, flat0, dedup, Sym.reach, Sym.pos, Sym.sub, renO, Sym.ren, Sym.ren1, Sym.ren0, gmap, mergeOld, mergeNew, mergeO, allFresh, Sym.det, Sym.det0, Sym.canon, keepEnv, aRes, Sym.one, frzM, frz1, frz0, frzL, args0, dead0, aCallM, if_true, if_false, ite_true, ite_false, reduceIte, reduceCtorEq, Nat.reduceEqDiff, ne_eq, Nat.reduceAdd, Nat.reduceSub, Nat.reduceMul, Nat.reduceLT, Nat.reduceLeDiff, Nat.reduceBEq, Nat.reduceBNe, Nat.reduceGT, Int.reduceEq, Int.reduceLT, Int.reduceLE, Int.reduceToNat, Int.reduceAdd, Int.reduceSub, Int.reduceMul, Int.reduceNeg, Int.reduceBEq, Int.reduceBNe, l_crc_Burst_1, e1, e2, e3, c, c1, f1, f2, t1, bloop]
      · have c1 : ¬ (i : Int) < (a : Int) + 3 := by omega
        simp -implicitDefEqProofs only [eqs, Sym.wants, Sym.get, Sym.ev, Sym.evs, Sym.evO, Sym.evP, Sym.put, Sym.lev, Sym.aq, Sym.ae, aBin, aInt, isShift, aEqB, aEqP, aEqS, leavesEq, leafEq, aUn, Sym.rd, aLoad, aField, aFad, aNilck, asI, aIxS, aIxA, aIxV, aExt, aPick, aCvi, aCvs, aLen, aLenS, aMin2, aMax2, aFold, aFoldL, bnd, aSlStr, aSlS, fillL, newO, kill, aStore, putL, getO, cellsOf, Sym.elems, Sym.elemsS, aApp, aCpy, aClr, Sym.reps, aCall, aCallQ, finishCall, Sym.refs, Sym.refs1, Sym.refs0, okv, ok1, Sym.atom, flat0, dedup, Sym.reach, Sym.pos, Sym.sub, renO, Sym.ren, Sym.ren1, Sym.ren0, gmap, mergeOld, mergeNew, mergeO, allFresh, Sym.det, Sym.det0, Sym.canon, keepEnv, aRes, Sym.one, frzM, frz1, frz0, frzL, args0, dead0, aCallM, if_true, if_false, ite_true, ite_false, reduceIte, reduceCtorEq, Nat.reduceEqDiff, ne_eq, Nat.reduceAdd, Nat.reduceSub, Nat.reduceMul, Nat.reduceLT, Nat.reduceLeDiff, Nat.reduceBEq, Nat.reduceBNe, Nat.reduceGT, Int.reduceEq, Int.reduceLT, Int.reduceLE, Int.reduceToNat, Int.reduceAdd, Int.reduceSub, Int.reduceMul, Int.reduceNeg, Int.reduceBEq, Int.reduceBNe, l_crc_Burst_1, e1, e2, e3, c, c1, f1, f2, t1, bloop]
    | succ m =>
      obtain ⟨N, rfl⟩ : ∃ n', N = n' + 1 := ⟨N - 1, by omega⟩
      have hin : i < l.length := by omega
      have g1 : (i : Int) < n := by omega
      have g2 : (i : Int) < (a : Int) + 3 := by omega
      have g3 := bytesV_at hin
      have w1 : IntKind.i64.wrap ((i : Int) - a) = d := by rw [w64 (by omega) (by omega)]; omega
      have w2 : IntKind.i64.wrap (8 * (d : Int)) = ((8 * d : Nat) : Int) := by rw [w64 (by omega) (by omega)]; omega
      have w3 : IntKind.i64.wrap (16 - ((8 * d : Nat) : Int)) = ((16 - 8 * d : Nat) : Int) := by rw [w64 (by omega) (by omega)]; omega
      have w4 : ¬ ((16 - 8 * d : Nat) : Int) < 0 := by omega
      have w5 : IntKind.i64.wrap ((i : Int) + 1) = i + 1 := w64 (by omega) (by omega)
      have f3 : i + 1 ≤ l.length := by omega
      have hg : l.getD i 0 = l[i] := by rw [List.getD_eq_getElem?_getD, List.getElem?_eq_getElem hin]; rfl
      have ih := burst_loop C lf at_ a n w ha hn h8 m N (i + 1) (d + 1) (l.set i (bitsV .xor .u8 (l.getD i 0) (byteOf w d))) (by omega) (by omega) (by omega) (by rw [List.length_set, hl]) (by omega)
      rw [bloop]
      rw [Int.natCast_add, Int.natCast_one, hg] at ih
      rw [hg]
      unfold byteOf at ih ⊢
      by_cases c : (n : Int) < (a : Int) + 3
      · simp -implicitDefEqProofs only [eqs, Sym.wants, Sym.get, Sym.ev, Sym.evs, Sym.evO, Sym.evP, Sym.put, Sym.lev, Sym.aq, Sym.ae, aBin, aInt, isShift, aEqB, aEqP, aEqS, leavesEq, leafEq, aUn, Sym.rd, aLoad, aField, aFad, aNilck, asI, aIxS, aIxA, aIxV, aExt, aPick, aCvi, aCvs, aLen, aLenS, aMin2, aMax2, aFold, aFoldL, bnd, aSlStr, aSlS, fillL, newO, kill, aStore, putL, getO, cellsOf, Sym.elems, Sym.elemsS, aApp, aCpy, aClr, Sym.reps, aCall, aCallQ, finishCall, Sym.refs, Sym.refs1, Sym.refs0, okv, ok1, Sym.atom, flat0, dedup, Sym.reach, Sym.pos, Sym.sub, renO, Sym.ren, Sym.ren1, Sym.ren0, gmap, mergeOld, mergeNew, mergeO, allFresh, Sym.det, Sym.det0, Sym.canon, keepEnv, aRes, Sym.one, frzM, frz1, frz0, frzL, args0, dead0, aCallM, if_true, if_false, ite_true, ite_false, reduceIte, reduceCtorEq, Nat.reduceEqDiff, ne_eq, Nat.reduceAdd, Nat.reduceSub, Nat.reduceMul, Nat.reduceLT, Nat.reduceLeDiff, Nat.reduceBEq, Nat.reduceBNe, Nat.reduceGT, Int.reduceEq, Int.reduceLT, Int.reduceLE, Int.reduceToNat, Int.reduceAdd, Int.reduceSub, Int.reduceMul, Int.reduceNeg, Int.reduceBEq, Int.reduceBNe, e1, e2, e3, c, g1, g3, w1, w2, w3, w4, w5, f3, bytesV_set, ih]
      · simp -implicitDefEqProofs only [eqs, Sym.wants, Sym.get, Sym.ev, Sym.evs, Sym.evO, Sym.evP, Sym.put, Sym.lev, Sym.aq, Sym.ae, aBin, aInt, isShift, aEqB, aEqP, aEqS, leavesEq, leafEq, aUn, Sym.rd, aLoad, aField, aFad, aNilck, asI, aIxS, aIxA, aIxV, aExt, aPick, aCvi, aCvs, aLen, aLenS, aMin2, aMax2, aFold, aFoldL, bnd, aSlStr, aSlS, fillL, newO, kill, aStore, putL, getO, cellsOf, Sym.elems, Sym.elemsS, aApp, aCpy, aClr, Sym.reps, aCall, aCallQ, finishCall, Sym.refs, Sym.refs1, Sym.refs0, okv, ok1, Sym.atom, flat0, dedup, Sym.reach, Sym.pos, Sym.sub, renO, Sym.ren, Sym.ren1, Sym.ren0, gmap, mergeOld, mergeNew, mergeO, allFresh, Sym.det, Sym.det0, Sym.canon, keepEnv, aRes, Sym.one, frzM, frz1, frz0, frzL, args0, dead0, aCallM, if_true, if_false, ite_true, ite_false, reduceIte, reduceCtorEq, Nat.reduceEqDiff, ne_eq, Nat.reduceAdd, Nat.reduceSub, Nat.reduceMul, Nat.reduceLT, Nat.reduceLeDiff, Nat.reduceBEq, Nat.reduceBNe, Nat.reduceGT, Int.reduceEq, Int.reduceLT, Int.reduceLE, Int.reduceToNat, Int.reduceAdd, Int.reduceSub, Int.reduceMul, Int.reduceNeg, Int.reduceBEq, Int.reduceBNe, e1, e2, e3, c, g1, g2, g3, w1, w2, w3, w4, w5, f3, bytesV_set, ih]
theorem burst_a (k : Nat) (s : ByteArray) (hs : s.size ≤ 300) (at_ pat : Int) (hp : 0 ≤ pat ∧ pat ≤ 65535) : acall T (k + 9) 28 0 [.v (.string s), .v (.int .i64 at_), .v (.int .u16 pat)] [] = some ⟨.v (.string (burst s at_ pat)), [], if at_ < 0 ∨ 8 * (s.size : Int) ≤ at_ then 0 else 1⟩ := by
  rw [acall_go (body := b_crc_Burst) rfl rfl (Nat.zero_le _)]
  have m1 : IntKind.i64.wrap (8 * (s.size : Int)) = 8 * (s.size : Int) := w64 (by omega) (by omega)
  unfold burst
  by_cases c1 : at_ < 0
  · simp -implicitDefEqProofs only [eqs, Sym.wants, Sym.get, Sym.ev, Sym.evs, Sym.evO, Sym.evP, Sym.put, Sym.lev, Sym.aq, Sym.ae, aBin, aInt, isShift, aEqB, aEqP, aEqS, leavesEq, leafEq, aUn, Sym.rd, aLoad, aField, aFad, aNilck, asI, aIxS, aIxA, aIxV, aExt, aPick, aCvi, aCvs, aLen, aLenS, aMin2, aMax2, aFold, aFoldL, bnd, aSlStr, aSlS, fillL, newO, kill, aStore, putL, getO, cellsOf, Sym.elems, Sym.elemsS, aApp, aCpy, aClr, Sym.reps, aCall, aCallQ, finishCall, Sym.refs, Sym.refs1, Sym.refs0, okv, ok1, Sym.atom, flat0, dedup, Sym.reach, Sym.pos, Sym.sub, renO, Sym.ren, Sym.ren1, Sym.ren0, gmap, mergeOld, mergeNew, mergeO, allFresh, Sym.det, Sym.det0, Sym.canon, keepEnv, aRes, Sym.one, frzM, frz1, frz0, frzL, args0, dead0, aCallM, if_true, if_false, ite_true, ite_false, reduceIte, reduceCtorEq, Nat.reduceEqDiff, ne_eq, Nat.reduceAdd, Nat.reduceSub, Nat.reduceMul, Nat.reduceLT, Nat.reduceLeDiff, Nat.reduceBEq, Nat.reduceBNe, Nat.reduceGT, Int.reduceEq, Int.reduceLT, Int.reduceLE, Int.reduceToNat, Int.reduceAdd, Int.reduceSub, Int.reduceMul, Int.reduceNeg, Int.reduceBEq, Int.reduceBNe, b_crc_Burst, c1, true_or]
  · by_cases c2 : 8 * (s.size : Int) ≤ at_
    · simp -implicitDefEqProofs only [eqs, Sym.wants, Sym.get, Sym.ev, Sym.evs, Sym.evO, Sym.evP, Sym.put, Sym.lev, Sym.aq, Sym.ae, aBin, aInt, isShift, aEqB, aEqP, aEqS, leavesEq, leafEq, aUn, Sym.rd, aLoad, aField, aFad, aNilck, asI, aIxS, aIxA, aIxV, aExt, aPick, aCvi, aCvs, aLen, aLenS, aMin2, aMax2, aFold, aFoldL, bnd, aSlStr, aSlS, fillL, newO, kill, aStore, putL, getO, cellsOf, Sym.elems, Sym.elemsS, aApp, aCpy, aClr, Sym.reps, aCall, aCallQ, finishCall, Sym.refs, Sym.refs1, Sym.refs0, okv, ok1, Sym.atom, flat0, dedup, Sym.reach, Sym.pos, Sym.sub, renO, Sym.ren, Sym.ren1, Sym.ren0, gmap, mergeOld, mergeNew, mergeO, allFresh, Sym.det, Sym.det0, Sym.canon, keepEnv, aRes, Sym.one, frzM, frz1, frz0, frzL, args0, dead0, aCallM, if_true, if_false, ite_true, ite_false, reduceIte, reduceCtorEq, Nat.reduceEqDiff, ne_eq, Nat.reduceAdd, Nat.reduceSub, Nat.reduceMul, Nat.reduceLT, Nat.reduceLeDiff, Nat.reduceBEq, Nat.reduceBNe, Nat.reduceGT, Int.reduceEq, Int.reduceLT, Int.reduceLE, Int.reduceToNat, Int.reduceAdd, Int.reduceSub, Int.reduceMul, Int.reduceNeg, Int.reduceBEq, Int.reduceBNe, b_crc_Burst, c1, c2, m1, or_true]
    · obtain ⟨a, rfl⟩ : ∃ a : Nat, at_ = a := ⟨at_.toNat, by omega⟩
      have e0 : IntKind.u32.wrap pat = pat := wu32 (by omega) (by omega)
      have e1 : (a : Int).tmod 8 = ((a % 8 : Nat) : Int) := by rw [tmod_nn (by omega)]; omega
      have e2 : IntKind.i64.wrap (8 - ((a % 8 : Nat) : Int)) = ((8 - a % 8 : Nat) : Int) := by rw [w64 (by omega) (by omega)]; omega
      have e3 : ¬ ((8 - a % 8 : Nat) : Int) < 0 := by omega
      have e4 : (a : Int).tdiv 8 = ((a / 8 : Nat) : Int) := by rw [tdiv_nn (by omega)]; omega
      have e5 : IntKind.i64.wrap ((a / 8 : Nat) : Int) = ((a / 8 : Nat) : Int) := w64 (by omega) (by omega)
      have hl := burst_loop (acall T (k + 8)) (k + 8) a (a / 8) s.size (wide pat (a % 8)) rfl (by omega) (by omega) (min (a / 8 + 3) s.size - a / 8) (k + 7) (a / 8) 0 (numsOf s) rfl (by omega) (by omega) (numsOf_len s) (by omega)
      have lp : ∀ (ks : List It) (st : St), Lp (acall T (k + 8)) (k + 8) [1, 7, 8, 9] l_crc_Burst_0 (k + 8) ks st = Lh (acall T (k + 8)) (k + 8) (canon [1, 7, 8, 9] st) [1, 7, 8, 9] l_crc_Burst_0 (k + 7) ks := fun ks st => lp_succ (n := k + 7)
      rw [Int.toNat_natCast]
      simp only [wide] at hl ⊢
      simp -implicitDefEqProofs only [eqs, Sym.wants, Sym.get, Sym.ev, Sym.evs, Sym.evO, Sym.evP, Sym.put, Sym.lev, Sym.aq, Sym.ae, aBin, aInt, isShift, aEqB, aEqP, aEqS, leavesEq, leafEq, aUn, Sym.rd, aLoad, aField, aFad, aNilck, asI, aIxS, aIxA, aIxV, aExt, aPick, aCvi, aCvs, aLen, aLenS, aMin2, aMax2, aFold, aFoldL, bnd, aSlStr, aSlS, fillL, newO, kill, aStore, putL, getO, cellsOf, Sym.elems, Sym.elemsS, aApp, aCpy, aClr, Sym.reps, aCall, aCallQ, finishCall, Sym.refs, Sym.refs1, Sym.refs0, okv, ok1, Sym.atom, flat0, dedup, Sym.reach, Sym.pos, Sym.sub, renO, Sym.ren, Sym.ren1, Sym.ren0, gmap, mergeOld, mergeNew, mergeO, allFresh, Sym.det, Sym.det0, Sym.canon, keepEnv, aRes, Sym.one, frzM, frz1, frz0, frzL, args0, dead0, aCallM, if_true, if_false, ite_true, ite_false, reduceIte, reduceCtorEq, Nat.reduceEqDiff, ne_eq, Nat.reduceAdd, Nat.reduceSub, Nat.reduceMul, Nat.reduceLT, Nat.reduceLeDiff, Nat.reduceBEq, Nat.reduceBNe, Nat.reduceGT, Int.reduceEq, Int.reduceLT, Int.reduceLE, Int.reduceToNat, Int.reduceAdd, Int.reduceSub, Int.reduceMul, Int.reduceNeg, Int.reduceBEq, Int.reduceBNe, b_crc_Burst, c1, c2, m1, or_self, e0, e1, e2, e3, e4, e5, hl, lp]
theorem burst_size (s : ByteArray) (at_ pat : Int) : (burst s at_ pat).size = s.size := by
  unfold burst
  split
  · rfl
  · have : ∀ l : List Int, (strOfNums l).size = l.length := fun l => by simp [strOfNums, ByteArray.size]
    rw [this, bloop_len, numsOf_len]
end Go.Proofs.Ythmmgpdniijkeaa.Bus
