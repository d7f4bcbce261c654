/- The functions of package blocks that parts needs. -/
import Derived.Test.YtkaigdfklihlcaaTab
import Derived.Test.YtkaigdfklihlcaaSymR
namespace Go.Proofs.Ytkaigdfklihlcaa.Blk
open Go Go.Proofs.Ytkaigdfklihlcaa.Sym Go.Proofs.Ytkaigdfklihlcaa.Tab
set_option linter.unusedVariables false
set_option linter.unusedSimpArgs false
set_option maxHeartbeats 4000000

def parts (n : Int) : Int := if n < 1 ∨ 64 < n then 0 else (n + 15) / 16
theorem parts_a (k : Nat) (n : Int) : acall T (k + 1) 26 0 [.v (.int .i64 n)] [] = some ⟨.v (.int .i64 (parts n)), [], 0⟩ := by
  rw [acall_go (body := b_blocks_Parts) rfl rfl (Nat.zero_le _)]
  unfold parts
  by_cases c1 : n < 1
  · simp -implicitDefEqProofs only [eqs, Sym.wants, Sym.get, Sym.ev, Sym.evs, Sym.evO, Sym.evP, Sym.put, Sym.lev, Sym.aq, Sym.ae, aBin, aInt, isShift, aEqB, aEqP, aEqS, leavesEq, leafEq, aUn, Sym.rd, aLoad, aField, aFad, aNilck, asI, aIxS, aIxA, aIxV, aExt, aPick, aCvi, aCvs, aLen, aLenS, aMin2, aMax2, aFold, aFoldL, bnd, aSlStr, aSlS, fillL, newO, kill, aStore, putL, getO, cellsOf, Sym.elems, Sym.elemsS, aApp, aCpy, aClr, Sym.reps, aCall, aCallQ, finishCall, Sym.refs, Sym.refs1, Sym.refs0, okv, ok1, Sym.atom, flat0, dedup, Sym.reach, Sym.pos, Sym.sub, renO, Sym.ren, Sym.ren1, Sym.ren0, gmap, mergeOld, mergeNew, mergeO, allFresh, Sym.det, Sym.det0, Sym.canon, keepEnv, aRes, Sym.one, frzM, frz1, frz0, frzL, args0, dead0, lh_some, aCallM, aopM_s, if_true, if_false, ite_true, ite_false, reduceIte, reduceCtorEq, Nat.reduceEqDiff, ne_eq, Nat.reduceAdd, Nat.reduceSub, Nat.reduceMul, Nat.reduceLT, Nat.reduceLeDiff, Nat.reduceBEq, Nat.reduceBNe, Nat.reduceGT, Int.reduceEq, Int.reduceLT, Int.reduceLE, Int.reduceToNat, Int.reduceAdd, Int.reduceSub, Int.reduceMul, Int.reduceNeg, Int.reduceBEq, Int.reduceBNe, b_blocks_Parts, c1, true_or]
  · by_cases c2 : 64 < n
    · simp -implicitDefEqProofs only [eqs, Sym.wants, Sym.get, Sym.ev, Sym.evs, Sym.evO, Sym.evP, Sym.put, Sym.lev, Sym.aq, Sym.ae, aBin, aInt, isShift, aEqB, aEqP, aEqS, leavesEq, leafEq, aUn, Sym.rd, aLoad, aField, aFad, aNilck, asI, aIxS, aIxA, aIxV, aExt, aPick, aCvi, aCvs, aLen, aLenS, aMin2, aMax2, aFold, aFoldL, bnd, aSlStr, aSlS, fillL, newO, kill, aStore, putL, getO, cellsOf, Sym.elems, Sym.elemsS, aApp, aCpy, aClr, Sym.reps, aCall, aCallQ, finishCall, Sym.refs, Sym.refs1, Sym.refs0, okv, ok1, Sym.atom, flat0, dedup, Sym.reach, Sym.pos, Sym.sub, renO, Sym.ren, Sym.ren1, Sym.ren0, gmap, mergeOld, mergeNew, mergeO, allFresh, Sym.det, Sym.det0, Sym.canon, keepEnv, aRes, Sym.one, frzM, frz1, frz0, frzL, args0, dead0, lh_some, aCallM, aopM_s, if_true, if_false, ite_true, ite_false, reduceIte, reduceCtorEq, Nat.reduceEqDiff, ne_eq, Nat.reduceAdd, Nat.reduceSub, Nat.reduceMul, Nat.reduceLT, Nat.reduceLeDiff, Nat.reduceBEq, Nat.reduceBNe, Nat.reduceGT, Int.reduceEq, Int.reduceLT, Int.reduceLE, Int.reduceToNat, Int.reduceAdd, Int.reduceSub, Int.reduceMul, Int.reduceNeg, Int.reduceBEq, Int.reduceBNe, b_blocks_Parts, c1, c2, or_true]
    · have e1 : IntKind.i64.wrap (n + 16) = n + 16 := w64 (by omega) (by omega)
      have e2 : IntKind.i64.wrap (n + 16 - 1) = n + 16 - 1 := w64 (by omega) (by omega)
      have e3 : (n + 16 - 1).tdiv 16 = (n + 15) / 16 := by rw [tdiv_nn (by omega)]; congr 1; omega
      have e4 : IntKind.i64.wrap ((n + 15) / 16) = (n + 15) / 16 := w64 (by omega) (by omega)
      simp -implicitDefEqProofs only [eqs, Sym.wants, Sym.get, Sym.ev, Sym.evs, Sym.evO, Sym.evP, Sym.put, Sym.lev, Sym.aq, Sym.ae, aBin, aInt, isShift, aEqB, aEqP, aEqS, leavesEq, leafEq, aUn, Sym.rd, aLoad, aField, aFad, aNilck, asI, aIxS, aIxA, aIxV, aExt, aPick, aCvi, aCvs, aLen, aLenS, aMin2, aMax2, aFold, aFoldL, bnd, aSlStr, aSlS, fillL, newO, kill, aStore, putL, getO, cellsOf, Sym.elems, Sym.elemsS, aApp, aCpy, aClr, Sym.reps, aCall, aCallQ, finishCall, Sym.refs, Sym.refs1, Sym.refs0, okv, ok1, Sym.atom, flat0, dedup, Sym.reach, Sym.pos, Sym.sub, renO, Sym.ren, Sym.ren1, Sym.ren0, gmap, mergeOld, mergeNew, mergeO, allFresh, Sym.det, Sym.det0, Sym.canon, keepEnv, aRes, Sym.one, frzM, frz1, frz0, frzL, args0, dead0, lh_some, aCallM, aopM_s, if_true, if_false, ite_true, ite_false, reduceIte, reduceCtorEq, Nat.reduceEqDiff, ne_eq, Nat.reduceAdd, Nat.reduceSub, Nat.reduceMul, Nat.reduceLT, Nat.reduceLeDiff, Nat.reduceBEq, Nat.reduceBNe, Nat.reduceGT, Int.reduceEq, Int.reduceLT, Int.reduceLE, Int.reduceToNat, Int.reduceAdd, Int.reduceSub, Int.reduceMul, Int.reduceNeg, Int.reduceBEq, Int.reduceBNe, b_blocks_Parts, c1, c2, or_self, e1, e2, e3, e4]
/-- Where a part begins, and its length. -/
def piece (n p : Int) : Int × Int := if p < 0 ∨ parts n ≤ p then (0, 0) else (p * 16, if n - p * 16 < 16 then n - p * 16 else 16)
theorem piece_a (k : Nat) (n p : Int) : acall T (k + 2) 40 0 [.v (.int .i64 n), .v (.int .i64 p)] [] = some ⟨.tup [.v (.int .i64 (piece n p).1), .v (.int .i64 (piece n p).2)], [], 0⟩ := by
  rw [acall_go (body := b_blocks_Piece) rfl rfl (Nat.zero_le _)]
  have h := parts_a k n
  unfold piece
  by_cases c1 : p < 0
  · simp -implicitDefEqProofs only [eqs, Sym.wants, Sym.get, Sym.ev, Sym.evs, Sym.evO, Sym.evP, Sym.put, Sym.lev, Sym.aq, Sym.ae, aBin, aInt, isShift, aEqB, aEqP, aEqS, leavesEq, leafEq, aUn, Sym.rd, aLoad, aField, aFad, aNilck, asI, aIxS, aIxA, aIxV, aExt, aPick, aCvi, aCvs, aLen, aLenS, aMin2, aMax2, aFold, aFoldL, bnd, aSlStr, aSlS, fillL, newO, kill, aStore, putL, getO, cellsOf, Sym.elems, Sym.elemsS, aApp, aCpy, aClr, Sym.reps, aCall, aCallQ, finishCall, Sym.refs, Sym.refs1, Sym.refs0, okv, ok1, Sym.atom, flat0, dedup, Sym.reach, Sym.pos, Sym.sub, renO, Sym.ren, Sym.ren1, Sym.ren0, gmap, mergeOld, mergeNew, mergeO, allFresh, Sym.det, Sym.det0, Sym.canon, keepEnv, aRes, Sym.one, frzM, frz1, frz0, frzL, args0, dead0, lh_some, aCallM, aopM_s, if_true, if_false, ite_true, ite_false, reduceIte, reduceCtorEq, Nat.reduceEqDiff, ne_eq, Nat.reduceAdd, Nat.reduceSub, Nat.reduceMul, Nat.reduceLT, Nat.reduceLeDiff, Nat.reduceBEq, Nat.reduceBNe, Nat.reduceGT, Int.reduceEq, Int.reduceLT, Int.reduceLE, Int.reduceToNat, Int.reduceAdd, Int.reduceSub, Int.reduceMul, Int.reduceNeg, Int.reduceBEq, Int.reduceBNe, b_blocks_Piece, c1, true_or]
  · by_cases c2 : parts n ≤ p
    · simp -implicitDefEqProofs only [eqs, Sym.wants, Sym.get, Sym.ev, Sym.evs, Sym.evO, Sym.evP, Sym.put, Sym.lev, Sym.aq, Sym.ae, aBin, aInt, isShift, aEqB, aEqP, aEqS, leavesEq, leafEq, aUn, Sym.rd, aLoad, aField, aFad, aNilck, asI, aIxS, aIxA, aIxV, aExt, aPick, aCvi, aCvs, aLen, aLenS, aMin2, aMax2, aFold, aFoldL, bnd, aSlStr, aSlS, fillL, newO, kill, aStore, putL, getO, cellsOf, Sym.elems, Sym.elemsS, aApp, aCpy, aClr, Sym.reps, aCall, aCallQ, finishCall, Sym.refs, Sym.refs1, Sym.refs0, okv, ok1, Sym.atom, flat0, dedup, Sym.reach, Sym.pos, Sym.sub, renO, Sym.ren, Sym.ren1, Sym.ren0, gmap, mergeOld, mergeNew, mergeO, allFresh, Sym.det, Sym.det0, Sym.canon, keepEnv, aRes, Sym.one, frzM, frz1, frz0, frzL, args0, dead0, lh_some, aCallM, aopM_s, if_true, if_false, ite_true, ite_false, reduceIte, reduceCtorEq, Nat.reduceEqDiff, ne_eq, Nat.reduceAdd, Nat.reduceSub, Nat.reduceMul, Nat.reduceLT, Nat.reduceLeDiff, Nat.reduceBEq, Nat.reduceBNe, Nat.reduceGT, Int.reduceEq, Int.reduceLT, Int.reduceLE, Int.reduceToNat, Int.reduceAdd, Int.reduceSub, Int.reduceMul, Int.reduceNeg, Int.reduceBEq, Int.reduceBNe, b_blocks_Piece, c1, c2, or_true, h]
    · have hp : parts n ≤ 4 := by unfold parts; split <;> omega
      have hn : 1 ≤ n ∧ n ≤ 64 := by unfold parts at c2; split at c2 <;> omega
      have e1 : IntKind.i64.wrap (p * 16) = p * 16 := w64 (by omega) (by omega)
      have e2 : IntKind.i64.wrap (n - p * 16) = n - p * 16 := w64 (by omega) (by omega)
      simp -implicitDefEqProofs only [eqs, Sym.wants, Sym.get, Sym.ev, Sym.evs, Sym.evO, Sym.evP, Sym.put, Sym.lev, Sym.aq, Sym.ae, aBin, aInt, isShift, aEqB, aEqP, aEqS, leavesEq, leafEq, aUn, Sym.rd, aLoad, aField, aFad, aNilck, asI, aIxS, aIxA, aIxV, aExt, aPick, aCvi, aCvs, aLen, aLenS, aMin2, aMax2, aFold, aFoldL, bnd, aSlStr, aSlS, fillL, newO, kill, aStore, putL, getO, cellsOf, Sym.elems, Sym.elemsS, aApp, aCpy, aClr, Sym.reps, aCall, aCallQ, finishCall, Sym.refs, Sym.refs1, Sym.refs0, okv, ok1, Sym.atom, flat0, dedup, Sym.reach, Sym.pos, Sym.sub, renO, Sym.ren, Sym.ren1, Sym.ren0, gmap, mergeOld, mergeNew, mergeO, allFresh, Sym.det, Sym.det0, Sym.canon, keepEnv, aRes, Sym.one, frzM, frz1, frz0, frzL, args0, dead0, lh_some, aCallM, aopM_s, if_true, if_false, ite_true, ite_false, reduceIte, reduceCtorEq, Nat.reduceEqDiff, ne_eq, Nat.reduceAdd, Nat.reduceSub, Nat.reduceMul, Nat.reduceLT, Nat.reduceLeDiff, Nat.reduceBEq, Nat.reduceBNe, Nat.reduceGT, Int.reduceEq, Int.reduceLT, Int.reduceLE, Int.reduceToNat, Int.reduceAdd, Int.reduceSub, Int.reduceMul, Int.reduceNeg, Int.reduceBEq, Int.reduceBNe, b_blocks_Piece, c1, c2, or_self, e1, e2, h]
theorem parts_le (n : Int) : 0 ≤ parts n ∧ parts n ≤ 4 := by unfold parts; split <;> omega
theorem piece_in (n p : Int) (hn : 0 ≤ n) : 0 ≤ (piece n p).1 ∧ 0 ≤ (piece n p).2 ∧ (piece n p).2 ≤ 16 ∧ (piece n p).1 + (piece n p).2 ≤ n ∧ (piece n p).1 ≤ 64 := by
  unfold piece
  by_cases c1 : p < 0 ∨ parts n ≤ p
  · rw [if_pos c1]; exact ⟨by decide, by decide, by decide, hn, by decide⟩
  · rw [if_neg c1]
    have h2 : 1 ≤ n ∧ n ≤ 64 ∧ parts n = (n + 15) / 16 := by
      unfold parts at c1 ⊢
      by_cases h : n < 1 ∨ 64 < n
      · rw [if_pos h] at c1; omega
      · rw [if_neg h]; omega
    have h3 : p * 16 < n := by omega
    show 0 ≤ p * 16 ∧ 0 ≤ (if n - p * 16 < 16 then n - p * 16 else 16) ∧ _
    split <;> omega
theorem cut_a (k : Nat) (s : ByteArray) (hs : s.size ≤ 140737488355328) (p : Int) : acall T (k + 3) 30 0 [.v (.string s), .v (.int .i64 p)] [] = some ⟨.v (.string (s.extract (piece s.size p).1.toNat ((piece s.size p).1 + (piece s.size p).2).toNat)), [], 0⟩ := by
  rw [acall_go (body := b_blocks_Cut) rfl rfl (Nat.zero_le _)]
  have h := piece_a k s.size p
  obtain ⟨h1, h2, h3, h4, h5⟩ := piece_in s.size p (by omega)
  have e1 : IntKind.i64.wrap ((piece s.size p).1 + (piece s.size p).2) = (piece s.size p).1 + (piece s.size p).2 := w64 (by omega) (by omega)
  have e2 : 0 ≤ (piece s.size p).1 + (piece s.size p).2 := by omega
  have e3 : (piece s.size p).1.toNat ≤ ((piece s.size p).1 + (piece s.size p).2).toNat := by omega
  have e4 : ((piece s.size p).1 + (piece s.size p).2).toNat ≤ s.size := by omega
  generalize piece s.size p = q at *
  simp -implicitDefEqProofs only [eqs, Sym.wants, Sym.get, Sym.ev, Sym.evs, Sym.evO, Sym.evP, Sym.put, Sym.lev, Sym.aq, Sym.ae, aBin, aInt, isShift, aEqB, aEqP, aEqS, leavesEq, leafEq, aUn, Sym.rd, aLoad, aField, aFad, aNilck, asI, aIxS, aIxA, aIxV, aExt, aPick, aCvi, aCvs, aLen, aLenS, aMin2, aMax2, aFold, aFoldL, bnd, aSlStr, aSlS, fillL, newO, kill, aStore, putL, getO, cellsOf, Sym.elems, Sym.elemsS, aApp, aCpy, aClr, Sym.reps, aCall, aCallQ, finishCall, Sym.refs, Sym.refs1, Sym.refs0, okv, ok1, Sym.atom, flat0, dedup, Sym.reach, Sym.pos, Sym.sub, renO, Sym.ren, Sym.ren1, Sym.ren0, gmap, mergeOld, mergeNew, mergeO, allFresh, Sym.det, Sym.det0, Sym.canon, keepEnv, aRes, Sym.one, frzM, frz1, frz0, frzL, args0, dead0, lh_some, aCallM, aopM_s, if_true, if_false, ite_true, ite_false, reduceIte, reduceCtorEq, Nat.reduceEqDiff, ne_eq, Nat.reduceAdd, Nat.reduceSub, Nat.reduceMul, Nat.reduceLT, Nat.reduceLeDiff, Nat.reduceBEq, Nat.reduceBNe, Nat.reduceGT, Int.reduceEq, Int.reduceLT, Int.reduceLE, Int.reduceToNat, Int.reduceAdd, Int.reduceSub, Int.reduceMul, Int.reduceNeg, Int.reduceBEq, Int.reduceBNe, b_blocks_Cut, h, e1, e2, e3, e4, h1]
end Go.Proofs.Ytkaigdfklihlcaa.Blk
