/- Package bus: a piece goes. -/
import Derived.Test.YthmmgpdniijkeaaBBus
namespace Go.Proofs.Ythmmgpdniijkeaa.Bus
open Go Go.Proofs.Ythmmgpdniijkeaa.Sym Go.Proofs.Ythmmgpdniijkeaa.Tab
set_option linter.unusedVariables false
set_option linter.unusedSimpArgs false
set_option maxHeartbeats 4000000
set_option maxRecDepth 20000
def Bs.del (b : Bs) (i : Nat) : Bs := ⟨b.l.eraseIdx i, b.z + 1, b.fault⟩
theorem del_len (b : Bs) {i : Nat} (h : i < b.l.length) : (b.del i).l.length = b.l.length - 1 := by
  unfold Bs.del
  rw [List.length_eraseIdx, if_pos h]
theorem all_take (b : Bs) {i : Nat} (h : i ≤ b.l.length) : b.all.take i = b.l.take i := by
  unfold Bs.all
  rw [List.take_append_of_le_length h]
/-- The last one made zero. -/
theorem del_last (b : Bs) (h : 0 < b.l.length) : putL (pcs b.all) ((b.l.length - 1) * 4) zp.c = pcs (b.del (b.l.length - 1)).all := by
  have e := pcs_putL (l := b.all) (m := [zp]) (k := b.l.length - 1) (by rw [all_len]; simp; omega)
  rw [show pcs [zp] = zp.c by simp [pcs]] at e
  rw [e, all_take b (by omega)]
  congr 1
  unfold Bs.all Bs.del
  simp only
  rw [List.length_singleton, show b.l.length - 1 + 1 = b.l.length by omega, List.drop_left, List.eraseIdx_eq_take_drop_succ, show b.l.length - 1 + 1 = b.l.length by omega, List.drop_length, List.append_nil, List.append_assoc]
  rfl
theorem del_mid (b : Bs) {i : Nat} (h : i + 1 < b.l.length) : putL (putL (pcs b.all) (i * 4) (pcs (b.l.drop (i + 1)))) ((b.l.length - 1) * 4) zp.c = pcs (b.del i).all := by
  have e := pcs_putL (l := b.all) (m := b.l.drop (i + 1)) (k := i) (by rw [all_len, List.length_drop]; omega)
  rw [e, all_take b (by omega)]
  have hk : i + (b.l.drop (i + 1)).length = b.l.length - 1 := by rw [List.length_drop]; omega
  rw [hk]
  have ht : (b.l.take i ++ b.l.drop (i + 1)).length = b.l.length - 1 := by rw [List.length_append, List.length_take, List.length_drop]; omega
  have e2 := pcs_putL (l := b.l.take i ++ b.l.drop (i + 1) ++ b.all.drop (b.l.length - 1)) (m := [zp]) (k := b.l.length - 1) (by rw [List.length_append, ht, List.length_drop, all_len]; simp; omega)
  rw [show pcs [zp] = zp.c by simp [pcs]] at e2
  rw [e2]
  congr 1
  have hA : (b.del i).all = (b.l.take i ++ b.l.drop (i + 1)) ++ [zp] ++ b.all.drop b.l.length := by
    unfold Bs.all Bs.del
    simp only
    rw [List.drop_left, List.eraseIdx_eq_take_drop_succ, List.append_assoc (_ ++ _)]
    rfl
  rw [hA]
  generalize b.l.take i ++ b.l.drop (i + 1) = A at ht ⊢
  rw [List.take_append_of_le_length (by omega), List.take_of_length_le (by omega), List.length_singleton, List.drop_append, List.drop_of_length_le (by omega), ht, List.nil_append, List.drop_drop, show b.l.length - 1 + (b.l.length - 1 + 1 - (b.l.length - 1)) = b.l.length by omega]
theorem delete_a (k : Nat) (b : Bs) (i : Nat) (hi : i < b.l.length) (hl : b.l.length ≤ 100) : acall T (k + 1) 25 1 [.view 0 0 b.l.length 4 none, .v (.int .i64 i), .v (.int .i64 ((i : Int) + 1))] [⟨true, false, true, pcs b.all⟩] = some ⟨.view 0 0 (b.l.length - 1) 4 none, [⟨true, false, true, pcs (b.del i).all⟩], 2⟩ := by
  rw [acall_go (body := b_api_Piece) rfl rfl (Nat.le_refl 1)]
  have f1 : (0 : Int) ≤ (i : Int) + 1 := by omega
  have f2 : ((i : Int) + 1).toNat = i + 1 := by omega
  have f3 : i ≤ i + 1 := by omega
  have f4 : i + 1 ≤ b.l.length := by omega
  have f5 : ((i : Int) == (i : Int) + 1) = false := by rw [beq_eq_false_iff_ne]; omega
  have f6 : i ≤ b.l.length := by omega
  have f7 : (i + 1) * 4 + (b.l.length - (i + 1)) * 4 ≤ b.all.length * 4 := by rw [all_len]; omega
  have f8 : b.l.length - 1 ≤ b.l.length := by omega
  have f9 : ¬ b.l.length ≤ b.l.length - 1 := by omega
  have f10 : b.l.length * 4 ≤ b.all.length * 4 := by rw [all_len]; omega
  have f11 : b.l.length - (b.l.length - 1) = 1 := by omega
  have f12 : (b.l.length - 1) * 4 + 4 ≤ b.all.length * 4 := by rw [all_len]; omega
  have f13 : i * 4 ≤ b.all.length * 4 := by rw [all_len]; omega
  have f14 : i + (b.l.length - (i + 1)) = b.l.length - 1 := by omega
  have f15 : (b.l.length - 1) * 32 ≤ 140737488355328 := by omega
  have f16 : b.l.length - 1 ≤ 9223372036854775807 := by omega
  have f17 : (b.l.length - 1) * 4 ≤ b.all.length * 4 := by rw [all_len]; omega
  have g1 : ((pcs b.all).drop ((i + 1) * 4)).take ((b.l.length - (i + 1)) * 4) = pcs (b.l.drop (i + 1)) := by
    rw [pcs_drop, pcs_take]
    unfold Bs.all
    rw [List.drop_append_of_le_length (by omega), List.take_append_of_le_length (by rw [List.length_drop]; exact Nat.le_refl _), List.take_of_length_le (by rw [List.length_drop]; exact Nat.le_refl _)]
  by_cases c : b.l.length - (i + 1) = 0
  · have hi' : b.l.length - 1 = i := by omega
    have g2 := del_last b (by omega)
    have f7' : (i + 1) * 4 ≤ b.all.length * 4 := by rw [all_len]; omega
    have f11' : b.l.length - i = 1 := by omega
    have f12' : i * 4 + 4 ≤ b.all.length * 4 := by rw [all_len]; omega
    have f9' : ¬ b.l.length ≤ i := by omega
    rw [hi'] at g2 ⊢
    simp only [zp, Pc.c] at g2
    simp only [putL] at g2
    simp -implicitDefEqProofs only [eqs, Sym.wants, Sym.get, Sym.ev, Sym.evs, Sym.evO, Sym.evP, Sym.put, Sym.lev, Sym.aq, Sym.ae, aBin, aInt, isShift, aEqB, aEqP, aEqS, leavesEq, leafEq, aUn, Sym.rd, aLoad, aField, aFad, aNilck, asI, aIxS, aIxA, aIxV, aExt, aPick, aCvi, aCvs, aLen, aLenS, aMin2, aMax2, aFold, aFoldL, bnd, aSlStr, aSlS, fillL, newO, kill, aStore, putL, getO, cellsOf, Sym.elems, Sym.elemsS, aApp, aCpy, aClr, Sym.reps, aCall, aCallQ, finishCall, Sym.refs, Sym.refs1, Sym.refs0, okv, ok1, Sym.atom, flat0, dedup, Sym.reach, Sym.pos, Sym.sub, renO, Sym.ren, Sym.ren1, Sym.ren0, gmap, mergeOld, mergeNew, mergeO, allFresh, Sym.det, Sym.det0, Sym.canon, keepEnv, aRes, Sym.one, frzM, frz1, frz0, frzL, args0, dead0, lh_some, aCallM, if_true, if_false, ite_true, ite_false, reduceIte, reduceCtorEq, Nat.reduceEqDiff, ne_eq, Nat.reduceAdd, Nat.reduceSub, Nat.reduceMul, Nat.reduceLT, Nat.reduceLeDiff, Nat.reduceBEq, Nat.reduceBNe, Nat.reduceGT, Int.reduceEq, Int.reduceLT, Int.reduceLE, Int.reduceToNat, Int.reduceAdd, Int.reduceSub, Int.reduceMul, Int.reduceNeg, Int.reduceBEq, Int.reduceBNe, b_api_Piece, f1, f2, f3, f4, f5, f6, f7, f7', f8, f9, f9', f10, f11, f11', f12, f12', f13, g1, c, g2, putL_length, pcs_len, pcs_flat, pcs_atom]
    done
  · have g2 := del_mid b (i := i) (by omega)
    simp only [zp, Pc.c, putL] at g2
    simp -implicitDefEqProofs only [eqs, Sym.wants, Sym.get, Sym.ev, Sym.evs, Sym.evO, Sym.evP, Sym.put, Sym.lev, Sym.aq, Sym.ae, aBin, aInt, isShift, aEqB, aEqP, aEqS, leavesEq, leafEq, aUn, Sym.rd, aLoad, aField, aFad, aNilck, asI, aIxS, aIxA, aIxV, aExt, aPick, aCvi, aCvs, aLen, aLenS, aMin2, aMax2, aFold, aFoldL, bnd, aSlStr, aSlS, fillL, newO, kill, aStore, putL, getO, cellsOf, Sym.elems, Sym.elemsS, aApp, aCpy, aClr, Sym.reps, aCall, aCallQ, finishCall, Sym.refs, Sym.refs1, Sym.refs0, okv, ok1, Sym.atom, flat0, dedup, Sym.reach, Sym.pos, Sym.sub, renO, Sym.ren, Sym.ren1, Sym.ren0, gmap, mergeOld, mergeNew, mergeO, allFresh, Sym.det, Sym.det0, Sym.canon, keepEnv, aRes, Sym.one, frzM, frz1, frz0, frzL, args0, dead0, lh_some, aCallM, if_true, if_false, ite_true, ite_false, reduceIte, reduceCtorEq, Nat.reduceEqDiff, ne_eq, Nat.reduceAdd, Nat.reduceSub, Nat.reduceMul, Nat.reduceLT, Nat.reduceLeDiff, Nat.reduceBEq, Nat.reduceBNe, Nat.reduceGT, Int.reduceEq, Int.reduceLT, Int.reduceLE, Int.reduceToNat, Int.reduceAdd, Int.reduceSub, Int.reduceMul, Int.reduceNeg, Int.reduceBEq, Int.reduceBNe, b_api_Piece, f1, f2, f3, f4, f5, f6, f7, f8, f9, f10, f11, f12, f13, f14, f15, f16, f17, g1, c, g2, putL_length, pcs_len, pcs_flat, pcs_atom]
    done
end Go.Proofs.Ythmmgpdniijkeaa.Bus
