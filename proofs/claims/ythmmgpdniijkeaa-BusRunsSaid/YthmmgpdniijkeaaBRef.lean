/- The reference's bus. -/
import Derived.Test.YthmmgpdniijkeaaBOps3
import Derived.Test.YthmmgpdniijkeaaBMem2
import Derived.Test.YthmmgpdniijkeaaBBB
namespace Go.Proofs.Ythmmgpdniijkeaa.Bus
open Go Go.Proofs.Ythmmgpdniijkeaa.Sym Go.Proofs.Ythmmgpdniijkeaa.Tab
set_option linter.unusedVariables false
set_option linter.unusedSimpArgs false
set_option maxHeartbeats 4000000
set_option maxRecDepth 20000
/-- Without pieces. -/
def rob0 (fl f fr : Bool) : List Sym.Obj := [⟨true, fr, fl, [.v (.slice none 0 0), .v (.bool f)]⟩]
def rob (fl : Bool) (l : List Pc) (f fr : Bool) : List Sym.Obj := match l with
  | [] => rob0 fl f fr
  | p :: r => (⟨p :: r, 0, f⟩ : Bs).ob fr
/-- What was kept, up to a place. -/
def kept (l : List Pc) (i j : Nat) : List Pc := (l.take j).eraseIdx i
theorem kept_same {l : List Pc} {j : Nat} (h : j < l.length) : kept l j (j + 1) = kept l j j := by
  unfold kept
  rw [← List.take_append_getElem h, List.eraseIdx_append_of_length_le (by rw [List.length_take]; omega)]
  rw [List.length_take, Nat.min_eq_left (by omega), Nat.sub_self, List.eraseIdx_of_length_le (l := l.take j) (by rw [List.length_take]; omega)]
  simp
theorem kept_more {l : List Pc} {i j : Nat} (h : j < l.length) (hij : j ≠ i) : kept l i (j + 1) = kept l i j ++ [l[j]] := by
  unfold kept
  rw [← List.take_append_getElem h]
  by_cases c : j < i
  · rw [List.eraseIdx_of_length_le (by simp; omega), List.eraseIdx_of_length_le (by rw [List.length_take]; omega)]
  · rw [List.eraseIdx_append_of_lt_length (by rw [List.length_take]; omega)]
theorem kept_all (l : List Pc) (i : Nat) : kept l i l.length = l.eraseIdx i := by unfold kept; rw [List.take_length]
def accV (A : List Pc) : AV := match A with
  | [] => .v (.slice none 0 0)
  | p :: r => .view 1 0 (p :: r).length 4 none
def accO (l A : List Pc) (f : Bool) : List Sym.Obj := match A with
  | [] => [⟨true, false, false, [.view 1 0 l.length 4 none, .v (.bool f)]⟩, ⟨true, false, true, pcs l⟩]
  | p :: r => [⟨true, false, false, [.view 2 0 l.length 4 none, .v (.bool f)]⟩, ⟨true, true, true, pcs (p :: r)⟩, ⟨true, false, true, pcs l⟩]
theorem pcs_takeL {l : List Pc} : (pcs l).take (l.length * 4) = pcs l := by rw [← pcs_len, List.take_length]
theorem wo_loop (C : CT) (lf : Nat) (l : List Pc) (hl : l.length ≤ 100) (f : Bool) (i : Int) : ∀ (m N j d : Nat) (A : List Pc), j + m = l.length → m ≤ N → A.length ≤ j → (0 ≤ i → kept l i.toNat j = A) → 0 ≤ i →
    FnR [] false true (Lh C lf (some ⟨[(0, .ptr 0 0), (1, .v (.int .i64 i)), (4, accV A), (5, .v (.int .i64 j))], accO l A f, d, [0]⟩) [0, 1, 4, 5] l_fuglemanref09_Bus_without_0 N [.b 0, .c l_fuglemanref09_Bus_without_1]) = some ⟨.tup [], rob false (l.eraseIdx i.toNat) f false, 2⟩
  | m, N, j, d, A, hm, hN, hA, hk, hi => by
    rw [lh_as l_fuglemanref09_Bus_without_0.eq_1]
    cases m with
    | zero =>
      obtain rfl : j = l.length := by omega
      have c : ¬ (l.length : Int) < l.length := by omega
      rw [← kept_all, hk hi]
      cases A with
      | nil => simp -implicitDefEqProofs only [eqs, Sym.wants, Sym.get, Sym.ev, Sym.evs, Sym.evO, Sym.evP, Sym.put, Sym.lev, Sym.aq, Sym.ae, aBin, aInt, isShift, aEqB, aEqP, aEqS, leavesEq, leafEq, aUn, Sym.rd, aLoad, aField, aFad, aNilck, asI, aIxS, aIxA, aIxV, aExt, aPick, aCvi, aCvs, aLen, aLenS, aMin2, aMax2, aFold, aFoldL, bnd, aSlStr, aSlS, fillL, newO, kill, aStore, putL, getO, cellsOf, Sym.elems, Sym.elemsS, aApp, aCpy, aClr, Sym.reps, aCall, aCallQ, finishCall, Sym.refs, Sym.refs1, Sym.refs0, okv, ok1, Sym.atom, flat0, dedup, Sym.reach, Sym.pos, Sym.sub, renO, Sym.ren, Sym.ren1, Sym.ren0, gmap, mergeOld, mergeNew, mergeO, allFresh, Sym.det, Sym.det0, Sym.canon, keepEnv, aRes, Sym.one, frzM, frz1, frz0, frzL, args0, dead0, aCallM, if_true, if_false, ite_true, ite_false, reduceIte, reduceCtorEq, Nat.reduceEqDiff, ne_eq, Nat.reduceAdd, Nat.reduceSub, Nat.reduceMul, Nat.reduceLT, Nat.reduceLeDiff, Nat.reduceBEq, Nat.reduceBNe, Nat.reduceGT, Int.reduceEq, Int.reduceLT, Int.reduceLE, Int.reduceToNat, Int.reduceAdd, Int.reduceSub, Int.reduceMul, Int.reduceNeg, Int.reduceBEq, Int.reduceBNe, l_fuglemanref09_Bus_without_1, accV, accO, rob, rob0, c]
      | cons p r =>
        simp only [accV, accO, rob, Bs.ob, Bs.all, List.replicate_zero, List.append_nil]
        generalize p :: r = A
        simp -implicitDefEqProofs only [eqs, Sym.wants, Sym.get, Sym.ev, Sym.evs, Sym.evO, Sym.evP, Sym.put, Sym.lev, Sym.aq, Sym.ae, aBin, aInt, isShift, aEqB, aEqP, aEqS, leavesEq, leafEq, aUn, Sym.rd, aLoad, aField, aFad, aNilck, asI, aIxS, aIxA, aIxV, aExt, aPick, aCvi, aCvs, aLen, aLenS, aMin2, aMax2, aFold, aFoldL, bnd, aSlStr, aSlS, fillL, newO, kill, aStore, putL, getO, cellsOf, Sym.elems, Sym.elemsS, aApp, aCpy, aClr, Sym.reps, aCall, aCallQ, finishCall, Sym.refs, Sym.refs1, Sym.refs0, okv, ok1, Sym.atom, flat0, dedup, Sym.reach, Sym.pos, Sym.sub, renO, Sym.ren, Sym.ren1, Sym.ren0, gmap, mergeOld, mergeNew, mergeO, allFresh, Sym.det, Sym.det0, Sym.canon, keepEnv, aRes, Sym.one, frzM, frz1, frz0, frzL, args0, dead0, aCallM, if_true, if_false, ite_true, ite_false, reduceIte, reduceCtorEq, Nat.reduceEqDiff, ne_eq, Nat.reduceAdd, Nat.reduceSub, Nat.reduceMul, Nat.reduceLT, Nat.reduceLeDiff, Nat.reduceBEq, Nat.reduceBNe, Nat.reduceGT, Int.reduceEq, Int.reduceLT, Int.reduceLE, Int.reduceToNat, Int.reduceAdd, Int.reduceSub, Int.reduceMul, Int.reduceNeg, Int.reduceBEq, Int.reduceBNe, l_fuglemanref09_Bus_without_1, c]
    | succ m =>
      obtain ⟨N, rfl⟩ : ∃ n', N = n' + 1 := ⟨N - 1, by omega⟩
      have hj : j < l.length := by omega
      have c : (j : Int) < l.length := by omega
      have w5 : IntKind.i64.wrap ((j : Int) + 1) = j + 1 := w64 (by omega) (by omega)
      by_cases q : (j : Int) = i
      · have e1 : ((j : Int) != i) = false := by rw [q]; simp
        have hk' : 0 ≤ i → kept l i.toNat (j + 1) = A := fun h => by
          have : i.toNat = j := by omega
          rw [this, kept_same hj, ← hk h, this]
        have ih := fun d => wo_loop C lf l hl f i m N (j + 1) d A (by omega) (by omega) (by omega) hk' hi
        rw [Int.natCast_add, Int.natCast_one] at ih
        cases A with
        | nil =>
          simp only [accV, accO] at ih ⊢
          simp -implicitDefEqProofs only [eqs, Sym.wants, Sym.get, Sym.ev, Sym.evs, Sym.evO, Sym.evP, Sym.put, Sym.lev, Sym.aq, Sym.ae, aBin, aInt, isShift, aEqB, aEqP, aEqS, leavesEq, leafEq, aUn, Sym.rd, aLoad, aField, aFad, aNilck, asI, aIxS, aIxA, aIxV, aExt, aPick, aCvi, aCvs, aLen, aLenS, aMin2, aMax2, aFold, aFoldL, bnd, aSlStr, aSlS, fillL, newO, kill, aStore, putL, getO, cellsOf, Sym.elems, Sym.elemsS, aApp, aCpy, aClr, Sym.reps, aCall, aCallQ, finishCall, Sym.refs, Sym.refs1, Sym.refs0, okv, ok1, Sym.atom, flat0, dedup, Sym.reach, Sym.pos, Sym.sub, renO, Sym.ren, Sym.ren1, Sym.ren0, gmap, mergeOld, mergeNew, mergeO, allFresh, Sym.det, Sym.det0, Sym.canon, keepEnv, aRes, Sym.one, frzM, frz1, frz0, frzL, args0, dead0, aCallM, if_true, if_false, ite_true, ite_false, reduceIte, reduceCtorEq, Nat.reduceEqDiff, ne_eq, Nat.reduceAdd, Nat.reduceSub, Nat.reduceMul, Nat.reduceLT, Nat.reduceLeDiff, Nat.reduceBEq, Nat.reduceBNe, Nat.reduceGT, Int.reduceEq, Int.reduceLT, Int.reduceLE, Int.reduceToNat, Int.reduceAdd, Int.reduceSub, Int.reduceMul, Int.reduceNeg, Int.reduceBEq, Int.reduceBNe, c, e1, w5, ih]
        | cons p r =>
          simp only [accV, accO] at ih ⊢
          generalize p :: r = A at *
          simp -implicitDefEqProofs only [eqs, Sym.wants, Sym.get, Sym.ev, Sym.evs, Sym.evO, Sym.evP, Sym.put, Sym.lev, Sym.aq, Sym.ae, aBin, aInt, isShift, aEqB, aEqP, aEqS, leavesEq, leafEq, aUn, Sym.rd, aLoad, aField, aFad, aNilck, asI, aIxS, aIxA, aIxV, aExt, aPick, aCvi, aCvs, aLen, aLenS, aMin2, aMax2, aFold, aFoldL, bnd, aSlStr, aSlS, fillL, newO, kill, aStore, putL, getO, cellsOf, Sym.elems, Sym.elemsS, aApp, aCpy, aClr, Sym.reps, aCall, aCallQ, finishCall, Sym.refs, Sym.refs1, Sym.refs0, okv, ok1, Sym.atom, flat0, dedup, Sym.reach, Sym.pos, Sym.sub, renO, Sym.ren, Sym.ren1, Sym.ren0, gmap, mergeOld, mergeNew, mergeO, allFresh, Sym.det, Sym.det0, Sym.canon, keepEnv, aRes, Sym.one, frzM, frz1, frz0, frzL, args0, dead0, aCallM, if_true, if_false, ite_true, ite_false, reduceIte, reduceCtorEq, Nat.reduceEqDiff, ne_eq, Nat.reduceAdd, Nat.reduceSub, Nat.reduceMul, Nat.reduceLT, Nat.reduceLeDiff, Nat.reduceBEq, Nat.reduceBNe, Nat.reduceGT, Int.reduceEq, Int.reduceLT, Int.reduceLE, Int.reduceToNat, Int.reduceAdd, Int.reduceSub, Int.reduceMul, Int.reduceNeg, Int.reduceBEq, Int.reduceBNe, c, e1, w5, ih]
      · have e1 : ((j : Int) != i) = true := bne_iff_ne.2 q
        have hk' : 0 ≤ i → kept l i.toNat (j + 1) = A ++ [l[j]] := fun h => by
          rw [kept_more hj (by omega), hk h]
        have ih := fun d => wo_loop C lf l hl f i m N (j + 1) d (A ++ [l[j]]) (by omega) (by omega) (by simp; omega) hk' hi
        rw [Int.natCast_add, Int.natCast_one] at ih
        have hat := pcs_at hj
        have f2 : j * 4 + 4 ≤ l.length * 4 := by omega
        generalize l[j] = p0 at *
        cases A with
        | nil =>
          simp only [List.nil_append, accV, accO, List.length_cons, List.length_nil, pcs, List.flatMap_cons, List.flatMap_nil, List.append_nil, Pc.c] at ih
          simp only [accV, accO]
          simp only [Pc.c] at hat
          have hat' : List.take 4 (List.drop (j * 4) (List.flatMap Pc.c l)) = _ := hat
          have hlen : (List.flatMap Pc.c l).length = l.length * 4 := pcs_len
          simp -implicitDefEqProofs only [eqs, Sym.wants, Sym.get, Sym.ev, Sym.evs, Sym.evO, Sym.evP, Sym.put, Sym.lev, Sym.aq, Sym.ae, aBin, aInt, isShift, aEqB, aEqP, aEqS, leavesEq, leafEq, aUn, Sym.rd, aLoad, aField, aFad, aNilck, asI, aIxS, aIxA, aIxV, aExt, aPick, aCvi, aCvs, aLen, aLenS, aMin2, aMax2, aFold, aFoldL, bnd, aSlStr, aSlS, fillL, newO, kill, aStore, putL, getO, cellsOf, Sym.elems, Sym.elemsS, aApp, aCpy, aClr, Sym.reps, aCall, aCallQ, finishCall, Sym.refs, Sym.refs1, Sym.refs0, okv, ok1, Sym.atom, flat0, dedup, Sym.reach, Sym.pos, Sym.sub, renO, Sym.ren, Sym.ren1, Sym.ren0, gmap, mergeOld, mergeNew, mergeO, allFresh, Sym.det, Sym.det0, Sym.canon, keepEnv, aRes, Sym.one, frzM, frz1, frz0, frzL, args0, dead0, aCallM, if_true, if_false, ite_true, ite_false, reduceIte, reduceCtorEq, Nat.reduceEqDiff, ne_eq, Nat.reduceAdd, Nat.reduceSub, Nat.reduceMul, Nat.reduceLT, Nat.reduceLeDiff, Nat.reduceBEq, Nat.reduceBNe, Nat.reduceGT, Int.reduceEq, Int.reduceLT, Int.reduceLE, Int.reduceToNat, Int.reduceAdd, Int.reduceSub, Int.reduceMul, Int.reduceNeg, Int.reduceBEq, Int.reduceBNe, c, e1, w5, f2, hat, pcs_len, pcs, hat', hlen, ih]
          done
        | cons p r =>
          have ha : accV (p :: r ++ [p0]) = .view 1 0 ((p :: r).length + 1) 4 none := by simp [accV]
          have ho : accO l (p :: r ++ [p0]) f = [⟨true, false, false, [.view 2 0 l.length 4 none, .v (.bool f)]⟩, ⟨true, true, true, pcs (p :: r) ++ p0.c⟩, ⟨true, false, true, pcs l⟩] := by rw [← pcs_one]; rfl
          simp only [ha, ho, Pc.c] at ih
          simp only [accV, accO]
          simp only [Pc.c] at hat
          have hA0 : (p :: r).length ≠ 0 := by simp
          generalize p :: r = A at *
          have b1 : (A.length + 1) * 32 ≤ 140737488355328 := by omega
          have b2 : A.length ≤ 9223372036854775806 := by omega
          have b3 : ¬ ((A.length + 1) * 4 ≤ A.length * 4) := by omega
          simp -implicitDefEqProofs only [eqs, Sym.wants, Sym.get, Sym.ev, Sym.evs, Sym.evO, Sym.evP, Sym.put, Sym.lev, Sym.aq, Sym.ae, aBin, aInt, isShift, aEqB, aEqP, aEqS, leavesEq, leafEq, aUn, Sym.rd, aLoad, aField, aFad, aNilck, asI, aIxS, aIxA, aIxV, aExt, aPick, aCvi, aCvs, aLen, aLenS, aMin2, aMax2, aFold, aFoldL, bnd, aSlStr, aSlS, fillL, newO, kill, aStore, putL, getO, cellsOf, Sym.elems, Sym.elemsS, aApp, aCpy, aClr, Sym.reps, aCall, aCallQ, finishCall, Sym.refs, Sym.refs1, Sym.refs0, okv, ok1, Sym.atom, flat0, dedup, Sym.reach, Sym.pos, Sym.sub, renO, Sym.ren, Sym.ren1, Sym.ren0, gmap, mergeOld, mergeNew, mergeO, allFresh, Sym.det, Sym.det0, Sym.canon, keepEnv, aRes, Sym.one, frzM, frz1, frz0, frzL, args0, dead0, aCallM, if_true, if_false, ite_true, ite_false, reduceIte, reduceCtorEq, Nat.reduceEqDiff, ne_eq, Nat.reduceAdd, Nat.reduceSub, Nat.reduceMul, Nat.reduceLT, Nat.reduceLeDiff, Nat.reduceBEq, Nat.reduceBNe, Nat.reduceGT, Int.reduceEq, Int.reduceLT, Int.reduceLE, Int.reduceToNat, Int.reduceAdd, Int.reduceSub, Int.reduceMul, Int.reduceNeg, Int.reduceBEq, Int.reduceBNe, c, e1, w5, f2, hat, b1, b2, b3, pcs_len, pcs_takeL, pcs_flat, pcs_atom, ih]
          done
end Go.Proofs.Ythmmgpdniijkeaa.Bus
