/- The reference's cutting of a value. -/
import Derived.Test.YtkaigdfklihlcaaBlk
namespace Go.Proofs.Ytkaigdfklihlcaa.Refs
open Go Go.Proofs.Ytkaigdfklihlcaa.Sym Go.Proofs.Ytkaigdfklihlcaa.Tab Go.Proofs.Ytkaigdfklihlcaa.Blk
set_option linter.unusedVariables false
set_option linter.unusedSimpArgs false
set_option maxHeartbeats 4000000
def strs (l : List ByteArray) : List AV := l.map fun s => .v (.string s)
theorem strs_len {l : List ByteArray} : (strs l).length = l.length := List.length_map ..
theorem strs_flat {l : List ByteArray} : (strs l).all flat0 = true := by simp [strs, flat0]
theorem strs_atom {l : List ByteArray} : (strs l).all atom = true := by simp [strs, atom]
theorem strs_snoc {l : List ByteArray} {s : ByteArray} : strs l ++ [.v (.string s)] = strs (l ++ [s]) := by simp [strs]
theorem strs_take {l : List ByteArray} : (strs l).take l.length = strs l := by rw [← strs_len, List.take_length]
/-- Cut off one by one; so many times at most. -/
def chop : Nat → ByteArray → List ByteArray
  | 0, s => if s = ByteArray.empty then [] else [s]
  | n + 1, s => if 16 < s.size then s.extract 0 16 :: chop n (s.extract 16 s.size) else if s = ByteArray.empty then [] else [s]
theorem emp : (⟨#[]⟩ : ByteArray) = ByteArray.empty := rfl
theorem rest_size (s : ByteArray) : (s.extract 16 s.size).size = s.size - 16 := by simp
theorem chop_eq : ∀ (n m : Nat) (s : ByteArray), s.size ≤ 16 * (n + 1) → s.size ≤ 16 * (m + 1) → chop n s = chop m s
  | n, m, s, h1, h2 => by
    by_cases c : 16 < s.size
    · cases n with
      | zero => omega
      | succ n =>
        cases m with
        | zero => omega
        | succ m =>
          rw [chop, chop, if_pos c, if_pos c, chop_eq n m _ (by rw [rest_size]; omega) (by rw [rest_size]; omega)]
    · cases n <;> cases m <;> simp [chop, c]
/-- All cuts. -/
def cuts (s : ByteArray) : List ByteArray := chop s.size s
theorem cuts_eq (s : ByteArray) : cuts s = if 16 < s.size then s.extract 0 16 :: cuts (s.extract 16 s.size) else if s = ByteArray.empty then [] else [s] := by
  by_cases c : 16 < s.size
  · rw [if_pos c]
    unfold cuts
    rw [chop_eq s.size ((s.extract 16 s.size).size + 1) s (by omega) (by rw [rest_size]; omega), chop, if_pos c]
  · rw [if_neg c]
    unfold cuts
    cases s.size <;> simp [chop, c]
theorem strs_take' {l : List ByteArray} {s : ByteArray} : (strs (l ++ [s])).take (l.length + 1) = strs (l ++ [s]) := by
  have := strs_take (l := l ++ [s])
  rwa [List.length_append, List.length_singleton] at this
theorem len_snoc {l : List ByteArray} {s : ByteArray} : (l ++ [s]).length = l.length + 1 := by simp
theorem all_loop (C : CT) (lf : Nat) : ∀ (n : Nat) (s : ByteArray) (l : List ByteArray), s.size ≤ 16 * (n + 1) → 16 * l.length + s.size ≤ 16000 →
    FnR [.t 2] true false (Lh C lf (some ⟨[(0, .v (.string s)), (3, .view 0 0 l.length 1 none)], [⟨true, true, true, strs l⟩], 1, []⟩) [0, 3] l_fuglemanref16_All_0 n [.b 0, .c l_fuglemanref16_All_1]) = some ⟨.shr (l ++ cuts s).length false (strs (l ++ cuts s)), [], 1⟩
  | n, s, l, hs, hl => by
    rw [lh_as l_fuglemanref16_All_0.eq_1]
    have b1 : (l.length + 1) * 16 ≤ 140737488355328 := by omega
    have b2 : l.length ≤ 9223372036854775806 := by omega
    have b3 : ¬ (l.length + 1 ≤ l.length) := by omega
    by_cases c : 16 < s.size
    · have c' : (16 : Int) < s.size := by omega
      have c2 : 16 ≤ s.size := by omega
      cases n with
      | zero => omega
      | succ n =>
        have ih := all_loop C lf n (s.extract 16 s.size) (l ++ [s.extract 0 16]) (by rw [rest_size]; omega) (by rw [rest_size]; simp; omega)
        have e : cuts s = s.extract 0 16 :: cuts (s.extract 16 s.size) := by rw [cuts_eq, if_pos c]
        rw [List.length_append, List.length_singleton, List.append_assoc, List.singleton_append] at ih
        simp -implicitDefEqProofs only [eqs, Sym.wants, Sym.get, Sym.ev, Sym.evs, Sym.evO, Sym.evP, Sym.put, Sym.lev, Sym.aq, Sym.ae, aBin, aInt, isShift, aEqB, aEqP, aEqS, leavesEq, leafEq, aUn, Sym.rd, aLoad, aField, aFad, aNilck, asI, aIxS, aIxA, aIxV, aExt, aPick, aCvi, aCvs, aLen, aLenS, aMin2, aMax2, aFold, aFoldL, bnd, aSlStr, aSlS, fillL, newO, kill, aStore, putL, getO, cellsOf, Sym.elems, Sym.elemsS, aApp, aCpy, aClr, Sym.reps, aCall, aCallQ, finishCall, Sym.refs, Sym.refs1, Sym.refs0, okv, ok1, Sym.atom, flat0, dedup, Sym.reach, Sym.pos, Sym.sub, renO, Sym.ren, Sym.ren1, Sym.ren0, gmap, mergeOld, mergeNew, mergeO, allFresh, Sym.det, Sym.det0, Sym.canon, keepEnv, aRes, Sym.one, frzM, frz1, frz0, frzL, args0, dead0, aCallM, aopM_s, if_true, if_false, ite_true, ite_false, reduceIte, reduceCtorEq, Nat.reduceEqDiff, ne_eq, Nat.reduceAdd, Nat.reduceSub, Nat.reduceMul, Nat.reduceLT, Nat.reduceLeDiff, Nat.reduceBEq, Nat.reduceBNe, Nat.reduceGT, Int.reduceEq, Int.reduceLT, Int.reduceLE, Int.reduceToNat, Int.reduceAdd, Int.reduceSub, Int.reduceMul, Int.reduceNeg, Int.reduceBEq, Int.reduceBNe, c', c2, b1, b2, b3, strs_len, strs_flat, strs_atom, strs_take, strs_snoc, e, ih]
    · have c' : ¬ (16 : Int) < s.size := by omega
      by_cases c3 : s = ByteArray.empty
      · have e : cuts s = [] := by rw [cuts_eq, if_neg c, if_pos c3]
        subst c3
        rw [e, List.append_nil]
        simp -implicitDefEqProofs only [eqs, Sym.wants, Sym.get, Sym.ev, Sym.evs, Sym.evO, Sym.evP, Sym.put, Sym.lev, Sym.aq, Sym.ae, aBin, aInt, isShift, aEqB, aEqP, aEqS, leavesEq, leafEq, aUn, Sym.rd, aLoad, aField, aFad, aNilck, asI, aIxS, aIxA, aIxV, aExt, aPick, aCvi, aCvs, aLen, aLenS, aMin2, aMax2, aFold, aFoldL, bnd, aSlStr, aSlS, fillL, newO, kill, aStore, putL, getO, cellsOf, Sym.elems, Sym.elemsS, aApp, aCpy, aClr, Sym.reps, aCall, aCallQ, finishCall, Sym.refs, Sym.refs1, Sym.refs0, okv, ok1, Sym.atom, flat0, dedup, Sym.reach, Sym.pos, Sym.sub, renO, Sym.ren, Sym.ren1, Sym.ren0, gmap, mergeOld, mergeNew, mergeO, allFresh, Sym.det, Sym.det0, Sym.canon, keepEnv, aRes, Sym.one, frzM, frz1, frz0, frzL, args0, dead0, aCallM, aopM_s, if_true, if_false, ite_true, ite_false, reduceIte, reduceCtorEq, Nat.reduceEqDiff, ne_eq, Nat.reduceAdd, Nat.reduceSub, Nat.reduceMul, Nat.reduceLT, Nat.reduceLeDiff, Nat.reduceBEq, Nat.reduceBNe, Nat.reduceGT, Int.reduceEq, Int.reduceLT, Int.reduceLE, Int.reduceToNat, Int.reduceAdd, Int.reduceSub, Int.reduceMul, Int.reduceNeg, Int.reduceBEq, Int.reduceBNe, l_fuglemanref16_All_1, c', b1, b2, b3, strs_len, strs_flat, strs_atom, strs_take, strs_snoc, emp]
      · have e : cuts s = [s] := by rw [cuts_eq, if_neg c, if_neg c3]
        rw [e, List.length_append, List.length_singleton]
        simp -implicitDefEqProofs only [eqs, Sym.wants, Sym.get, Sym.ev, Sym.evs, Sym.evO, Sym.evP, Sym.put, Sym.lev, Sym.aq, Sym.ae, aBin, aInt, isShift, aEqB, aEqP, aEqS, leavesEq, leafEq, aUn, Sym.rd, aLoad, aField, aFad, aNilck, asI, aIxS, aIxA, aIxV, aExt, aPick, aCvi, aCvs, aLen, aLenS, aMin2, aMax2, aFold, aFoldL, bnd, aSlStr, aSlS, fillL, newO, kill, aStore, putL, getO, cellsOf, Sym.elems, Sym.elemsS, aApp, aCpy, aClr, Sym.reps, aCall, aCallQ, finishCall, Sym.refs, Sym.refs1, Sym.refs0, okv, ok1, Sym.atom, flat0, dedup, Sym.reach, Sym.pos, Sym.sub, renO, Sym.ren, Sym.ren1, Sym.ren0, gmap, mergeOld, mergeNew, mergeO, allFresh, Sym.det, Sym.det0, Sym.canon, keepEnv, aRes, Sym.one, frzM, frz1, frz0, frzL, args0, dead0, aCallM, aopM_s, if_true, if_false, ite_true, ite_false, reduceIte, reduceCtorEq, Nat.reduceEqDiff, ne_eq, Nat.reduceAdd, Nat.reduceSub, Nat.reduceMul, Nat.reduceLT, Nat.reduceLeDiff, Nat.reduceBEq, Nat.reduceBNe, Nat.reduceGT, Int.reduceEq, Int.reduceLT, Int.reduceLE, Int.reduceToNat, Int.reduceAdd, Int.reduceSub, Int.reduceMul, Int.reduceNeg, Int.reduceBEq, Int.reduceBNe, l_fuglemanref16_All_1, c', c3, b1, b2, b3, strs_len, strs_flat, strs_atom, strs_take, strs_snoc, strs_take', len_snoc, emp]
theorem all_a (k : Nat) (s : ByteArray) (hs : s.size ≤ 160) : acall T (k + 20) 45 0 [.v (.string s)] [] = some ⟨if s = ByteArray.empty then .v (.slice none 0 0) else .shr (cuts s).length false (strs (cuts s)), [], if s = ByteArray.empty then 0 else 1⟩ := by
  rw [acall_go (body := b_fuglemanref16_All) rfl rfl (Nat.zero_le _)]
  simp -implicitDefEqProofs only [eqs, Sym.wants, Sym.get, Sym.ev, Sym.evs, Sym.evO, Sym.evP, Sym.put, Sym.lev, Sym.aq, Sym.ae, aBin, aInt, isShift, aEqB, aEqP, aEqS, leavesEq, leafEq, aUn, Sym.rd, aLoad, aField, aFad, aNilck, asI, aIxS, aIxA, aIxV, aExt, aPick, aCvi, aCvs, aLen, aLenS, aMin2, aMax2, aFold, aFoldL, bnd, aSlStr, aSlS, fillL, newO, kill, aStore, putL, getO, cellsOf, Sym.elems, Sym.elemsS, aApp, aCpy, aClr, Sym.reps, aCall, aCallQ, finishCall, Sym.refs, Sym.refs1, Sym.refs0, okv, ok1, Sym.atom, flat0, dedup, Sym.reach, Sym.pos, Sym.sub, renO, Sym.ren, Sym.ren1, Sym.ren0, gmap, mergeOld, mergeNew, mergeO, allFresh, Sym.det, Sym.det0, Sym.canon, keepEnv, aRes, Sym.one, frzM, frz1, frz0, frzL, args0, dead0, aCallM, aopM_s, if_true, if_false, ite_true, ite_false, reduceIte, reduceCtorEq, Nat.reduceEqDiff, ne_eq, Nat.reduceAdd, Nat.reduceSub, Nat.reduceMul, Nat.reduceLT, Nat.reduceLeDiff, Nat.reduceBEq, Nat.reduceBNe, Nat.reduceGT, Int.reduceEq, Int.reduceLT, Int.reduceLE, Int.reduceToNat, Int.reduceAdd, Int.reduceSub, Int.reduceMul, Int.reduceNeg, Int.reduceBEq, Int.reduceBNe, b_fuglemanref16_All]
  rw [lh_as l_fuglemanref16_All_0.eq_1]
  by_cases c : 16 < s.size
  · have c' : (16 : Int) < s.size := by omega
    have c2 : 16 ≤ s.size := by omega
    have c3 : ¬ s = ByteArray.empty := by rintro rfl; simp at c
    have ih := all_loop (acall T (k + 19)) (k + 19) (k + 17) (s.extract 16 s.size) [s.extract 0 16] (by rw [rest_size]; omega) (by rw [rest_size]; simp; omega)
    have e : cuts s = s.extract 0 16 :: cuts (s.extract 16 s.size) := by rw [cuts_eq, if_pos c]
    simp only [List.length_singleton, strs, List.map_cons, List.map_nil, List.singleton_append] at ih
    simp -implicitDefEqProofs only [eqs, Sym.wants, Sym.get, Sym.ev, Sym.evs, Sym.evO, Sym.evP, Sym.put, Sym.lev, Sym.aq, Sym.ae, aBin, aInt, isShift, aEqB, aEqP, aEqS, leavesEq, leafEq, aUn, Sym.rd, aLoad, aField, aFad, aNilck, asI, aIxS, aIxA, aIxV, aExt, aPick, aCvi, aCvs, aLen, aLenS, aMin2, aMax2, aFold, aFoldL, bnd, aSlStr, aSlS, fillL, newO, kill, aStore, putL, getO, cellsOf, Sym.elems, Sym.elemsS, aApp, aCpy, aClr, Sym.reps, aCall, aCallQ, finishCall, Sym.refs, Sym.refs1, Sym.refs0, okv, ok1, Sym.atom, flat0, dedup, Sym.reach, Sym.pos, Sym.sub, renO, Sym.ren, Sym.ren1, Sym.ren0, gmap, mergeOld, mergeNew, mergeO, allFresh, Sym.det, Sym.det0, Sym.canon, keepEnv, aRes, Sym.one, frzM, frz1, frz0, frzL, args0, dead0, aCallM, aopM_s, if_true, if_false, ite_true, ite_false, reduceIte, reduceCtorEq, Nat.reduceEqDiff, ne_eq, Nat.reduceAdd, Nat.reduceSub, Nat.reduceMul, Nat.reduceLT, Nat.reduceLeDiff, Nat.reduceBEq, Nat.reduceBNe, Nat.reduceGT, Int.reduceEq, Int.reduceLT, Int.reduceLE, Int.reduceToNat, Int.reduceAdd, Int.reduceSub, Int.reduceMul, Int.reduceNeg, Int.reduceBEq, Int.reduceBNe, c', c2, c3, e, strs, ih]
  · have c' : ¬ (16 : Int) < s.size := by omega
    by_cases c3 : s = ByteArray.empty
    · subst c3
      simp -implicitDefEqProofs only [eqs, Sym.wants, Sym.get, Sym.ev, Sym.evs, Sym.evO, Sym.evP, Sym.put, Sym.lev, Sym.aq, Sym.ae, aBin, aInt, isShift, aEqB, aEqP, aEqS, leavesEq, leafEq, aUn, Sym.rd, aLoad, aField, aFad, aNilck, asI, aIxS, aIxA, aIxV, aExt, aPick, aCvi, aCvs, aLen, aLenS, aMin2, aMax2, aFold, aFoldL, bnd, aSlStr, aSlS, fillL, newO, kill, aStore, putL, getO, cellsOf, Sym.elems, Sym.elemsS, aApp, aCpy, aClr, Sym.reps, aCall, aCallQ, finishCall, Sym.refs, Sym.refs1, Sym.refs0, okv, ok1, Sym.atom, flat0, dedup, Sym.reach, Sym.pos, Sym.sub, renO, Sym.ren, Sym.ren1, Sym.ren0, gmap, mergeOld, mergeNew, mergeO, allFresh, Sym.det, Sym.det0, Sym.canon, keepEnv, aRes, Sym.one, frzM, frz1, frz0, frzL, args0, dead0, aCallM, aopM_s, if_true, if_false, ite_true, ite_false, reduceIte, reduceCtorEq, Nat.reduceEqDiff, ne_eq, Nat.reduceAdd, Nat.reduceSub, Nat.reduceMul, Nat.reduceLT, Nat.reduceLeDiff, Nat.reduceBEq, Nat.reduceBNe, Nat.reduceGT, Int.reduceEq, Int.reduceLT, Int.reduceLE, Int.reduceToNat, Int.reduceAdd, Int.reduceSub, Int.reduceMul, Int.reduceNeg, Int.reduceBEq, Int.reduceBNe, l_fuglemanref16_All_1, c', emp]
    · have e : cuts s = [s] := by rw [cuts_eq, if_neg c, if_neg c3]
      simp -implicitDefEqProofs only [eqs, Sym.wants, Sym.get, Sym.ev, Sym.evs, Sym.evO, Sym.evP, Sym.put, Sym.lev, Sym.aq, Sym.ae, aBin, aInt, isShift, aEqB, aEqP, aEqS, leavesEq, leafEq, aUn, Sym.rd, aLoad, aField, aFad, aNilck, asI, aIxS, aIxA, aIxV, aExt, aPick, aCvi, aCvs, aLen, aLenS, aMin2, aMax2, aFold, aFoldL, bnd, aSlStr, aSlS, fillL, newO, kill, aStore, putL, getO, cellsOf, Sym.elems, Sym.elemsS, aApp, aCpy, aClr, Sym.reps, aCall, aCallQ, finishCall, Sym.refs, Sym.refs1, Sym.refs0, okv, ok1, Sym.atom, flat0, dedup, Sym.reach, Sym.pos, Sym.sub, renO, Sym.ren, Sym.ren1, Sym.ren0, gmap, mergeOld, mergeNew, mergeO, allFresh, Sym.det, Sym.det0, Sym.canon, keepEnv, aRes, Sym.one, frzM, frz1, frz0, frzL, args0, dead0, aCallM, aopM_s, if_true, if_false, ite_true, ite_false, reduceIte, reduceCtorEq, Nat.reduceEqDiff, ne_eq, Nat.reduceAdd, Nat.reduceSub, Nat.reduceMul, Nat.reduceLT, Nat.reduceLeDiff, Nat.reduceBEq, Nat.reduceBNe, Nat.reduceGT, Int.reduceEq, Int.reduceLT, Int.reduceLE, Int.reduceToNat, Int.reduceAdd, Int.reduceSub, Int.reduceMul, Int.reduceNeg, Int.reduceBEq, Int.reduceBNe, l_fuglemanref16_All_1, c', c3, e, strs, emp]
theorem cuts_len (s : ByteArray) : (cuts s).length = (s.size + 15) / 16 := by
  rw [cuts_eq]
  by_cases c : 16 < s.size
  · rw [if_pos c, List.length_cons, cuts_len, rest_size]
    omega
  · rw [if_neg c]
    by_cases c3 : s = ByteArray.empty
    · subst c3; rfl
    · rw [if_neg c3]
      have : s.size ≠ 0 := fun h => c3 (ByteArray.size_eq_zero_iff.1 h)
      show 1 = _
      omega
termination_by s.size
decreasing_by rw [rest_size]; omega
theorem cuts_at (s : ByteArray) : ∀ (i : Nat), 16 * i < s.size → (cuts s)[i]? = some (s.extract (16 * i) (min (16 * i + 16) s.size))
  | i, hi => by
    have c3 : s ≠ ByteArray.empty := by rintro rfl; simp at hi
    rw [cuts_eq]
    by_cases c : 16 < s.size
    · rw [if_pos c]
      cases i with
      | zero => rw [Nat.min_eq_left (by omega)]; rfl
      | succ i =>
        rw [List.getElem?_cons_succ, cuts_at (s.extract 16 s.size) i (by rw [rest_size]; omega), rest_size, ByteArray.extract_extract]
        congr 2 <;> omega
    · rw [if_neg c, if_neg c3]
      obtain rfl : i = 0 := by omega
      rw [Nat.min_eq_right (by omega)]
      simp
end Go.Proofs.Ytkaigdfklihlcaa.Refs
