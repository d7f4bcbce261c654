/- Put of the reference's glue. -/
import Derived.Test.YtkaigdfklihlcaaRefs
namespace Go.Proofs.Ytkaigdfklihlcaa.Refs
open Go Go.Proofs.Ytkaigdfklihlcaa.Sym Go.Proofs.Ytkaigdfklihlcaa.Tab Go.Proofs.Ytkaigdfklihlcaa.Blk Go.Proofs.Ytkaigdfklihlcaa.Glue
set_option linter.unusedVariables false
set_option linter.unusedSimpArgs false
set_option maxHeartbeats 4000000
set_option maxRecDepth 20000
def out (s : ByteArray) (b : Bool) (e : Int) : AV := .tup [.v (.string s), .v (.bool b), .v (.int .i64 e)]
/-- All of them, if all came. -/
def outc (acc : ByteArray) : List ByteArray → AV
  | [] => out acc true 0
  | x :: r => if x = ByteArray.empty then out ByteArray.empty false 0 else outc (acc ++ x) r
theorem put_loop (C : CT) (lf : Nat) (fr : Bool) (w : Rg) (ls : List AV) (hm : w.came.length ≤ 1000) (hs : ∀ x ∈ w.came, x.size ≤ 100) : ∀ (n i : Nat) (acc : ByteArray), i ≤ w.came.length → w.came.length - i ≤ n → acc.size ≤ 100 * i →
    FnR [.t 4, .t 5, .t 6] false true (Lh C lf (some ⟨[(0, .ptr 0 0), (7, .shr w.came.length false ls), (8, .v (.string acc)), (9, .v (.int .i64 i))], [w.o false, w.c fr], 2, [0]⟩) [0, 7, 8, 9] l_fuglemanref17_Glue_Put_0 n [.b 0, .c l_fuglemanref17_Glue_Put_1]) = some ⟨outc acc (w.came.drop i), [w.o false, w.c false], 2⟩
  | n, i, acc, hi, hn, ha => by
    rw [lh_as l_fuglemanref17_Glue_Put_0.eq_1]
    by_cases d : i < w.came.length
    · have d' : (i : Int) < w.came.length := by omega
      have e0 : w.came[i]? = some w.came[i] := List.getElem?_eq_getElem d
      have e1 : (strs w.came)[i]? = some (.v (.string w.came[i])) := by simp [strs, e0]
      have e2 : (0 : Int) ≤ i := by omega
      have e3 : IntKind.i64.wrap (i + 1) = i + 1 := w64 (by omega) (by omega)
      have e5 : w.came.drop i = w.came[i] :: w.came.drop (i + 1) := List.drop_eq_getElem_cons d
      have e7 : w.came[i].size ≤ 100 := hs _ (List.getElem_mem d)
      have e8 : acc.size + w.came[i].size ≤ 9223372036854775807 := by omega
      cases n with
      | zero => omega
      | succ n =>
        by_cases d2 : w.came[i] = ByteArray.empty
        · have e6 : outc acc (w.came.drop i) = out ByteArray.empty false 0 := by rw [e5, outc, if_pos d2]
          rw [e6]
          simp only [Rg.o, Rg.c]
          simp -implicitDefEqProofs only [eqs, Sym.wants, Sym.get, Sym.ev, Sym.evs, Sym.evO, Sym.evP, Sym.put, Sym.lev, Sym.aq, Sym.ae, aBin, aInt, isShift, aEqB, aEqP, aEqS, leavesEq, leafEq, aUn, Sym.rd, aLoad, aField, aFad, aNilck, asI, aIxS, aIxA, aIxV, aExt, aPick, aCvi, aCvs, aLen, aLenS, aMin2, aMax2, aFold, aFoldL, bnd, aSlStr, aSlS, fillL, newO, kill, aStore, putL, getO, cellsOf, Sym.elems, Sym.elemsS, aApp, aCpy, aClr, Sym.reps, aCall, aCallQ, finishCall, Sym.refs, Sym.refs1, Sym.refs0, okv, ok1, Sym.atom, flat0, dedup, Sym.reach, Sym.pos, Sym.sub, renO, Sym.ren, Sym.ren1, Sym.ren0, gmap, mergeOld, mergeNew, mergeO, allFresh, Sym.det, Sym.det0, Sym.canon, keepEnv, aRes, Sym.one, frzM, frz1, frz0, frzL, args0, dead0, aCallM, aopM_s, if_true, if_false, ite_true, ite_false, reduceIte, reduceCtorEq, Nat.reduceEqDiff, ne_eq, Nat.reduceAdd, Nat.reduceSub, Nat.reduceMul, Nat.reduceLT, Nat.reduceLeDiff, Nat.reduceBEq, Nat.reduceBNe, Nat.reduceGT, Int.reduceEq, Int.reduceLT, Int.reduceLE, Int.reduceToNat, Int.reduceAdd, Int.reduceSub, Int.reduceMul, Int.reduceNeg, Int.reduceBEq, Int.reduceBNe, d', e1, e2, e3, d2, Int.toNat_natCast, out]
        · have ih := put_loop C lf fr w ls hm hs n (i + 1) (acc ++ w.came[i]) d (by omega) (by rw [ByteArray.size_append]; omega)
          have e6 : outc acc (w.came.drop i) = outc (acc ++ w.came[i]) (w.came.drop (i + 1)) := by rw [e5, outc, if_neg d2]
          rw [e6]
          rw [Int.natCast_add, Int.natCast_one] at ih
          simp only [Rg.o, Rg.c] at ih ⊢
          simp -implicitDefEqProofs only [eqs, Sym.wants, Sym.get, Sym.ev, Sym.evs, Sym.evO, Sym.evP, Sym.put, Sym.lev, Sym.aq, Sym.ae, aBin, aInt, isShift, aEqB, aEqP, aEqS, leavesEq, leafEq, aUn, Sym.rd, aLoad, aField, aFad, aNilck, asI, aIxS, aIxA, aIxV, aExt, aPick, aCvi, aCvs, aLen, aLenS, aMin2, aMax2, aFold, aFoldL, bnd, aSlStr, aSlS, fillL, newO, kill, aStore, putL, getO, cellsOf, Sym.elems, Sym.elemsS, aApp, aCpy, aClr, Sym.reps, aCall, aCallQ, finishCall, Sym.refs, Sym.refs1, Sym.refs0, okv, ok1, Sym.atom, flat0, dedup, Sym.reach, Sym.pos, Sym.sub, renO, Sym.ren, Sym.ren1, Sym.ren0, gmap, mergeOld, mergeNew, mergeO, allFresh, Sym.det, Sym.det0, Sym.canon, keepEnv, aRes, Sym.one, frzM, frz1, frz0, frzL, args0, dead0, aCallM, aopM_s, if_true, if_false, ite_true, ite_false, reduceIte, reduceCtorEq, Nat.reduceEqDiff, ne_eq, Nat.reduceAdd, Nat.reduceSub, Nat.reduceMul, Nat.reduceLT, Nat.reduceLeDiff, Nat.reduceBEq, Nat.reduceBNe, Nat.reduceGT, Int.reduceEq, Int.reduceLT, Int.reduceLE, Int.reduceToNat, Int.reduceAdd, Int.reduceSub, Int.reduceMul, Int.reduceNeg, Int.reduceBEq, Int.reduceBNe, d', e1, e2, e3, e8, d2, Int.toNat_natCast, ih]
    · have d' : ¬ (i : Int) < w.came.length := by omega
      have e5 : w.came.drop i = [] := List.drop_eq_nil_of_le (by omega)
      rw [e5, outc]
      simp only [Rg.o, Rg.c]
      simp -implicitDefEqProofs only [eqs, Sym.wants, Sym.get, Sym.ev, Sym.evs, Sym.evO, Sym.evP, Sym.put, Sym.lev, Sym.aq, Sym.ae, aBin, aInt, isShift, aEqB, aEqP, aEqS, leavesEq, leafEq, aUn, Sym.rd, aLoad, aField, aFad, aNilck, asI, aIxS, aIxA, aIxV, aExt, aPick, aCvi, aCvs, aLen, aLenS, aMin2, aMax2, aFold, aFoldL, bnd, aSlStr, aSlS, fillL, newO, kill, aStore, putL, getO, cellsOf, Sym.elems, Sym.elemsS, aApp, aCpy, aClr, Sym.reps, aCall, aCallQ, finishCall, Sym.refs, Sym.refs1, Sym.refs0, okv, ok1, Sym.atom, flat0, dedup, Sym.reach, Sym.pos, Sym.sub, renO, Sym.ren, Sym.ren1, Sym.ren0, gmap, mergeOld, mergeNew, mergeO, allFresh, Sym.det, Sym.det0, Sym.canon, keepEnv, aRes, Sym.one, frzM, frz1, frz0, frzL, args0, dead0, aCallM, aopM_s, if_true, if_false, ite_true, ite_false, reduceIte, reduceCtorEq, Nat.reduceEqDiff, ne_eq, Nat.reduceAdd, Nat.reduceSub, Nat.reduceMul, Nat.reduceLT, Nat.reduceLeDiff, Nat.reduceBEq, Nat.reduceBNe, Nat.reduceGT, Int.reduceEq, Int.reduceLT, Int.reduceLE, Int.reduceToNat, Int.reduceAdd, Int.reduceSub, Int.reduceMul, Int.reduceNeg, Int.reduceBEq, Int.reduceBNe, l_fuglemanref17_Glue_Put_1, d', out]
def fitN (n : Int) (f : Fr) : Bool := f.np == parts n && decide (0 < (piece n f.part).2) && (f.b.size : Int) == (piece n f.part).2
theorem parts_cuts (n : Int) (hn : 1 ≤ n ∧ n ≤ 64) : (cuts (zeros n.toNat)).length = (parts n).toNat := by
  rw [cuts_len, zeros_size]
  unfold parts
  rw [if_neg (by omega)]
  omega
theorem cuts_size (n : Int) (hn : 1 ≤ n ∧ n ≤ 64) (p : Nat) (hp : (p : Int) < parts n) : ∃ x, (cuts (zeros n.toNat))[p]? = some x ∧ (x.size : Int) = (piece n p).2 ∧ 0 < (piece n p).2 := by
  have h : parts n = (n + 15) / 16 := by unfold parts; rw [if_neg (by omega)]
  have hz := zeros_size n.toNat
  refine ⟨_, cuts_at _ p (by rw [hz]; omega), ?_, ?_⟩
  · rw [ByteArray.size_extract, hz]
    unfold piece
    rw [if_neg (by omega)]
    show _ = (if n - p * 16 < 16 then n - p * 16 else 16 : Int)
    split <;> omega
  · unfold piece
    rw [if_neg (by omega)]
    show 0 < (if n - p * 16 < 16 then n - p * 16 else 16 : Int)
    split <;> omega
def Rg.lay (w : Rg) (f : Fr) : AV × Rg :=
  if (w.came[f.part.toNat]?).getD ByteArray.empty = ByteArray.empty then (outc ByteArray.empty (w.came.set f.part.toNat f.b), { w with came := w.came.set f.part.toNat f.b }) else (out ByteArray.empty false 14, w)
def Rg.fresh (n : Int) (f : Fr) : Rg := ⟨n, f.inc, f.seq, List.replicate (parts n).toNat ByteArray.empty⟩
def Rg.put (w : Rg) (f : Fr) : AV × Rg :=
  if (f.kind != 4) = true then (out ByteArray.empty false 11, w)
  else if fitN w.size f = false then (out ByteArray.empty false 3, w)
  else if num f.inc f.seq < num w.inc w.seq then (out ByteArray.empty false 1, w)
  else if num w.inc w.seq < num f.inc f.seq then (Rg.fresh w.size f).lay f else w.lay f
theorem strs_set {l : List ByteArray} {i : Nat} {s : ByteArray} : (strs l).set i (.v (.string s)) = strs (l.set i s) := by simp [strs, List.map_set]
theorem strs_rep {n : Nat} : List.replicate n (AV.v (.string ByteArray.empty)) = strs (List.replicate n ByteArray.empty) := by simp [strs]
theorem rput_kind (k : Nat) (w : Rg) (f : Fr) (c : (f.kind != 4) = true) : acall T (k + 40) 32 1 [.ptr 0 0, .agg f.c] [w.o false, w.c false] = some ⟨(w.put f).1, [(w.put f).2.o false, (w.put f).2.c false], 2⟩ := by
  rw [acall_go (body := b_fuglemanref17_Glue_Put) rfl rfl (by show 1 ≤ 2; decide)]
  have e : w.put f = (out ByteArray.empty false 11, w) := by rw [Rg.put, if_pos c]
  rw [e]
  unfold out
  simp -implicitDefEqProofs only [eqs, Sym.wants, Sym.get, Sym.ev, Sym.evs, Sym.evO, Sym.evP, Sym.put, Sym.lev, Sym.aq, Sym.ae, aBin, aInt, isShift, aEqB, aEqP, aEqS, leavesEq, leafEq, aUn, Sym.rd, aLoad, aField, aFad, aNilck, asI, aIxS, aIxA, aIxV, aExt, aPick, aCvi, aCvs, aLen, aLenS, aMin2, aMax2, aFold, aFoldL, bnd, aSlStr, aSlS, fillL, newO, kill, aStore, putL, getO, cellsOf, Sym.elems, Sym.elemsS, aApp, aCpy, aClr, Sym.reps, aCall, aCallQ, finishCall, Sym.refs, Sym.refs1, Sym.refs0, okv, ok1, Sym.atom, flat0, dedup, Sym.reach, Sym.pos, Sym.sub, renO, Sym.ren, Sym.ren1, Sym.ren0, gmap, mergeOld, mergeNew, mergeO, allFresh, Sym.det, Sym.det0, Sym.canon, keepEnv, aRes, Sym.one, frzM, frz1, frz0, frzL, args0, dead0, aCallM, aopM_s, if_true, if_false, ite_true, ite_false, reduceIte, reduceCtorEq, Nat.reduceEqDiff, ne_eq, Nat.reduceAdd, Nat.reduceSub, Nat.reduceMul, Nat.reduceLT, Nat.reduceLeDiff, Nat.reduceBEq, Nat.reduceBNe, Nat.reduceGT, Int.reduceEq, Int.reduceLT, Int.reduceLE, Int.reduceToNat, Int.reduceAdd, Int.reduceSub, Int.reduceMul, Int.reduceNeg, Int.reduceBEq, Int.reduceBNe, b_fuglemanref17_Glue_Put, Rg.o, Rg.c, Rg.no, Fr.c, c]
theorem rput_kindN (k : Nat) (n : Int) (f : Fr) (c : (f.kind != 4) = true) : acall T (k + 40) 32 1 [.ptr 0 0, .agg f.c] [Rg.no n false] = some ⟨out ByteArray.empty false 11, [Rg.no n false], 2⟩ := by
  rw [acall_go (body := b_fuglemanref17_Glue_Put) rfl rfl (Nat.le_refl 1)]
  unfold out
  simp -implicitDefEqProofs only [eqs, Sym.wants, Sym.get, Sym.ev, Sym.evs, Sym.evO, Sym.evP, Sym.put, Sym.lev, Sym.aq, Sym.ae, aBin, aInt, isShift, aEqB, aEqP, aEqS, leavesEq, leafEq, aUn, Sym.rd, aLoad, aField, aFad, aNilck, asI, aIxS, aIxA, aIxV, aExt, aPick, aCvi, aCvs, aLen, aLenS, aMin2, aMax2, aFold, aFoldL, bnd, aSlStr, aSlS, fillL, newO, kill, aStore, putL, getO, cellsOf, Sym.elems, Sym.elemsS, aApp, aCpy, aClr, Sym.reps, aCall, aCallQ, finishCall, Sym.refs, Sym.refs1, Sym.refs0, okv, ok1, Sym.atom, flat0, dedup, Sym.reach, Sym.pos, Sym.sub, renO, Sym.ren, Sym.ren1, Sym.ren0, gmap, mergeOld, mergeNew, mergeO, allFresh, Sym.det, Sym.det0, Sym.canon, keepEnv, aRes, Sym.one, frzM, frz1, frz0, frzL, args0, dead0, aCallM, aopM_s, if_true, if_false, ite_true, ite_false, reduceIte, reduceCtorEq, Nat.reduceEqDiff, ne_eq, Nat.reduceAdd, Nat.reduceSub, Nat.reduceMul, Nat.reduceLT, Nat.reduceLeDiff, Nat.reduceBEq, Nat.reduceBNe, Nat.reduceGT, Int.reduceEq, Int.reduceLT, Int.reduceLE, Int.reduceToNat, Int.reduceAdd, Int.reduceSub, Int.reduceMul, Int.reduceNeg, Int.reduceBEq, Int.reduceBNe, b_fuglemanref17_Glue_Put, Rg.o, Rg.c, Rg.no, Fr.c, c]
theorem rput_bad (k : Nat) (w : Rg) (f : Fr) (hf : f.In) (hn : 1 ≤ w.size ∧ w.size ≤ 64) (c : (f.kind != 4) = false) (c2 : fitN w.size f = false) : acall T (k + 40) 32 1 [.ptr 0 0, .agg f.c] [w.o false, w.c false] = some ⟨(w.put f).1, [(w.put f).2.o false, (w.put f).2.c false], 2⟩ := by
  have e : w.put f = (out ByteArray.empty false 3, w) := by rw [Rg.put, if_neg (by rw [c]; decide), if_pos c2]
  rw [e]
  rw [acall_go (body := b_fuglemanref17_Glue_Put) rfl rfl (by show 1 ≤ 2; decide)]
  have hl := lengths_a (k + 18) w.size hn
  have hl1 := parts_cuts w.size hn
  have hlI : ((cuts (zeros (w.size).toNat)).length : Int) = parts w.size := by rw [hl1]; have := parts_le w.size; omega
  have e1 := w64u hf.part
  have e2 := w64u hf.np
  by_cases d1 : f.np = parts w.size
  · have d1' : (f.np != parts w.size) = false := by rw [d1]; simp
    by_cases d2 : parts w.size ≤ f.part
    · unfold out
      simp -implicitDefEqProofs only [eqs, Sym.wants, Sym.get, Sym.ev, Sym.evs, Sym.evO, Sym.evP, Sym.put, Sym.lev, Sym.aq, Sym.ae, aBin, aInt, isShift, aEqB, aEqP, aEqS, leavesEq, leafEq, aUn, Sym.rd, aLoad, aField, aFad, aNilck, asI, aIxS, aIxA, aIxV, aExt, aPick, aCvi, aCvs, aLen, aLenS, aMin2, aMax2, aFold, aFoldL, bnd, aSlStr, aSlS, fillL, newO, kill, aStore, putL, getO, cellsOf, Sym.elems, Sym.elemsS, aApp, aCpy, aClr, Sym.reps, aCall, aCallQ, finishCall, Sym.refs, Sym.refs1, Sym.refs0, okv, ok1, Sym.atom, flat0, dedup, Sym.reach, Sym.pos, Sym.sub, renO, Sym.ren, Sym.ren1, Sym.ren0, gmap, mergeOld, mergeNew, mergeO, allFresh, Sym.det, Sym.det0, Sym.canon, keepEnv, aRes, Sym.one, frzM, frz1, frz0, frzL, args0, dead0, aCallM, aopM_s, if_true, if_false, ite_true, ite_false, reduceIte, reduceCtorEq, Nat.reduceEqDiff, ne_eq, Nat.reduceAdd, Nat.reduceSub, Nat.reduceMul, Nat.reduceLT, Nat.reduceLeDiff, Nat.reduceBEq, Nat.reduceBNe, Nat.reduceGT, Int.reduceEq, Int.reduceLT, Int.reduceLE, Int.reduceToNat, Int.reduceAdd, Int.reduceSub, Int.reduceMul, Int.reduceNeg, Int.reduceBEq, Int.reduceBNe, b_fuglemanref17_Glue_Put, Rg.o, Rg.c, Rg.no, Fr.c, hl, hlI, e1, e2, c, d1', d2]
    · obtain ⟨x, hx1, hx2, hx3⟩ := cuts_size w.size hn f.part.toNat (by have := hf.part; omega)
      have g1 : (strs (cuts (zeros (w.size).toNat)))[f.part.toNat]? = some (.v (.string x)) := by simp [strs, hx1]
      have g2 : 0 ≤ f.part := hf.part.1
      have g3 : f.part < parts w.size := by omega
      have g4 : ((f.b.size : Int) != (x.size : Int)) = true := by
        rw [hx2]
        have : ((f.part.toNat : Nat) : Int) = f.part := by omega
        rw [this] at hx3 ⊢
        unfold fitN at c2
        simp only [d1, beq_self_eq_true, Bool.true_and, hx3, decide_true] at c2
        exact bne_iff_ne.2 (beq_eq_false_iff_ne.1 c2)
      unfold out
      simp -implicitDefEqProofs only [eqs, Sym.wants, Sym.get, Sym.ev, Sym.evs, Sym.evO, Sym.evP, Sym.put, Sym.lev, Sym.aq, Sym.ae, aBin, aInt, isShift, aEqB, aEqP, aEqS, leavesEq, leafEq, aUn, Sym.rd, aLoad, aField, aFad, aNilck, asI, aIxS, aIxA, aIxV, aExt, aPick, aCvi, aCvs, aLen, aLenS, aMin2, aMax2, aFold, aFoldL, bnd, aSlStr, aSlS, fillL, newO, kill, aStore, putL, getO, cellsOf, Sym.elems, Sym.elemsS, aApp, aCpy, aClr, Sym.reps, aCall, aCallQ, finishCall, Sym.refs, Sym.refs1, Sym.refs0, okv, ok1, Sym.atom, flat0, dedup, Sym.reach, Sym.pos, Sym.sub, renO, Sym.ren, Sym.ren1, Sym.ren0, gmap, mergeOld, mergeNew, mergeO, allFresh, Sym.det, Sym.det0, Sym.canon, keepEnv, aRes, Sym.one, frzM, frz1, frz0, frzL, args0, dead0, aCallM, aopM_s, if_true, if_false, ite_true, ite_false, reduceIte, reduceCtorEq, Nat.reduceEqDiff, ne_eq, Nat.reduceAdd, Nat.reduceSub, Nat.reduceMul, Nat.reduceLT, Nat.reduceLeDiff, Nat.reduceBEq, Nat.reduceBNe, Nat.reduceGT, Int.reduceEq, Int.reduceLT, Int.reduceLE, Int.reduceToNat, Int.reduceAdd, Int.reduceSub, Int.reduceMul, Int.reduceNeg, Int.reduceBEq, Int.reduceBNe, b_fuglemanref17_Glue_Put, Rg.o, Rg.c, Rg.no, Fr.c, hl, hlI, e1, e2, c, d1', d2, g1, g2, g3, g4]
  · have d1' : (f.np != parts w.size) = true := bne_iff_ne.2 d1
    unfold out
    simp -implicitDefEqProofs only [eqs, Sym.wants, Sym.get, Sym.ev, Sym.evs, Sym.evO, Sym.evP, Sym.put, Sym.lev, Sym.aq, Sym.ae, aBin, aInt, isShift, aEqB, aEqP, aEqS, leavesEq, leafEq, aUn, Sym.rd, aLoad, aField, aFad, aNilck, asI, aIxS, aIxA, aIxV, aExt, aPick, aCvi, aCvs, aLen, aLenS, aMin2, aMax2, aFold, aFoldL, bnd, aSlStr, aSlS, fillL, newO, kill, aStore, putL, getO, cellsOf, Sym.elems, Sym.elemsS, aApp, aCpy, aClr, Sym.reps, aCall, aCallQ, finishCall, Sym.refs, Sym.refs1, Sym.refs0, okv, ok1, Sym.atom, flat0, dedup, Sym.reach, Sym.pos, Sym.sub, renO, Sym.ren, Sym.ren1, Sym.ren0, gmap, mergeOld, mergeNew, mergeO, allFresh, Sym.det, Sym.det0, Sym.canon, keepEnv, aRes, Sym.one, frzM, frz1, frz0, frzL, args0, dead0, aCallM, aopM_s, if_true, if_false, ite_true, ite_false, reduceIte, reduceCtorEq, Nat.reduceEqDiff, ne_eq, Nat.reduceAdd, Nat.reduceSub, Nat.reduceMul, Nat.reduceLT, Nat.reduceLeDiff, Nat.reduceBEq, Nat.reduceBNe, Nat.reduceGT, Int.reduceEq, Int.reduceLT, Int.reduceLE, Int.reduceToNat, Int.reduceAdd, Int.reduceSub, Int.reduceMul, Int.reduceNeg, Int.reduceBEq, Int.reduceBNe, b_fuglemanref17_Glue_Put, Rg.o, Rg.c, Rg.no, Fr.c, hl, hlI, e1, e2, c, d1']
theorem rput_badN (k : Nat) (n : Int) (f : Fr) (hf : f.In) (hn : 1 ≤ n ∧ n ≤ 64) (c : (f.kind != 4) = false) (c2 : fitN n f = false) : acall T (k + 40) 32 1 [.ptr 0 0, .agg f.c] [Rg.no n false] = some ⟨out ByteArray.empty false 3, [Rg.no n false], 2⟩ := by
  rw [acall_go (body := b_fuglemanref17_Glue_Put) rfl rfl (by show 1 ≤ 1; decide)]
  have hl := lengths_a (k + 18) n hn
  have hl1 := parts_cuts n hn
  have hlI : ((cuts (zeros (n).toNat)).length : Int) = parts n := by rw [hl1]; have := parts_le n; omega
  have e1 := w64u hf.part
  have e2 := w64u hf.np
  by_cases d1 : f.np = parts n
  · have d1' : (f.np != parts n) = false := by rw [d1]; simp
    by_cases d2 : parts n ≤ f.part
    · unfold out
      simp -implicitDefEqProofs only [eqs, Sym.wants, Sym.get, Sym.ev, Sym.evs, Sym.evO, Sym.evP, Sym.put, Sym.lev, Sym.aq, Sym.ae, aBin, aInt, isShift, aEqB, aEqP, aEqS, leavesEq, leafEq, aUn, Sym.rd, aLoad, aField, aFad, aNilck, asI, aIxS, aIxA, aIxV, aExt, aPick, aCvi, aCvs, aLen, aLenS, aMin2, aMax2, aFold, aFoldL, bnd, aSlStr, aSlS, fillL, newO, kill, aStore, putL, getO, cellsOf, Sym.elems, Sym.elemsS, aApp, aCpy, aClr, Sym.reps, aCall, aCallQ, finishCall, Sym.refs, Sym.refs1, Sym.refs0, okv, ok1, Sym.atom, flat0, dedup, Sym.reach, Sym.pos, Sym.sub, renO, Sym.ren, Sym.ren1, Sym.ren0, gmap, mergeOld, mergeNew, mergeO, allFresh, Sym.det, Sym.det0, Sym.canon, keepEnv, aRes, Sym.one, frzM, frz1, frz0, frzL, args0, dead0, aCallM, aopM_s, if_true, if_false, ite_true, ite_false, reduceIte, reduceCtorEq, Nat.reduceEqDiff, ne_eq, Nat.reduceAdd, Nat.reduceSub, Nat.reduceMul, Nat.reduceLT, Nat.reduceLeDiff, Nat.reduceBEq, Nat.reduceBNe, Nat.reduceGT, Int.reduceEq, Int.reduceLT, Int.reduceLE, Int.reduceToNat, Int.reduceAdd, Int.reduceSub, Int.reduceMul, Int.reduceNeg, Int.reduceBEq, Int.reduceBNe, b_fuglemanref17_Glue_Put, Rg.o, Rg.c, Rg.no, Fr.c, hl, hlI, e1, e2, c, d1', d2]
    · obtain ⟨x, hx1, hx2, hx3⟩ := cuts_size n hn f.part.toNat (by have := hf.part; omega)
      have g1 : (strs (cuts (zeros (n).toNat)))[f.part.toNat]? = some (.v (.string x)) := by simp [strs, hx1]
      have g2 : 0 ≤ f.part := hf.part.1
      have g3 : f.part < parts n := by omega
      have g4 : ((f.b.size : Int) != (x.size : Int)) = true := by
        rw [hx2]
        have : ((f.part.toNat : Nat) : Int) = f.part := by omega
        rw [this] at hx3 ⊢
        unfold fitN at c2
        simp only [d1, beq_self_eq_true, Bool.true_and, hx3, decide_true] at c2
        exact bne_iff_ne.2 (beq_eq_false_iff_ne.1 c2)
      unfold out
      simp -implicitDefEqProofs only [eqs, Sym.wants, Sym.get, Sym.ev, Sym.evs, Sym.evO, Sym.evP, Sym.put, Sym.lev, Sym.aq, Sym.ae, aBin, aInt, isShift, aEqB, aEqP, aEqS, leavesEq, leafEq, aUn, Sym.rd, aLoad, aField, aFad, aNilck, asI, aIxS, aIxA, aIxV, aExt, aPick, aCvi, aCvs, aLen, aLenS, aMin2, aMax2, aFold, aFoldL, bnd, aSlStr, aSlS, fillL, newO, kill, aStore, putL, getO, cellsOf, Sym.elems, Sym.elemsS, aApp, aCpy, aClr, Sym.reps, aCall, aCallQ, finishCall, Sym.refs, Sym.refs1, Sym.refs0, okv, ok1, Sym.atom, flat0, dedup, Sym.reach, Sym.pos, Sym.sub, renO, Sym.ren, Sym.ren1, Sym.ren0, gmap, mergeOld, mergeNew, mergeO, allFresh, Sym.det, Sym.det0, Sym.canon, keepEnv, aRes, Sym.one, frzM, frz1, frz0, frzL, args0, dead0, aCallM, aopM_s, if_true, if_false, ite_true, ite_false, reduceIte, reduceCtorEq, Nat.reduceEqDiff, ne_eq, Nat.reduceAdd, Nat.reduceSub, Nat.reduceMul, Nat.reduceLT, Nat.reduceLeDiff, Nat.reduceBEq, Nat.reduceBNe, Nat.reduceGT, Int.reduceEq, Int.reduceLT, Int.reduceLE, Int.reduceToNat, Int.reduceAdd, Int.reduceSub, Int.reduceMul, Int.reduceNeg, Int.reduceBEq, Int.reduceBNe, b_fuglemanref17_Glue_Put, Rg.o, Rg.c, Rg.no, Fr.c, hl, hlI, e1, e2, c, d1', d2, g1, g2, g3, g4]
  · have d1' : (f.np != parts n) = true := bne_iff_ne.2 d1
    unfold out
    simp -implicitDefEqProofs only [eqs, Sym.wants, Sym.get, Sym.ev, Sym.evs, Sym.evO, Sym.evP, Sym.put, Sym.lev, Sym.aq, Sym.ae, aBin, aInt, isShift, aEqB, aEqP, aEqS, leavesEq, leafEq, aUn, Sym.rd, aLoad, aField, aFad, aNilck, asI, aIxS, aIxA, aIxV, aExt, aPick, aCvi, aCvs, aLen, aLenS, aMin2, aMax2, aFold, aFoldL, bnd, aSlStr, aSlS, fillL, newO, kill, aStore, putL, getO, cellsOf, Sym.elems, Sym.elemsS, aApp, aCpy, aClr, Sym.reps, aCall, aCallQ, finishCall, Sym.refs, Sym.refs1, Sym.refs0, okv, ok1, Sym.atom, flat0, dedup, Sym.reach, Sym.pos, Sym.sub, renO, Sym.ren, Sym.ren1, Sym.ren0, gmap, mergeOld, mergeNew, mergeO, allFresh, Sym.det, Sym.det0, Sym.canon, keepEnv, aRes, Sym.one, frzM, frz1, frz0, frzL, args0, dead0, aCallM, aopM_s, if_true, if_false, ite_true, ite_false, reduceIte, reduceCtorEq, Nat.reduceEqDiff, ne_eq, Nat.reduceAdd, Nat.reduceSub, Nat.reduceMul, Nat.reduceLT, Nat.reduceLeDiff, Nat.reduceBEq, Nat.reduceBNe, Nat.reduceGT, Int.reduceEq, Int.reduceLT, Int.reduceLE, Int.reduceToNat, Int.reduceAdd, Int.reduceSub, Int.reduceMul, Int.reduceNeg, Int.reduceBEq, Int.reduceBNe, b_fuglemanref17_Glue_Put, Rg.o, Rg.c, Rg.no, Fr.c, hl, hlI, e1, e2, c, d1']
end Go.Proofs.Ytkaigdfklihlcaa.Refs
