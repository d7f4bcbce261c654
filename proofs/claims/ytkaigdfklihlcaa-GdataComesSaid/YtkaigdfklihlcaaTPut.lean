/- The reference's glue at the beginning of a subscriber. Written by a program for this claim. -/
import Derived.Test.YtkaigdfklihlcaaRPut3
namespace Go.Proofs.Ytkaigdfklihlcaa.RefsT
open Go Go.Proofs.Ytkaigdfklihlcaa.Sym Go.Proofs.Ytkaigdfklihlcaa.Tab Go.Proofs.Ytkaigdfklihlcaa.Blk Go.Proofs.Ytkaigdfklihlcaa.Glue Go.Proofs.Ytkaigdfklihlcaa.Refs
set_option linter.unusedVariables false
set_option linter.unusedSimpArgs false
set_option maxHeartbeats 4000000
set_option maxRecDepth 20000
/-- What a subscriber holds behind its glue. -/
structure Tl where
  front : ByteArray
  behind : ByteArray
  ainc : Int
  aseq : Int
  tinc : Int
  tseq : Int
  is : Bool
  fault : Bool
def _root_.Go.Proofs.Ytkaigdfklihlcaa.Refs.Rg.oT (g : Rg) (tl : Tl) (fr : Bool) : Sym.Obj := ⟨true, fr, false, [.v (.int .i64 g.size), .v (.bool true), .v (.int .u16 g.inc), .v (.int .u32 g.seq), .view 1 0 g.came.length 1 (some g.came.length), .v (.string tl.front), .v (.string tl.behind), .v (.int .u16 tl.ainc), .v (.int .u32 tl.aseq), .v (.int .u16 tl.tinc), .v (.int .u32 tl.tseq), .v (.bool tl.is), .v (.bool tl.fault)]⟩
def _root_.Go.Proofs.Ytkaigdfklihlcaa.Refs.Rg.noT (n : Int) (tl : Tl) (fr : Bool) : Sym.Obj := ⟨true, fr, true, [.v (.int .i64 n), .v (.bool false), .v (.int .u16 0), .v (.int .u32 0), .v (.slice none 0 0), .v (.string tl.front), .v (.string tl.behind), .v (.int .u16 tl.ainc), .v (.int .u32 tl.aseq), .v (.int .u16 tl.tinc), .v (.int .u32 tl.tseq), .v (.bool tl.is), .v (.bool tl.fault)]⟩
theorem put_loop (tl : Tl) (C : CT) (lf : Nat) (fr : Bool) (w : Rg) (ls : List AV) (hm : w.came.length ≤ 1000) (hs : ∀ x ∈ w.came, x.size ≤ 100) : ∀ (n i : Nat) (acc : ByteArray), i ≤ w.came.length → w.came.length - i ≤ n → acc.size ≤ 100 * i →
    FnR [.t 4, .t 5, .t 6] false true (Lh C lf (some ⟨[(0, .ptr 0 0), (7, .shr w.came.length false ls), (8, .v (.string acc)), (9, .v (.int .i64 i))], [w.oT tl false, w.c fr], 2, [0]⟩) [0, 7, 8, 9] l_fuglemanref17_Glue_Put_0 n [.b 0, .c l_fuglemanref17_Glue_Put_1]) = some ⟨outc acc (w.came.drop i), [w.oT tl false, w.c false], 2⟩
  | n, i, acc, hi, hn, ha => by
    rw [lh_as l_fuglemanref17_Glue_Put_0.eq_1]
    by_cases d : i < w.came.length
    · have d' : (i : Int) < w.came.length := by omega
      have e0 : w.came[i]? = some w.came[i] := List.getElem?_eq_getElem d
      have e1 : (strs w.came)[i]? = some (.v (.string w.came[i])) := by simp [strs, e0]
      have e2 : (0 : Int) ≤ i := by omega
      have e3 : IntKind.i64.wrap (i + 1) = i + 1 := w64 (by omega) (by omega)
      have e5 : w.came.drop i = w.came[i] :: w.came.drop (i + 1) := List.drop_eq_getElem_cons d
      have e7 : w.came[i].size ≤ 100 := hs _ (List.getElem_mem d)
      have e8 : acc.size + w.came[i].size ≤ 9223372036854775807 := by omega
      cases n with
      | zero => omega
      | succ n =>
        by_cases d2 : w.came[i] = ByteArray.empty
        · have e6 : outc acc (w.came.drop i) = out ByteArray.empty false 0 := by rw [e5, outc, if_pos d2]
          rw [e6]
          simp only [Rg.oT, Rg.c]
          simp -implicitDefEqProofs only [eqs, Sym.wants, Sym.get, Sym.ev, Sym.evs, Sym.evO, Sym.evP, Sym.put, Sym.lev, Sym.aq, Sym.ae, aBin, aInt, isShift, aEqB, aEqP, aEqS, leavesEq, leafEq, aUn, Sym.rd, aLoad, aField, aFad, aNilck, asI, aIxS, aIxA, aIxV, aExt, aPick, aCvi, aCvs, aLen, aLenS, aMin2, aMax2, aFold, aFoldL, bnd, aSlStr, aSlS, fillL, newO, kill, aStore, putL, getO, cellsOf, Sym.elems, Sym.elemsS, aApp, aCpy, aClr, Sym.reps, aCall, aCallQ, finishCall, Sym.refs, Sym.refs1, Sym.refs0, okv, ok1, Sym.atom, flat0, dedup, Sym.reach, Sym.pos, Sym.sub, renO, Sym.ren, Sym.ren1, Sym.ren0, gmap, mergeOld, mergeNew, mergeO, allFresh, Sym.det, Sym.det0, Sym.canon, keepEnv, aRes, Sym.one, frzM, frz1, frz0, frzL, args0, dead0, aCallM, aopM_s, if_true, if_false, ite_true, ite_false, reduceIte, reduceCtorEq, Nat.reduceEqDiff, ne_eq, Nat.reduceAdd, Nat.reduceSub, Nat.reduceMul, Nat.reduceLT, Nat.reduceLeDiff, Nat.reduceBEq, Nat.reduceBNe, Nat.reduceGT, Int.reduceEq, Int.reduceLT, Int.reduceLE, Int.reduceToNat, Int.reduceAdd, Int.reduceSub, Int.reduceMul, Int.reduceNeg, Int.reduceBEq, Int.reduceBNe, d', e1, e2, e3, d2, Int.toNat_natCast, out]
        · have ih := put_loop tl C lf fr w ls hm hs n (i + 1) (acc ++ w.came[i]) d (by omega) (by rw [ByteArray.size_append]; omega)
          have e6 : outc acc (w.came.drop i) = outc (acc ++ w.came[i]) (w.came.drop (i + 1)) := by rw [e5, outc, if_neg d2]
          rw [e6]
          rw [Int.natCast_add, Int.natCast_one] at ih
          simp only [Rg.oT, Rg.c] at ih ⊢
          simp -implicitDefEqProofs only [eqs, Sym.wants, Sym.get, Sym.ev, Sym.evs, Sym.evO, Sym.evP, Sym.put, Sym.lev, Sym.aq, Sym.ae, aBin, aInt, isShift, aEqB, aEqP, aEqS, leavesEq, leafEq, aUn, Sym.rd, aLoad, aField, aFad, aNilck, asI, aIxS, aIxA, aIxV, aExt, aPick, aCvi, aCvs, aLen, aLenS, aMin2, aMax2, aFold, aFoldL, bnd, aSlStr, aSlS, fillL, newO, kill, aStore, putL, getO, cellsOf, Sym.elems, Sym.elemsS, aApp, aCpy, aClr, Sym.reps, aCall, aCallQ, finishCall, Sym.refs, Sym.refs1, Sym.refs0, okv, ok1, Sym.atom, flat0, dedup, Sym.reach, Sym.pos, Sym.sub, renO, Sym.ren, Sym.ren1, Sym.ren0, gmap, mergeOld, mergeNew, mergeO, allFresh, Sym.det, Sym.det0, Sym.canon, keepEnv, aRes, Sym.one, frzM, frz1, frz0, frzL, args0, dead0, aCallM, aopM_s, if_true, if_false, ite_true, ite_false, reduceIte, reduceCtorEq, Nat.reduceEqDiff, ne_eq, Nat.reduceAdd, Nat.reduceSub, Nat.reduceMul, Nat.reduceLT, Nat.reduceLeDiff, Nat.reduceBEq, Nat.reduceBNe, Nat.reduceGT, Int.reduceEq, Int.reduceLT, Int.reduceLE, Int.reduceToNat, Int.reduceAdd, Int.reduceSub, Int.reduceMul, Int.reduceNeg, Int.reduceBEq, Int.reduceBNe, d', e1, e2, e3, e8, d2, Int.toNat_natCast, ih]
    · have d' : ¬ (i : Int) < w.came.length := by omega
      have e5 : w.came.drop i = [] := List.drop_eq_nil_of_le (by omega)
      rw [e5, outc]
      simp only [Rg.oT, Rg.c]
      simp -implicitDefEqProofs only [eqs, Sym.wants, Sym.get, Sym.ev, Sym.evs, Sym.evO, Sym.evP, Sym.put, Sym.lev, Sym.aq, Sym.ae, aBin, aInt, isShift, aEqB, aEqP, aEqS, leavesEq, leafEq, aUn, Sym.rd, aLoad, aField, aFad, aNilck, asI, aIxS, aIxA, aIxV, aExt, aPick, aCvi, aCvs, aLen, aLenS, aMin2, aMax2, aFold, aFoldL, bnd, aSlStr, aSlS, fillL, newO, kill, aStore, putL, getO, cellsOf, Sym.elems, Sym.elemsS, aApp, aCpy, aClr, Sym.reps, aCall, aCallQ, finishCall, Sym.refs, Sym.refs1, Sym.refs0, okv, ok1, Sym.atom, flat0, dedup, Sym.reach, Sym.pos, Sym.sub, renO, Sym.ren, Sym.ren1, Sym.ren0, gmap, mergeOld, mergeNew, mergeO, allFresh, Sym.det, Sym.det0, Sym.canon, keepEnv, aRes, Sym.one, frzM, frz1, frz0, frzL, args0, dead0, aCallM, aopM_s, if_true, if_false, ite_true, ite_false, reduceIte, reduceCtorEq, Nat.reduceEqDiff, ne_eq, Nat.reduceAdd, Nat.reduceSub, Nat.reduceMul, Nat.reduceLT, Nat.reduceLeDiff, Nat.reduceBEq, Nat.reduceBNe, Nat.reduceGT, Int.reduceEq, Int.reduceLT, Int.reduceLE, Int.reduceToNat, Int.reduceAdd, Int.reduceSub, Int.reduceMul, Int.reduceNeg, Int.reduceBEq, Int.reduceBNe, l_fuglemanref17_Glue_Put_1, d', out]
theorem rput_kind (tl : Tl) (k : Nat) (w : Rg) (f : Fr) (c : (f.kind != 4) = true) : acall T (k + 40) 32 1 [.ptr 0 0, .agg f.c] [w.oT tl false, w.c false] = some ⟨(w.put f).1, [(w.put f).2.oT tl false, (w.put f).2.c false], 2⟩ := by
  rw [acall_go (body := b_fuglemanref17_Glue_Put) rfl rfl (by show 1 ≤ 2; decide)]
  have e : w.put f = (out ByteArray.empty false 11, w) := by rw [Rg.put, if_pos c]
  rw [e]
  unfold out
  simp -implicitDefEqProofs only [eqs, Sym.wants, Sym.get, Sym.ev, Sym.evs, Sym.evO, Sym.evP, Sym.put, Sym.lev, Sym.aq, Sym.ae, aBin, aInt, isShift, aEqB, aEqP, aEqS, leavesEq, leafEq, aUn, Sym.rd, aLoad, aField, aFad, aNilck, asI, aIxS, aIxA, aIxV, aExt, aPick, aCvi, aCvs, aLen, aLenS, aMin2, aMax2, aFold, aFoldL, bnd, aSlStr, aSlS, fillL, newO, kill, aStore, putL, getO, cellsOf, Sym.elems, Sym.elemsS, aApp, aCpy, aClr, Sym.reps, aCall, aCallQ, finishCall, Sym.refs, Sym.refs1, Sym.refs0, okv, ok1, Sym.atom, flat0, dedup, Sym.reach, Sym.pos, Sym.sub, renO, Sym.ren, Sym.ren1, Sym.ren0, gmap, mergeOld, mergeNew, mergeO, allFresh, Sym.det, Sym.det0, Sym.canon, keepEnv, aRes, Sym.one, frzM, frz1, frz0, frzL, args0, dead0, aCallM, aopM_s, if_true, if_false, ite_true, ite_false, reduceIte, reduceCtorEq, Nat.reduceEqDiff, ne_eq, Nat.reduceAdd, Nat.reduceSub, Nat.reduceMul, Nat.reduceLT, Nat.reduceLeDiff, Nat.reduceBEq, Nat.reduceBNe, Nat.reduceGT, Int.reduceEq, Int.reduceLT, Int.reduceLE, Int.reduceToNat, Int.reduceAdd, Int.reduceSub, Int.reduceMul, Int.reduceNeg, Int.reduceBEq, Int.reduceBNe, b_fuglemanref17_Glue_Put, Rg.oT, Rg.c, Rg.noT, Fr.c, c]
theorem rput_kindN (tl : Tl) (k : Nat) (n : Int) (f : Fr) (c : (f.kind != 4) = true) : acall T (k + 40) 32 1 [.ptr 0 0, .agg f.c] [Rg.noT n tl false] = some ⟨out ByteArray.empty false 11, [Rg.noT n tl false], 2⟩ := by
  rw [acall_go (body := b_fuglemanref17_Glue_Put) rfl rfl (Nat.le_refl 1)]
  unfold out
  simp -implicitDefEqProofs only [eqs, Sym.wants, Sym.get, Sym.ev, Sym.evs, Sym.evO, Sym.evP, Sym.put, Sym.lev, Sym.aq, Sym.ae, aBin, aInt, isShift, aEqB, aEqP, aEqS, leavesEq, leafEq, aUn, Sym.rd, aLoad, aField, aFad, aNilck, asI, aIxS, aIxA, aIxV, aExt, aPick, aCvi, aCvs, aLen, aLenS, aMin2, aMax2, aFold, aFoldL, bnd, aSlStr, aSlS, fillL, newO, kill, aStore, putL, getO, cellsOf, Sym.elems, Sym.elemsS, aApp, aCpy, aClr, Sym.reps, aCall, aCallQ, finishCall, Sym.refs, Sym.refs1, Sym.refs0, okv, ok1, Sym.atom, flat0, dedup, Sym.reach, Sym.pos, Sym.sub, renO, Sym.ren, Sym.ren1, Sym.ren0, gmap, mergeOld, mergeNew, mergeO, allFresh, Sym.det, Sym.det0, Sym.canon, keepEnv, aRes, Sym.one, frzM, frz1, frz0, frzL, args0, dead0, aCallM, aopM_s, if_true, if_false, ite_true, ite_false, reduceIte, reduceCtorEq, Nat.reduceEqDiff, ne_eq, Nat.reduceAdd, Nat.reduceSub, Nat.reduceMul, Nat.reduceLT, Nat.reduceLeDiff, Nat.reduceBEq, Nat.reduceBNe, Nat.reduceGT, Int.reduceEq, Int.reduceLT, Int.reduceLE, Int.reduceToNat, Int.reduceAdd, Int.reduceSub, Int.reduceMul, Int.reduceNeg, Int.reduceBEq, Int.reduceBNe, b_fuglemanref17_Glue_Put, Rg.oT, Rg.c, Rg.noT, Fr.c, c]
theorem rput_bad (tl : Tl) (k : Nat) (w : Rg) (f : Fr) (hf : f.In) (hn : 1 ≤ w.size ∧ w.size ≤ 64) (c : (f.kind != 4) = false) (c2 : fitN w.size f = false) : acall T (k + 40) 32 1 [.ptr 0 0, .agg f.c] [w.oT tl false, w.c false] = some ⟨(w.put f).1, [(w.put f).2.oT tl false, (w.put f).2.c false], 2⟩ := by
  have e : w.put f = (out ByteArray.empty false 3, w) := by rw [Rg.put, if_neg (by rw [c]; decide), if_pos c2]
  rw [e]
  rw [acall_go (body := b_fuglemanref17_Glue_Put) rfl rfl (by show 1 ≤ 2; decide)]
  have hl := lengths_a (k + 18) w.size hn
  have hl1 := parts_cuts w.size hn
  have hlI : ((cuts (zeros (w.size).toNat)).length : Int) = parts w.size := by rw [hl1]; have := parts_le w.size; omega
  have e1 := w64u hf.part
  have e2 := w64u hf.np
  by_cases d1 : f.np = parts w.size
  · have d1' : (f.np != parts w.size) = false := by rw [d1]; simp
    by_cases d2 : parts w.size ≤ f.part
    · unfold out
      simp -implicitDefEqProofs only [eqs, Sym.wants, Sym.get, Sym.ev, Sym.evs, Sym.evO, Sym.evP, Sym.put, Sym.lev, Sym.aq, Sym.ae, aBin, aInt, isShift, aEqB, aEqP, aEqS, leavesEq, leafEq, aUn, Sym.rd, aLoad, aField, aFad, aNilck, asI, aIxS, aIxA, aIxV, aExt, aPick, aCvi, aCvs, aLen, aLenS, aMin2, aMax2, aFold, aFoldL, bnd, aSlStr, aSlS, fillL, newO, kill, aStore, putL, getO, cellsOf, Sym.elems, Sym.elemsS, aApp, aCpy, aClr, Sym.reps, aCall, aCallQ, finishCall, Sym.refs, Sym.refs1, Sym.refs0, okv, ok1, Sym.atom, flat0, dedup, Sym.reach, Sym.pos, Sym.sub, renO, Sym.ren, Sym.ren1, Sym.ren0, gmap, mergeOld, mergeNew, mergeO, allFresh, Sym.det, Sym.det0, Sym.canon, keepEnv, aRes, Sym.one, frzM, frz1, frz0, frzL, args0, dead0, aCallM, aopM_s, if_true, if_false, ite_true, ite_false, reduceIte, reduceCtorEq, Nat.reduceEqDiff, ne_eq, Nat.reduceAdd, Nat.reduceSub, Nat.reduceMul, Nat.reduceLT, Nat.reduceLeDiff, Nat.reduceBEq, Nat.reduceBNe, Nat.reduceGT, Int.reduceEq, Int.reduceLT, Int.reduceLE, Int.reduceToNat, Int.reduceAdd, Int.reduceSub, Int.reduceMul, Int.reduceNeg, Int.reduceBEq, Int.reduceBNe, b_fuglemanref17_Glue_Put, Rg.oT, Rg.c, Rg.noT, Fr.c, hl, hlI, e1, e2, c, d1', d2]
    · obtain ⟨x, hx1, hx2, hx3⟩ := cuts_size w.size hn f.part.toNat (by have := hf.part; omega)
      have g1 : (strs (cuts (zeros (w.size).toNat)))[f.part.toNat]? = some (.v (.string x)) := by simp [strs, hx1]
      have g2 : 0 ≤ f.part := hf.part.1
      have g3 : f.part < parts w.size := by omega
      have g4 : ((f.b.size : Int) != (x.size : Int)) = true := by
        rw [hx2]
        have : ((f.part.toNat : Nat) : Int) = f.part := by omega
        rw [this] at hx3 ⊢
        unfold fitN at c2
        simp only [d1, beq_self_eq_true, Bool.true_and, hx3, decide_true] at c2
        exact bne_iff_ne.2 (beq_eq_false_iff_ne.1 c2)
      unfold out
      simp -implicitDefEqProofs only [eqs, Sym.wants, Sym.get, Sym.ev, Sym.evs, Sym.evO, Sym.evP, Sym.put, Sym.lev, Sym.aq, Sym.ae, aBin, aInt, isShift, aEqB, aEqP, aEqS, leavesEq, leafEq, aUn, Sym.rd, aLoad, aField, aFad, aNilck, asI, aIxS, aIxA, aIxV, aExt, aPick, aCvi, aCvs, aLen, aLenS, aMin2, aMax2, aFold, aFoldL, bnd, aSlStr, aSlS, fillL, newO, kill, aStore, putL, getO, cellsOf, Sym.elems, Sym.elemsS, aApp, aCpy, aClr, Sym.reps, aCall, aCallQ, finishCall, Sym.refs, Sym.refs1, Sym.refs0, okv, ok1, Sym.atom, flat0, dedup, Sym.reach, Sym.pos, Sym.sub, renO, Sym.ren, Sym.ren1, Sym.ren0, gmap, mergeOld, mergeNew, mergeO, allFresh, Sym.det, Sym.det0, Sym.canon, keepEnv, aRes, Sym.one, frzM, frz1, frz0, frzL, args0, dead0, aCallM, aopM_s, if_true, if_false, ite_true, ite_false, reduceIte, reduceCtorEq, Nat.reduceEqDiff, ne_eq, Nat.reduceAdd, Nat.reduceSub, Nat.reduceMul, Nat.reduceLT, Nat.reduceLeDiff, Nat.reduceBEq, Nat.reduceBNe, Nat.reduceGT, Int.reduceEq, Int.reduceLT, Int.reduceLE, Int.reduceToNat, Int.reduceAdd, Int.reduceSub, Int.reduceMul, Int.reduceNeg, Int.reduceBEq, Int.reduceBNe, b_fuglemanref17_Glue_Put, Rg.oT, Rg.c, Rg.noT, Fr.c, hl, hlI, e1, e2, c, d1', d2, g1, g2, g3, g4]
  · have d1' : (f.np != parts w.size) = true := bne_iff_ne.2 d1
    unfold out
    simp -implicitDefEqProofs only [eqs, Sym.wants, Sym.get, Sym.ev, Sym.evs, Sym.evO, Sym.evP, Sym.put, Sym.lev, Sym.aq, Sym.ae, aBin, aInt, isShift, aEqB, aEqP, aEqS, leavesEq, leafEq, aUn, Sym.rd, aLoad, aField, aFad, aNilck, asI, aIxS, aIxA, aIxV, aExt, aPick, aCvi, aCvs, aLen, aLenS, aMin2, aMax2, aFold, aFoldL, bnd, aSlStr, aSlS, fillL, newO, kill, aStore, putL, getO, cellsOf, Sym.elems, Sym.elemsS, aApp, aCpy, aClr, Sym.reps, aCall, aCallQ, finishCall, Sym.refs, Sym.refs1, Sym.refs0, okv, ok1, Sym.atom, flat0, dedup, Sym.reach, Sym.pos, Sym.sub, renO, Sym.ren, Sym.ren1, Sym.ren0, gmap, mergeOld, mergeNew, mergeO, allFresh, Sym.det, Sym.det0, Sym.canon, keepEnv, aRes, Sym.one, frzM, frz1, frz0, frzL, args0, dead0, aCallM, aopM_s, if_true, if_false, ite_true, ite_false, reduceIte, reduceCtorEq, Nat.reduceEqDiff, ne_eq, Nat.reduceAdd, Nat.reduceSub, Nat.reduceMul, Nat.reduceLT, Nat.reduceLeDiff, Nat.reduceBEq, Nat.reduceBNe, Nat.reduceGT, Int.reduceEq, Int.reduceLT, Int.reduceLE, Int.reduceToNat, Int.reduceAdd, Int.reduceSub, Int.reduceMul, Int.reduceNeg, Int.reduceBEq, Int.reduceBNe, b_fuglemanref17_Glue_Put, Rg.oT, Rg.c, Rg.noT, Fr.c, hl, hlI, e1, e2, c, d1']
theorem rput_badN (tl : Tl) (k : Nat) (n : Int) (f : Fr) (hf : f.In) (hn : 1 ≤ n ∧ n ≤ 64) (c : (f.kind != 4) = false) (c2 : fitN n f = false) : acall T (k + 40) 32 1 [.ptr 0 0, .agg f.c] [Rg.noT n tl false] = some ⟨out ByteArray.empty false 3, [Rg.noT n tl false], 2⟩ := by
  rw [acall_go (body := b_fuglemanref17_Glue_Put) rfl rfl (by show 1 ≤ 1; decide)]
  have hl := lengths_a (k + 18) n hn
  have hl1 := parts_cuts n hn
  have hlI : ((cuts (zeros (n).toNat)).length : Int) = parts n := by rw [hl1]; have := parts_le n; omega
  have e1 := w64u hf.part
  have e2 := w64u hf.np
  by_cases d1 : f.np = parts n
  · have d1' : (f.np != parts n) = false := by rw [d1]; simp
    by_cases d2 : parts n ≤ f.part
    · unfold out
      simp -implicitDefEqProofs only [eqs, Sym.wants, Sym.get, Sym.ev, Sym.evs, Sym.evO, Sym.evP, Sym.put, Sym.lev, Sym.aq, Sym.ae, aBin, aInt, isShift, aEqB, aEqP, aEqS, leavesEq, leafEq, aUn, Sym.rd, aLoad, aField, aFad, aNilck, asI, aIxS, aIxA, aIxV, aExt, aPick, aCvi, aCvs, aLen, aLenS, aMin2, aMax2, aFold, aFoldL, bnd, aSlStr, aSlS, fillL, newO, kill, aStore, putL, getO, cellsOf, Sym.elems, Sym.elemsS, aApp, aCpy, aClr, Sym.reps, aCall, aCallQ, finishCall, Sym.refs, Sym.refs1, Sym.refs0, okv, ok1, Sym.atom, flat0, dedup, Sym.reach, Sym.pos, Sym.sub, renO, Sym.ren, Sym.ren1, Sym.ren0, gmap, mergeOld, mergeNew, mergeO, allFresh, Sym.det, Sym.det0, Sym.canon, keepEnv, aRes, Sym.one, frzM, frz1, frz0, frzL, args0, dead0, aCallM, aopM_s, if_true, if_false, ite_true, ite_false, reduceIte, reduceCtorEq, Nat.reduceEqDiff, ne_eq, Nat.reduceAdd, Nat.reduceSub, Nat.reduceMul, Nat.reduceLT, Nat.reduceLeDiff, Nat.reduceBEq, Nat.reduceBNe, Nat.reduceGT, Int.reduceEq, Int.reduceLT, Int.reduceLE, Int.reduceToNat, Int.reduceAdd, Int.reduceSub, Int.reduceMul, Int.reduceNeg, Int.reduceBEq, Int.reduceBNe, b_fuglemanref17_Glue_Put, Rg.oT, Rg.c, Rg.noT, Fr.c, hl, hlI, e1, e2, c, d1', d2]
    · obtain ⟨x, hx1, hx2, hx3⟩ := cuts_size n hn f.part.toNat (by have := hf.part; omega)
      have g1 : (strs (cuts (zeros (n).toNat)))[f.part.toNat]? = some (.v (.string x)) := by simp [strs, hx1]
      have g2 : 0 ≤ f.part := hf.part.1
      have g3 : f.part < parts n := by omega
      have g4 : ((f.b.size : Int) != (x.size : Int)) = true := by
        rw [hx2]
        have : ((f.part.toNat : Nat) : Int) = f.part := by omega
        rw [this] at hx3 ⊢
        unfold fitN at c2
        simp only [d1, beq_self_eq_true, Bool.true_and, hx3, decide_true] at c2
        exact bne_iff_ne.2 (beq_eq_false_iff_ne.1 c2)
      unfold out
      simp -implicitDefEqProofs only [eqs, Sym.wants, Sym.get, Sym.ev, Sym.evs, Sym.evO, Sym.evP, Sym.put, Sym.lev, Sym.aq, Sym.ae, aBin, aInt, isShift, aEqB, aEqP, aEqS, leavesEq, leafEq, aUn, Sym.rd, aLoad, aField, aFad, aNilck, asI, aIxS, aIxA, aIxV, aExt, aPick, aCvi, aCvs, aLen, aLenS, aMin2, aMax2, aFold, aFoldL, bnd, aSlStr, aSlS, fillL, newO, kill, aStore, putL, getO, cellsOf, Sym.elems, Sym.elemsS, aApp, aCpy, aClr, Sym.reps, aCall, aCallQ, finishCall, Sym.refs, Sym.refs1, Sym.refs0, okv, ok1, Sym.atom, flat0, dedup, Sym.reach, Sym.pos, Sym.sub, renO, Sym.ren, Sym.ren1, Sym.ren0, gmap, mergeOld, mergeNew, mergeO, allFresh, Sym.det, Sym.det0, Sym.canon, keepEnv, aRes, Sym.one, frzM, frz1, frz0, frzL, args0, dead0, aCallM, aopM_s, if_true, if_false, ite_true, ite_false, reduceIte, reduceCtorEq, Nat.reduceEqDiff, ne_eq, Nat.reduceAdd, Nat.reduceSub, Nat.reduceMul, Nat.reduceLT, Nat.reduceLeDiff, Nat.reduceBEq, Nat.reduceBNe, Nat.reduceGT, Int.reduceEq, Int.reduceLT, Int.reduceLE, Int.reduceToNat, Int.reduceAdd, Int.reduceSub, Int.reduceMul, Int.reduceNeg, Int.reduceBEq, Int.reduceBNe, b_fuglemanref17_Glue_Put, Rg.oT, Rg.c, Rg.noT, Fr.c, hl, hlI, e1, e2, c, d1', d2, g1, g2, g3, g4]
  · have d1' : (f.np != parts n) = true := bne_iff_ne.2 d1
    unfold out
    simp -implicitDefEqProofs only [eqs, Sym.wants, Sym.get, Sym.ev, Sym.evs, Sym.evO, Sym.evP, Sym.put, Sym.lev, Sym.aq, Sym.ae, aBin, aInt, isShift, aEqB, aEqP, aEqS, leavesEq, leafEq, aUn, Sym.rd, aLoad, aField, aFad, aNilck, asI, aIxS, aIxA, aIxV, aExt, aPick, aCvi, aCvs, aLen, aLenS, aMin2, aMax2, aFold, aFoldL, bnd, aSlStr, aSlS, fillL, newO, kill, aStore, putL, getO, cellsOf, Sym.elems, Sym.elemsS, aApp, aCpy, aClr, Sym.reps, aCall, aCallQ, finishCall, Sym.refs, Sym.refs1, Sym.refs0, okv, ok1, Sym.atom, flat0, dedup, Sym.reach, Sym.pos, Sym.sub, renO, Sym.ren, Sym.ren1, Sym.ren0, gmap, mergeOld, mergeNew, mergeO, allFresh, Sym.det, Sym.det0, Sym.canon, keepEnv, aRes, Sym.one, frzM, frz1, frz0, frzL, args0, dead0, aCallM, aopM_s, if_true, if_false, ite_true, ite_false, reduceIte, reduceCtorEq, Nat.reduceEqDiff, ne_eq, Nat.reduceAdd, Nat.reduceSub, Nat.reduceMul, Nat.reduceLT, Nat.reduceLeDiff, Nat.reduceBEq, Nat.reduceBNe, Nat.reduceGT, Int.reduceEq, Int.reduceLT, Int.reduceLE, Int.reduceToNat, Int.reduceAdd, Int.reduceSub, Int.reduceMul, Int.reduceNeg, Int.reduceBEq, Int.reduceBNe, b_fuglemanref17_Glue_Put, Rg.oT, Rg.c, Rg.noT, Fr.c, hl, hlI, e1, e2, c, d1']
end Go.Proofs.Ytkaigdfklihlcaa.RefsT
