/- The reference's glue at the beginning of a subscriber. Written by a program for this claim. -/
import Derived.Test.YtkaigdfklihlcaaTPut
namespace Go.Proofs.Ytkaigdfklihlcaa.RefsT
open Go Go.Proofs.Ytkaigdfklihlcaa.Sym Go.Proofs.Ytkaigdfklihlcaa.Tab Go.Proofs.Ytkaigdfklihlcaa.Blk Go.Proofs.Ytkaigdfklihlcaa.Glue Go.Proofs.Ytkaigdfklihlcaa.Refs
set_option linter.unusedVariables false
set_option linter.unusedSimpArgs false
set_option maxHeartbeats 4000000
set_option maxRecDepth 20000
theorem rput_old (tl : Tl) (k : Nat) (w : Rg) (f : Fr) (hf : f.In) (hw : w.In) (c : (f.kind != 4) = false) (c2 : fitN w.size f = true) (c3 : num f.inc f.seq < num w.inc w.seq) : acall T (k + 40) 32 1 [.ptr 0 0, .agg f.c] [w.oT tl false, w.c false] = some ⟨(w.put f).1, [(w.put f).2.oT tl false, (w.put f).2.c false], 2⟩ := by
  have hn := hw.n
  have e : w.put f = (out ByteArray.empty false 1, w) := by rw [Rg.put, if_neg (by rw [c]; decide), if_neg (by rw [c2]; decide), if_pos c3]
  rw [e]
  rw [acall_go (body := b_fuglemanref17_Glue_Put) rfl rfl (by show 1 ≤ 2; decide)]
  have hl := lengths_a (k + 18) w.size hn
  have pl := parts_le w.size
  rw [parts_cuts w.size hn] at hl
  have hlI : (((parts w.size).toNat : Nat) : Int) = parts w.size := by omega
  have e1 := w64u hf.part
  have e2 := w64u hf.np
  obtain ⟨d1, d2, d3⟩ := fit_of c2
  have d1' : (f.np != parts w.size) = false := by rw [d1]; simp
  have d2' : ¬ parts w.size ≤ f.part := by omega
  have d4 : f.part < parts w.size := by omega
  have d5 : f.part.toNat < (parts w.size).toNat := by have := hf.part; omega
  have g2 : 0 ≤ f.part := hf.part.1
  obtain ⟨x, hx1, hx2, hx3⟩ := cuts_size w.size hn f.part.toNat (by omega)
  have g1 : (strs (cuts (zeros (w.size).toNat)))[f.part.toNat]? = some (.v (.string x)) := by simp [strs, hx1]
  have g4 : ((f.b.size : Int) != (x.size : Int)) = false := by
    have e : ((f.part.toNat : Nat) : Int) = f.part := by omega
    rw [hx2, e, d3]
    simp
  have hb : f.b.size ≤ 16 := by
    have := piece_in w.size f.part (by omega)
    omega
  have n1 := number_a (k + 38) f.inc f.seq hf.inc hf.seq
  have n2 := number_a (k + 38) w.inc w.seq hw.inc hw.seq
  unfold out
  simp -implicitDefEqProofs only [eqs, Sym.wants, Sym.get, Sym.ev, Sym.evs, Sym.evO, Sym.evP, Sym.put, Sym.lev, Sym.aq, Sym.ae, aBin, aInt, isShift, aEqB, aEqP, aEqS, leavesEq, leafEq, aUn, Sym.rd, aLoad, aField, aFad, aNilck, asI, aIxS, aIxA, aIxV, aExt, aPick, aCvi, aCvs, aLen, aLenS, aMin2, aMax2, aFold, aFoldL, bnd, aSlStr, aSlS, fillL, newO, kill, aStore, putL, getO, cellsOf, Sym.elems, Sym.elemsS, aApp, aCpy, aClr, Sym.reps, aCall, aCallQ, finishCall, Sym.refs, Sym.refs1, Sym.refs0, okv, ok1, Sym.atom, flat0, dedup, Sym.reach, Sym.pos, Sym.sub, renO, Sym.ren, Sym.ren1, Sym.ren0, gmap, mergeOld, mergeNew, mergeO, allFresh, Sym.det, Sym.det0, Sym.canon, keepEnv, aRes, Sym.one, frzM, frz1, frz0, frzL, args0, dead0, aCallM, aopM_s, if_true, if_false, ite_true, ite_false, reduceIte, reduceCtorEq, Nat.reduceEqDiff, ne_eq, Nat.reduceAdd, Nat.reduceSub, Nat.reduceMul, Nat.reduceLT, Nat.reduceLeDiff, Nat.reduceBEq, Nat.reduceBNe, Nat.reduceGT, Int.reduceEq, Int.reduceLT, Int.reduceLE, Int.reduceToNat, Int.reduceAdd, Int.reduceSub, Int.reduceMul, Int.reduceNeg, Int.reduceBEq, Int.reduceBNe, b_fuglemanref17_Glue_Put, Rg.oT, Rg.c, Rg.noT, Fr.c, hl, hlI, e1, e2, c, d1', d2', d4, d5, g1, g2, g4, Int.toNat_natCast, strs_set, strs_rep, strs_len, strs_flat, strs_atom, List.length_set, List.length_replicate, n1, n2, c3]
theorem rput_go (tl : Tl) (k : Nat) (w : Rg) (f : Fr) (hf : f.In) (hw : w.In) (c : (f.kind != 4) = false) (c2 : fitN w.size f = true) (c3 : ¬ num f.inc f.seq < num w.inc w.seq) (c4 : ¬ num w.inc w.seq < num f.inc f.seq) : acall T (k + 40) 32 1 [.ptr 0 0, .agg f.c] [w.oT tl false, w.c false] = some ⟨(w.put f).1, [(w.put f).2.oT tl false, (w.put f).2.c false], 2⟩ := by
  have hn := hw.n
  have hwl := hw.l
  have e : w.put f = w.lay f := by rw [Rg.put, if_neg (by rw [c]; decide), if_neg (by rw [c2]; decide), if_neg c3, if_neg c4]
  rw [e]
  rw [acall_go (body := b_fuglemanref17_Glue_Put) rfl rfl (by show 1 ≤ 2; decide)]
  have hl := lengths_a (k + 18) w.size hn
  have pl := parts_le w.size
  rw [parts_cuts w.size hn] at hl
  have hlI : (((parts w.size).toNat : Nat) : Int) = parts w.size := by omega
  have e1 := w64u hf.part
  have e2 := w64u hf.np
  obtain ⟨d1, d2, d3⟩ := fit_of c2
  have d1' : (f.np != parts w.size) = false := by rw [d1]; simp
  have d2' : ¬ parts w.size ≤ f.part := by omega
  have d4 : f.part < parts w.size := by omega
  have d5 : f.part.toNat < (parts w.size).toNat := by have := hf.part; omega
  have g2 : 0 ≤ f.part := hf.part.1
  obtain ⟨x, hx1, hx2, hx3⟩ := cuts_size w.size hn f.part.toNat (by omega)
  have g1 : (strs (cuts (zeros (w.size).toNat)))[f.part.toNat]? = some (.v (.string x)) := by simp [strs, hx1]
  have g4 : ((f.b.size : Int) != (x.size : Int)) = false := by
    have e : ((f.part.toNat : Nat) : Int) = f.part := by omega
    rw [hx2, e, d3]
    simp
  have hb : f.b.size ≤ 16 := by
    have := piece_in w.size f.part (by omega)
    omega
  have n1 := number_a (k + 38) f.inc f.seq hf.inc hf.seq
  have n2 := number_a (k + 38) w.inc w.seq hw.inc hw.seq
  have y0 : w.came[f.part.toNat]? = some w.came[f.part.toNat] := List.getElem?_eq_getElem (by omega)
  have y1 : (strs w.came)[f.part.toNat]? = some (.v (.string w.came[f.part.toNat])) := by simp [strs, y0]
  have y2 : f.part.toNat + 1 ≤ (parts w.size).toNat := d5
  have y3 : f.part.toNat ≤ (parts w.size).toNat - 1 := by omega
  unfold Rg.lay
  rw [y0, Option.getD_some]
  by_cases c5 : w.came[f.part.toNat] = ByteArray.empty
  · rw [if_pos c5]
    have ih := put_loop tl (acall T (k + 39)) (k + 39) false { w with came := w.came.set f.part.toNat f.b } (strs (cuts (zeros (w.size).toNat))) (by simp only [List.length_set, hwl]; omega) (fun x hx => by rcases List.mem_or_eq_of_mem_set hx with h | rfl; exact hw.s x h; omega) (k + 38) 0 ByteArray.empty (Nat.zero_le _) (by simp only [List.length_set, hwl]; omega) (Nat.zero_le _)
    simp only [Rg.oT, Rg.c, List.length_set, hwl, List.drop_zero, Int.natCast_zero] at ih
    simp -implicitDefEqProofs only [eqs, Sym.wants, Sym.get, Sym.ev, Sym.evs, Sym.evO, Sym.evP, Sym.put, Sym.lev, Sym.aq, Sym.ae, aBin, aInt, isShift, aEqB, aEqP, aEqS, leavesEq, leafEq, aUn, Sym.rd, aLoad, aField, aFad, aNilck, asI, aIxS, aIxA, aIxV, aExt, aPick, aCvi, aCvs, aLen, aLenS, aMin2, aMax2, aFold, aFoldL, bnd, aSlStr, aSlS, fillL, newO, kill, aStore, putL, getO, cellsOf, Sym.elems, Sym.elemsS, aApp, aCpy, aClr, Sym.reps, aCall, aCallQ, finishCall, Sym.refs, Sym.refs1, Sym.refs0, okv, ok1, Sym.atom, flat0, dedup, Sym.reach, Sym.pos, Sym.sub, renO, Sym.ren, Sym.ren1, Sym.ren0, gmap, mergeOld, mergeNew, mergeO, allFresh, Sym.det, Sym.det0, Sym.canon, keepEnv, aRes, Sym.one, frzM, frz1, frz0, frzL, args0, dead0, aCallM, aopM_s, if_true, if_false, ite_true, ite_false, reduceIte, reduceCtorEq, Nat.reduceEqDiff, ne_eq, Nat.reduceAdd, Nat.reduceSub, Nat.reduceMul, Nat.reduceLT, Nat.reduceLeDiff, Nat.reduceBEq, Nat.reduceBNe, Nat.reduceGT, Int.reduceEq, Int.reduceLT, Int.reduceLE, Int.reduceToNat, Int.reduceAdd, Int.reduceSub, Int.reduceMul, Int.reduceNeg, Int.reduceBEq, Int.reduceBNe, b_fuglemanref17_Glue_Put, Rg.oT, Rg.c, Rg.noT, Fr.c, hl, hlI, e1, e2, c, d1', d2', d4, d5, g1, g2, g4, Int.toNat_natCast, strs_set, strs_rep, strs_len, strs_flat, strs_atom, List.length_set, List.length_replicate, n1, n2, c3, c4, c5, y1, y2, y3, hwl, ih]
  · rw [if_neg c5]
    unfold out
    simp -implicitDefEqProofs only [eqs, Sym.wants, Sym.get, Sym.ev, Sym.evs, Sym.evO, Sym.evP, Sym.put, Sym.lev, Sym.aq, Sym.ae, aBin, aInt, isShift, aEqB, aEqP, aEqS, leavesEq, leafEq, aUn, Sym.rd, aLoad, aField, aFad, aNilck, asI, aIxS, aIxA, aIxV, aExt, aPick, aCvi, aCvs, aLen, aLenS, aMin2, aMax2, aFold, aFoldL, bnd, aSlStr, aSlS, fillL, newO, kill, aStore, putL, getO, cellsOf, Sym.elems, Sym.elemsS, aApp, aCpy, aClr, Sym.reps, aCall, aCallQ, finishCall, Sym.refs, Sym.refs1, Sym.refs0, okv, ok1, Sym.atom, flat0, dedup, Sym.reach, Sym.pos, Sym.sub, renO, Sym.ren, Sym.ren1, Sym.ren0, gmap, mergeOld, mergeNew, mergeO, allFresh, Sym.det, Sym.det0, Sym.canon, keepEnv, aRes, Sym.one, frzM, frz1, frz0, frzL, args0, dead0, aCallM, aopM_s, if_true, if_false, ite_true, ite_false, reduceIte, reduceCtorEq, Nat.reduceEqDiff, ne_eq, Nat.reduceAdd, Nat.reduceSub, Nat.reduceMul, Nat.reduceLT, Nat.reduceLeDiff, Nat.reduceBEq, Nat.reduceBNe, Nat.reduceGT, Int.reduceEq, Int.reduceLT, Int.reduceLE, Int.reduceToNat, Int.reduceAdd, Int.reduceSub, Int.reduceMul, Int.reduceNeg, Int.reduceBEq, Int.reduceBNe, b_fuglemanref17_Glue_Put, Rg.oT, Rg.c, Rg.noT, Fr.c, hl, hlI, e1, e2, c, d1', d2', d4, d5, g1, g2, g4, Int.toNat_natCast, strs_set, strs_rep, strs_len, strs_flat, strs_atom, List.length_set, List.length_replicate, n1, n2, c3, c4, c5, y1, y2, y3, hwl]
end Go.Proofs.Ytkaigdfklihlcaa.RefsT
