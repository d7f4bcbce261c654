/- The reference's glue at the beginning of a subscriber. Written by a program for this claim. -/
import Derived.Test.YtkaigdfklihlcaaTPut2
namespace Go.Proofs.Ytkaigdfklihlcaa.RefsT
open Go Go.Proofs.Ytkaigdfklihlcaa.Sym Go.Proofs.Ytkaigdfklihlcaa.Tab Go.Proofs.Ytkaigdfklihlcaa.Blk Go.Proofs.Ytkaigdfklihlcaa.Glue Go.Proofs.Ytkaigdfklihlcaa.Refs
set_option linter.unusedVariables false
set_option linter.unusedSimpArgs false
set_option maxHeartbeats 4000000
set_option maxRecDepth 20000
theorem rput_next (tl : Tl) (k : Nat) (w : Rg) (f : Fr) (hf : f.In) (hw : w.In) (c : (f.kind != 4) = false) (c2 : fitN w.size f = true) (c4 : num w.inc w.seq < num f.inc f.seq) : acall T (k + 40) 32 1 [.ptr 0 0, .agg f.c] [w.oT tl false, w.c false] = some ⟨(w.put f).1, [(w.put f).2.oT tl false, (w.put f).2.c false], 2⟩ := by
  have c3 : ¬ num f.inc f.seq < num w.inc w.seq := by omega
  have hn := hw.n
  have hwl := hw.l
  have e : w.put f = (Rg.fresh w.size f).lay f := by rw [Rg.put, if_neg (by rw [c]; decide), if_neg (by rw [c2]; decide), if_neg c3, if_pos c4]
  rw [e]
  rw [acall_go (body := b_fuglemanref17_Glue_Put) rfl rfl (by show 1 ≤ 2; decide)]
  have hl := lengths_a (k + 18) w.size hn
  have pl := parts_le w.size
  rw [parts_cuts w.size hn] at hl
  have hlI : (((parts w.size).toNat : Nat) : Int) = parts w.size := by omega
  have e1 := w64u hf.part
  have e2 := w64u hf.np
  obtain ⟨d1, d2, d3⟩ := fit_of c2
  have d1' : (f.np != parts w.size) = false := by rw [d1]; simp
  have d2' : ¬ parts w.size ≤ f.part := by omega
  have d4 : f.part < parts w.size := by omega
  have d5 : f.part.toNat < (parts w.size).toNat := by have := hf.part; omega
  have g2 : 0 ≤ f.part := hf.part.1
  obtain ⟨x, hx1, hx2, hx3⟩ := cuts_size w.size hn f.part.toNat (by omega)
  have g1 : (strs (cuts (zeros (w.size).toNat)))[f.part.toNat]? = some (.v (.string x)) := by simp [strs, hx1]
  have g4 : ((f.b.size : Int) != (x.size : Int)) = false := by
    have e : ((f.part.toNat : Nat) : Int) = f.part := by omega
    rw [hx2, e, d3]
    simp
  have hb : f.b.size ≤ 16 := by
    have := piece_in w.size f.part (by omega)
    omega
  have n1 := number_a (k + 38) f.inc f.seq hf.inc hf.seq
  have n2 := number_a (k + 38) w.inc w.seq hw.inc hw.seq
  rw [fresh_lay _ _ d5]
  have y1 : (strs (List.replicate (parts w.size).toNat ByteArray.empty))[f.part.toNat]? = some (.v (.string ByteArray.empty)) := by simp [strs, d5]
  have y2 : f.part.toNat + 1 ≤ (parts w.size).toNat := d5
  have y3 : f.part.toNat ≤ (parts w.size).toNat - 1 := by omega
  have z1 : 0 ≤ parts w.size := pl.1
  have z2 : parts w.size ≤ parts w.size := Int.le_refl _
  have z3 : (parts w.size).toNat * 16 ≤ 140737488355328 := by omega
  have z4 : (parts w.size).toNat ≤ 9223372036854775807 := by omega
  have ih := put_loop tl (acall T (k + 39)) (k + 39) true { Rg.fresh w.size f with came := (List.replicate (parts w.size).toNat ByteArray.empty).set f.part.toNat f.b } (strs (cuts (zeros (w.size).toNat))) (by simp only [List.length_set, List.length_replicate]; omega) (fun x hx => by rcases List.mem_or_eq_of_mem_set hx with h | rfl; rw [List.eq_of_mem_replicate h]; decide; omega) (k + 38) 0 ByteArray.empty (Nat.zero_le _) (by simp only [List.length_set, List.length_replicate]; omega) (Nat.zero_le _)
  simp only [Rg.oT, Rg.c, Rg.fresh, List.length_set, List.length_replicate, List.drop_zero, Int.natCast_zero] at ih
  simp -implicitDefEqProofs only [eqs, Sym.wants, Sym.get, Sym.ev, Sym.evs, Sym.evO, Sym.evP, Sym.put, Sym.lev, Sym.aq, Sym.ae, aBin, aInt, isShift, aEqB, aEqP, aEqS, leavesEq, leafEq, aUn, Sym.rd, aLoad, aField, aFad, aNilck, asI, aIxS, aIxA, aIxV, aExt, aPick, aCvi, aCvs, aLen, aLenS, aMin2, aMax2, aFold, aFoldL, bnd, aSlStr, aSlS, fillL, newO, kill, aStore, putL, getO, cellsOf, Sym.elems, Sym.elemsS, aApp, aCpy, aClr, Sym.reps, aCall, aCallQ, finishCall, Sym.refs, Sym.refs1, Sym.refs0, okv, ok1, Sym.atom, flat0, dedup, Sym.reach, Sym.pos, Sym.sub, renO, Sym.ren, Sym.ren1, Sym.ren0, gmap, mergeOld, mergeNew, mergeO, allFresh, Sym.det, Sym.det0, Sym.canon, keepEnv, aRes, Sym.one, frzM, frz1, frz0, frzL, args0, dead0, aCallM, aopM_s, if_true, if_false, ite_true, ite_false, reduceIte, reduceCtorEq, Nat.reduceEqDiff, ne_eq, Nat.reduceAdd, Nat.reduceSub, Nat.reduceMul, Nat.reduceLT, Nat.reduceLeDiff, Nat.reduceBEq, Nat.reduceBNe, Nat.reduceGT, Int.reduceEq, Int.reduceLT, Int.reduceLE, Int.reduceToNat, Int.reduceAdd, Int.reduceSub, Int.reduceMul, Int.reduceNeg, Int.reduceBEq, Int.reduceBNe, b_fuglemanref17_Glue_Put, Rg.oT, Rg.c, Rg.noT, Rg.fresh, Fr.c, hl, hlI, e1, e2, c, d1', d2', d4, d5, g1, g2, g4, Int.toNat_natCast, strs_set, strs_rep, strs_len, strs_flat, strs_atom, List.length_set, List.length_replicate, n1, n2, c3, c4, y1, y2, y3, z1, z2, z3, z4, hwl, ih]
theorem rput_newN (tl : Tl) (k : Nat) (n : Int) (f : Fr) (hf : f.In) (hn : 1 ≤ n ∧ n ≤ 64) (c : (f.kind != 4) = false) (c2 : fitN n f = true) : acall T (k + 40) 32 1 [.ptr 0 0, .agg f.c] [Rg.noT n tl false] = some ⟨((Rg.fresh n f).lay f).1, [((Rg.fresh n f).lay f).2.oT tl false, ((Rg.fresh n f).lay f).2.c false], 2⟩ := by
  rw [acall_go (body := b_fuglemanref17_Glue_Put) rfl rfl (by show 1 ≤ 1; decide)]
  have hl := lengths_a (k + 18) n hn
  have pl := parts_le n
  rw [parts_cuts n hn] at hl
  have hlI : (((parts n).toNat : Nat) : Int) = parts n := by omega
  have e1 := w64u hf.part
  have e2 := w64u hf.np
  obtain ⟨d1, d2, d3⟩ := fit_of c2
  have d1' : (f.np != parts n) = false := by rw [d1]; simp
  have d2' : ¬ parts n ≤ f.part := by omega
  have d4 : f.part < parts n := by omega
  have d5 : f.part.toNat < (parts n).toNat := by have := hf.part; omega
  have g2 : 0 ≤ f.part := hf.part.1
  obtain ⟨x, hx1, hx2, hx3⟩ := cuts_size n hn f.part.toNat (by omega)
  have g1 : (strs (cuts (zeros (n).toNat)))[f.part.toNat]? = some (.v (.string x)) := by simp [strs, hx1]
  have g4 : ((f.b.size : Int) != (x.size : Int)) = false := by
    have e : ((f.part.toNat : Nat) : Int) = f.part := by omega
    rw [hx2, e, d3]
    simp
  have hb : f.b.size ≤ 16 := by
    have := piece_in n f.part (by omega)
    omega
  rw [fresh_lay _ _ d5]
  have y1 : (strs (List.replicate (parts n).toNat ByteArray.empty))[f.part.toNat]? = some (.v (.string ByteArray.empty)) := by simp [strs, d5]
  have y2 : f.part.toNat + 1 ≤ (parts n).toNat := d5
  have y3 : f.part.toNat ≤ (parts n).toNat - 1 := by omega
  have z1 : 0 ≤ parts n := pl.1
  have z2 : parts n ≤ parts n := Int.le_refl _
  have z3 : (parts n).toNat * 16 ≤ 140737488355328 := by omega
  have z4 : (parts n).toNat ≤ 9223372036854775807 := by omega
  have ih := put_loop tl (acall T (k + 39)) (k + 39) true { Rg.fresh n f with came := (List.replicate (parts n).toNat ByteArray.empty).set f.part.toNat f.b } (strs (cuts (zeros (n).toNat))) (by simp only [List.length_set, List.length_replicate]; omega) (fun x hx => by rcases List.mem_or_eq_of_mem_set hx with h | rfl; rw [List.eq_of_mem_replicate h]; decide; omega) (k + 38) 0 ByteArray.empty (Nat.zero_le _) (by simp only [List.length_set, List.length_replicate]; omega) (Nat.zero_le _)
  simp only [Rg.oT, Rg.c, Rg.fresh, List.length_set, List.length_replicate, List.drop_zero, Int.natCast_zero] at ih
  simp -implicitDefEqProofs only [eqs, Sym.wants, Sym.get, Sym.ev, Sym.evs, Sym.evO, Sym.evP, Sym.put, Sym.lev, Sym.aq, Sym.ae, aBin, aInt, isShift, aEqB, aEqP, aEqS, leavesEq, leafEq, aUn, Sym.rd, aLoad, aField, aFad, aNilck, asI, aIxS, aIxA, aIxV, aExt, aPick, aCvi, aCvs, aLen, aLenS, aMin2, aMax2, aFold, aFoldL, bnd, aSlStr, aSlS, fillL, newO, kill, aStore, putL, getO, cellsOf, Sym.elems, Sym.elemsS, aApp, aCpy, aClr, Sym.reps, aCall, aCallQ, finishCall, Sym.refs, Sym.refs1, Sym.refs0, okv, ok1, Sym.atom, flat0, dedup, Sym.reach, Sym.pos, Sym.sub, renO, Sym.ren, Sym.ren1, Sym.ren0, gmap, mergeOld, mergeNew, mergeO, allFresh, Sym.det, Sym.det0, Sym.canon, keepEnv, aRes, Sym.one, frzM, frz1, frz0, frzL, args0, dead0, aCallM, aopM_s, if_true, if_false, ite_true, ite_false, reduceIte, reduceCtorEq, Nat.reduceEqDiff, ne_eq, Nat.reduceAdd, Nat.reduceSub, Nat.reduceMul, Nat.reduceLT, Nat.reduceLeDiff, Nat.reduceBEq, Nat.reduceBNe, Nat.reduceGT, Int.reduceEq, Int.reduceLT, Int.reduceLE, Int.reduceToNat, Int.reduceAdd, Int.reduceSub, Int.reduceMul, Int.reduceNeg, Int.reduceBEq, Int.reduceBNe, b_fuglemanref17_Glue_Put, Rg.oT, Rg.c, Rg.noT, Rg.fresh, Fr.c, hl, hlI, e1, e2, c, d1', d2', d4, d5, g1, g2, g4, Int.toNat_natCast, strs_set, strs_rep, strs_len, strs_flat, strs_atom, List.length_set, List.length_replicate, y1, y2, y3, z1, z2, z3, z4, ih]
theorem rput_a (tl : Tl) (k : Nat) (w : Rg) (f : Fr) (hf : f.In) (hw : w.In) : acall T (k + 40) 32 1 [.ptr 0 0, .agg f.c] [w.oT tl false, w.c false] = some ⟨(w.put f).1, [(w.put f).2.oT tl false, (w.put f).2.c false], 2⟩ := by
  cases c : (f.kind != 4)
  · cases c2 : fitN w.size f
    · exact rput_bad tl k w f hf hw.n c c2
    · by_cases c3 : num f.inc f.seq < num w.inc w.seq
      · exact rput_old tl k w f hf hw c c2 c3
      · by_cases c4 : num w.inc w.seq < num f.inc f.seq
        · exact rput_next tl k w f hf hw c c2 c4
        · exact rput_go tl k w f hf hw c c2 c3 c4
  · exact rput_kind tl k w f c
end Go.Proofs.Ytkaigdfklihlcaa.RefsT
