/- The document's publisher. -/
import Derived.Test.YtkaigdfklihlcaaGPub
namespace Go.Proofs.Ytkaigdfklihlcaa.GPub
open Go Go.Proofs.Ytkaigdfklihlcaa.Sym Go.Proofs.Ytkaigdfklihlcaa.Tab Go.Proofs.Ytkaigdfklihlcaa.Blk Go.Proofs.Ytkaigdfklihlcaa.Glue Go.Proofs.Ytkaigdfklihlcaa.Refs Go.Proofs.Ytkaigdfklihlcaa.Spl
set_option linter.unusedVariables false
set_option linter.unusedSimpArgs false
set_option maxHeartbeats 4000000
set_option maxRecDepth 20000
structure Rp where
  n : Int
  inc : Int
  seq : Int
  last : ByteArray
/-- What is under way: nil, or a row. -/
def wayA (nil : Bool) (l : List Fr) : AV := if nil = true then .v (.slice none 0 0) else .shr l.length false (frs l)
def Rp.o (w : Rp) (a : AV) (fr : Bool) : Sym.Obj := ⟨true, fr, true, [.v (.int .i64 w.n), .v (.int .u16 w.inc), .v (.int .u32 w.seq), .v (.string w.last), a]⟩
def Rp.com (w : Rp) (s : ByteArray) : Rp := if comE w.n w.seq s = 0 then { w with last := s, seq := w.seq + 1 } else w
theorem rcommit_a (k : Nat) (w : Rp) (nil : Bool) (l : List Fr) (s : ByteArray) (h : 0 ≤ w.seq ∧ w.seq ≤ 4294967295) : acall T (k + 1) 24 1 [.ptr 0 0, .v (.string s)] [w.o (wayA nil l) false] = some ⟨.v (.int .i64 (comE w.n w.seq s)), [(w.com s).o (wayA nil l) false], 2⟩ := by
  rw [acall_go (body := b_fuglemanref18_Pub_Commit) rfl rfl (Nat.le_refl 1)]
  unfold Rp.com comE wayA
  cases nil <;>
  · by_cases c1 : (s.size : Int) = w.n
    · have d1 : ((s.size : Int) != w.n) = false := by rw [c1]; simp
      by_cases c2 : w.seq = 4294967295
      · simp -implicitDefEqProofs only [eqs, Sym.wants, Sym.get, Sym.ev, Sym.evs, Sym.evO, Sym.evP, Sym.put, Sym.lev, Sym.aq, Sym.ae, aBin, aInt, isShift, aEqB, aEqP, aEqS, leavesEq, leafEq, aUn, Sym.rd, aLoad, aField, aFad, aNilck, asI, aIxS, aIxA, aIxV, aExt, aPick, aCvi, aCvs, aLen, aLenS, aMin2, aMax2, aFold, aFoldL, bnd, aSlStr, aSlS, fillL, newO, kill, aStore, putL, getO, cellsOf, Sym.elems, Sym.elemsS, aApp, aCpy, aClr, Sym.reps, aCall, aCallQ, finishCall, Sym.refs, Sym.refs1, Sym.refs0, okv, ok1, Sym.atom, flat0, dedup, Sym.reach, Sym.pos, Sym.sub, renO, Sym.ren, Sym.ren1, Sym.ren0, gmap, mergeOld, mergeNew, mergeO, allFresh, Sym.det, Sym.det0, Sym.canon, keepEnv, aRes, Sym.one, frzM, frz1, frz0, frzL, args0, dead0, lh_some, aCallM, aopM_s, if_true, if_false, ite_true, ite_false, reduceIte, reduceCtorEq, Nat.reduceEqDiff, ne_eq, Nat.reduceAdd, Nat.reduceSub, Nat.reduceMul, Nat.reduceLT, Nat.reduceLeDiff, Nat.reduceBEq, Nat.reduceBNe, Nat.reduceGT, Int.reduceEq, Int.reduceLT, Int.reduceLE, Int.reduceToNat, Int.reduceAdd, Int.reduceSub, Int.reduceMul, Int.reduceNeg, Int.reduceBEq, Int.reduceBNe, b_fuglemanref18_Pub_Commit, Rp.o, d1, c1, c2]
      · have e : IntKind.u32.wrap (w.seq + 1) = w.seq + 1 := wu32 (by omega) (by omega)
        simp -implicitDefEqProofs only [eqs, Sym.wants, Sym.get, Sym.ev, Sym.evs, Sym.evO, Sym.evP, Sym.put, Sym.lev, Sym.aq, Sym.ae, aBin, aInt, isShift, aEqB, aEqP, aEqS, leavesEq, leafEq, aUn, Sym.rd, aLoad, aField, aFad, aNilck, asI, aIxS, aIxA, aIxV, aExt, aPick, aCvi, aCvs, aLen, aLenS, aMin2, aMax2, aFold, aFoldL, bnd, aSlStr, aSlS, fillL, newO, kill, aStore, putL, getO, cellsOf, Sym.elems, Sym.elemsS, aApp, aCpy, aClr, Sym.reps, aCall, aCallQ, finishCall, Sym.refs, Sym.refs1, Sym.refs0, okv, ok1, Sym.atom, flat0, dedup, Sym.reach, Sym.pos, Sym.sub, renO, Sym.ren, Sym.ren1, Sym.ren0, gmap, mergeOld, mergeNew, mergeO, allFresh, Sym.det, Sym.det0, Sym.canon, keepEnv, aRes, Sym.one, frzM, frz1, frz0, frzL, args0, dead0, lh_some, aCallM, aopM_s, if_true, if_false, ite_true, ite_false, reduceIte, reduceCtorEq, Nat.reduceEqDiff, ne_eq, Nat.reduceAdd, Nat.reduceSub, Nat.reduceMul, Nat.reduceLT, Nat.reduceLeDiff, Nat.reduceBEq, Nat.reduceBNe, Nat.reduceGT, Int.reduceEq, Int.reduceLT, Int.reduceLE, Int.reduceToNat, Int.reduceAdd, Int.reduceSub, Int.reduceMul, Int.reduceNeg, Int.reduceBEq, Int.reduceBNe, b_fuglemanref18_Pub_Commit, Rp.o, d1, c1, c2, e]
    · have d1 : ((s.size : Int) != w.n) = true := by simp [c1]
      simp -implicitDefEqProofs only [eqs, Sym.wants, Sym.get, Sym.ev, Sym.evs, Sym.evO, Sym.evP, Sym.put, Sym.lev, Sym.aq, Sym.ae, aBin, aInt, isShift, aEqB, aEqP, aEqS, leavesEq, leafEq, aUn, Sym.rd, aLoad, aField, aFad, aNilck, asI, aIxS, aIxA, aIxV, aExt, aPick, aCvi, aCvs, aLen, aLenS, aMin2, aMax2, aFold, aFoldL, bnd, aSlStr, aSlS, fillL, newO, kill, aStore, putL, getO, cellsOf, Sym.elems, Sym.elemsS, aApp, aCpy, aClr, Sym.reps, aCall, aCallQ, finishCall, Sym.refs, Sym.refs1, Sym.refs0, okv, ok1, Sym.atom, flat0, dedup, Sym.reach, Sym.pos, Sym.sub, renO, Sym.ren, Sym.ren1, Sym.ren0, gmap, mergeOld, mergeNew, mergeO, allFresh, Sym.det, Sym.det0, Sym.canon, keepEnv, aRes, Sym.one, frzM, frz1, frz0, frzL, args0, dead0, lh_some, aCallM, aopM_s, if_true, if_false, ite_true, ite_false, reduceIte, reduceCtorEq, Nat.reduceEqDiff, ne_eq, Nat.reduceAdd, Nat.reduceSub, Nat.reduceMul, Nat.reduceLT, Nat.reduceLeDiff, Nat.reduceBEq, Nat.reduceBNe, Nat.reduceGT, Int.reduceEq, Int.reduceLT, Int.reduceLE, Int.reduceToNat, Int.reduceAdd, Int.reduceSub, Int.reduceMul, Int.reduceNeg, Int.reduceBEq, Int.reduceBNe, b_fuglemanref18_Pub_Commit, Rp.o, d1, c1]
theorem rnext_none (k : Nat) (w : Rp) (nil : Bool) (l : List Fr) (h : w.seq = 0) : acall T (k + 40) 25 1 [.ptr 0 0] [w.o (wayA nil l) false] = some ⟨.tup [.agg zeroF.c, .v (.bool false)], [w.o (wayA nil l) false], 2⟩ := by
  rw [acall_go (body := b_fuglemanref18_Pub_Next) rfl rfl (Nat.le_refl 1)]
  unfold wayA
  cases nil <;>
  · simp -implicitDefEqProofs only [eqs, Sym.wants, Sym.get, Sym.ev, Sym.evs, Sym.evO, Sym.evP, Sym.put, Sym.lev, Sym.aq, Sym.ae, aBin, aInt, isShift, aEqB, aEqP, aEqS, leavesEq, leafEq, aUn, Sym.rd, aLoad, aField, aFad, aNilck, asI, aIxS, aIxA, aIxV, aExt, aPick, aCvi, aCvs, aLen, aLenS, aMin2, aMax2, aFold, aFoldL, bnd, aSlStr, aSlS, fillL, newO, kill, aStore, putL, getO, cellsOf, Sym.elems, Sym.elemsS, aApp, aCpy, aClr, Sym.reps, aCall, aCallQ, finishCall, Sym.refs, Sym.refs1, Sym.refs0, okv, ok1, Sym.atom, flat0, dedup, Sym.reach, Sym.pos, Sym.sub, renO, Sym.ren, Sym.ren1, Sym.ren0, gmap, mergeOld, mergeNew, mergeO, allFresh, Sym.det, Sym.det0, Sym.canon, keepEnv, aRes, Sym.one, frzM, frz1, frz0, frzL, args0, dead0, lh_some, aCallM, aopM_s, if_true, if_false, ite_true, ite_false, reduceIte, reduceCtorEq, Nat.reduceEqDiff, ne_eq, Nat.reduceAdd, Nat.reduceSub, Nat.reduceMul, Nat.reduceLT, Nat.reduceLeDiff, Nat.reduceBEq, Nat.reduceBNe, Nat.reduceGT, Int.reduceEq, Int.reduceLT, Int.reduceLE, Int.reduceToNat, Int.reduceAdd, Int.reduceSub, Int.reduceMul, Int.reduceNeg, Int.reduceBEq, Int.reduceBNe, b_fuglemanref18_Pub_Next, Rp.o, h, zeroF, verF, Fr.c, Refs.emp]
    rfl
theorem rnext_more (k : Nat) (w : Rp) (g : Fr) (l : List Fr) (h : w.seq ≠ 0) : acall T (k + 40) 25 1 [.ptr 0 0] [w.o (wayA false (g :: l)) false] = some ⟨.tup [.agg g.c, .v (.bool true)], [w.o (wayA false l) false], 2⟩ := by
  rw [acall_go (body := b_fuglemanref18_Pub_Next) rfl rfl (Nat.le_refl 1)]
  have h' : (w.seq == 0) = false := by simpa using h
  have e0 : (0 : Int) < (l.length : Int) + 1 := by omega
  have e1 : ((l.length : Int) + 1 == 0) = false := by rw [beq_eq_false_iff_ne]; omega
  have e3 : (frs l).take (l.length * 19) = frs l := frs_take
  have e4 : 1 ≤ l.length + 1 := by omega
  have e5 : 19 ≤ l.length * 19 + 1 + 1 + 1 + 1 + 1 + 1 + 1 + 1 + 1 + 1 + 1 + 1 + 1 + 1 + 1 + 1 + 1 + 1 + 1 := by omega
  unfold wayA
  simp -implicitDefEqProofs only [eqs, Sym.wants, Sym.get, Sym.ev, Sym.evs, Sym.evO, Sym.evP, Sym.put, Sym.lev, Sym.aq, Sym.ae, aBin, aInt, isShift, aEqB, aEqP, aEqS, leavesEq, leafEq, aUn, Sym.rd, aLoad, aField, aFad, aNilck, asI, aIxS, aIxA, aIxV, aExt, aPick, aCvi, aCvs, aLen, aLenS, aMin2, aMax2, aFold, aFoldL, bnd, aSlStr, aSlS, fillL, newO, kill, aStore, putL, getO, cellsOf, Sym.elems, Sym.elemsS, aApp, aCpy, aClr, Sym.reps, aCall, aCallQ, finishCall, Sym.refs, Sym.refs1, Sym.refs0, okv, ok1, Sym.atom, flat0, dedup, Sym.reach, Sym.pos, Sym.sub, renO, Sym.ren, Sym.ren1, Sym.ren0, gmap, mergeOld, mergeNew, mergeO, allFresh, Sym.det, Sym.det0, Sym.canon, keepEnv, aRes, Sym.one, frzM, frz1, frz0, frzL, args0, dead0, lh_some, aCallM, aopM_s, if_true, if_false, ite_true, ite_false, reduceIte, reduceCtorEq, Nat.reduceEqDiff, ne_eq, Nat.reduceAdd, Nat.reduceSub, Nat.reduceMul, Nat.reduceLT, Nat.reduceLeDiff, Nat.reduceBEq, Nat.reduceBNe, Nat.reduceGT, Int.reduceEq, Int.reduceLT, Int.reduceLE, Int.reduceToNat, Int.reduceAdd, Int.reduceSub, Int.reduceMul, Int.reduceNeg, Int.reduceBEq, Int.reduceBNe, b_fuglemanref18_Pub_Next, Rp.o, h', frs_cons, Fr.c, List.length_cons, Int.natCast_add, Int.natCast_one, e0, e1, e3, e4, e5, frs_len, Nat.add_sub_cancel]
theorem rnext_new (k : Nat) (w : Rp) (nil : Bool) (g : Fr) (l : List Fr) (h : w.seq ≠ 0) (hs : w.last.size ≤ 160) (hl : split (verF w.inc w.seq) w.last = g :: l) : acall T (k + 40) 25 1 [.ptr 0 0] [w.o (wayA nil []) false] = some ⟨.tup [.agg g.c, .v (.bool true)], [w.o (wayA false l) false], 2⟩ := by
  rw [acall_go (body := b_fuglemanref18_Pub_Next) rfl rfl (Nat.le_refl 1)]
  have h' : (w.seq == 0) = false := by simpa using h
  have hsp := rsplit_a (k + 9) w.last hs (verF w.inc w.seq)
  rw [hl] at hsp
  have er : rowA (g :: l) = .shr (g :: l).length false (frs (g :: l)) := rfl
  rw [er] at hsp
  have vc : (verF w.inc w.seq).c = [.v (.int .i64 0), .v (.int .u8 0), .v (.int .u8 0), .v (.int .u16 0), .v (.int .u16 0), .v (.int .u16 0), .v (.int .u8 0), .v (.int .u16 0), .v (.int .u16 0), .v (.int .u16 0), .v (.int .u8 0), .v (.int .u16 0), .v (.bool false), .v (.int .u8 0), .v (.int .u16 w.inc), .v (.int .u32 w.seq), .v (.int .u8 0), .v (.int .u8 0), .v (.string ByteArray.empty)] := rfl
  have e0 : (0 : Int) < (l.length : Int) + 1 := by omega
  have e3 : (frs l).take (l.length * 19) = frs l := frs_take
  have e4 : 1 ≤ l.length + 1 := by omega
  have e5 : 19 ≤ l.length * 19 + 1 + 1 + 1 + 1 + 1 + 1 + 1 + 1 + 1 + 1 + 1 + 1 + 1 + 1 + 1 + 1 + 1 + 1 + 1 := by omega
  rw [vc] at hsp
  simp only [frs_cons, Fr.c, List.length_cons] at hsp
  unfold wayA
  cases nil <;>
  simp -implicitDefEqProofs only [eqs, Sym.wants, Sym.get, Sym.ev, Sym.evs, Sym.evO, Sym.evP, Sym.put, Sym.lev, Sym.aq, Sym.ae, aBin, aInt, isShift, aEqB, aEqP, aEqS, leavesEq, leafEq, aUn, Sym.rd, aLoad, aField, aFad, aNilck, asI, aIxS, aIxA, aIxV, aExt, aPick, aCvi, aCvs, aLen, aLenS, aMin2, aMax2, aFold, aFoldL, bnd, aSlStr, aSlS, fillL, newO, kill, aStore, putL, getO, cellsOf, Sym.elems, Sym.elemsS, aApp, aCpy, aClr, Sym.reps, aCall, aCallQ, finishCall, Sym.refs, Sym.refs1, Sym.refs0, okv, ok1, Sym.atom, flat0, dedup, Sym.reach, Sym.pos, Sym.sub, renO, Sym.ren, Sym.ren1, Sym.ren0, gmap, mergeOld, mergeNew, mergeO, allFresh, Sym.det, Sym.det0, Sym.canon, keepEnv, aRes, Sym.one, frzM, frz1, frz0, frzL, args0, dead0, lh_some, aCallM, aopM_s, if_true, if_false, ite_true, ite_false, reduceIte, reduceCtorEq, Nat.reduceEqDiff, ne_eq, Nat.reduceAdd, Nat.reduceSub, Nat.reduceMul, Nat.reduceLT, Nat.reduceLeDiff, Nat.reduceBEq, Nat.reduceBNe, Nat.reduceGT, Int.reduceEq, Int.reduceLT, Int.reduceLE, Int.reduceToNat, Int.reduceAdd, Int.reduceSub, Int.reduceMul, Int.reduceNeg, Int.reduceBEq, Int.reduceBNe, b_fuglemanref18_Pub_Next, Rp.o, h', hsp, frs_nil, frs_cons, Fr.c, Refs.emp, List.length_cons, Int.natCast_add, Int.natCast_one, e0, e3, e4, e5, frs_len, Nat.add_sub_cancel]
end Go.Proofs.Ytkaigdfklihlcaa.GPub
