/- Put of a glue. -/
import Derived.Test.YtkaigdfklihlcaaGlue
namespace Go.Proofs.Ytkaigdfklihlcaa.Glue
open Go Go.Proofs.Ytkaigdfklihlcaa.Sym Go.Proofs.Ytkaigdfklihlcaa.Tab Go.Proofs.Ytkaigdfklihlcaa.Blk
set_option linter.unusedVariables false
set_option linter.unusedSimpArgs false
set_option maxHeartbeats 4000000
set_option maxRecDepth 20000
structure Gl.In (g : Gl) : Prop where
  n : 0 ≤ g.n ∧ g.n ≤ 1000
  l : g.val.length ≤ 64
/-- Has this part come? -/
def had (came part : Int) : Bool := bitsV .and .u8 (came.fdiv (2 ^ min part.toNat IntKind.u8.bits)) 1 == 1
def bit (came part : Int) : Int := bitsV .or .u8 came (IntKind.u8.wrap (1 * 2 ^ min part.toNat IntKind.u8.bits))
def Gl.at (g : Gl) (f : Fr) : Gl := { g with val := putI g.val (piece g.val.length f.part).1.toNat (numsOf f.b), came := bit g.came f.part, n := g.n + 1 }
/-- Laid in. -/
def Gl.lay (g : Gl) (f : Fr) : AV × Gl :=
  if had g.came f.part = true then (.tup [.v (.string ByteArray.empty), .v (.bool false), .v (.int .i64 14)], g)
  else if g.n + 1 < f.np then (.tup [.v (.string ByteArray.empty), .v (.bool false), .v (.int .i64 0)], g.at f)
  else (.tup [.v (.string (strOfNums (g.at f).val)), .v (.bool true), .v (.int .i64 0)], g.at f)
def Gl.begin (g : Gl) (a b : Int) : Gl := { g with inc := a, seq := b, is := true, came := 0, n := 0 }
def Gl.put (g : Gl) (f : Fr) : AV × Gl :=
  if (f.kind != 4) = true then (.tup [.v (.string ByteArray.empty), .v (.bool false), .v (.int .i64 11)], g)
  else if fits g f = false then (.tup [.v (.string ByteArray.empty), .v (.bool false), .v (.int .i64 3)], g)
  else if g.is = true then
    if cmpV f.inc f.seq g.inc g.seq < 0 then (.tup [.v (.string ByteArray.empty), .v (.bool false), .v (.int .i64 1)], g)
    else if 0 < cmpV f.inc f.seq g.inc g.seq then (g.begin f.inc f.seq).lay f else g.lay f
  else (g.begin f.inc f.seq).lay f
theorem emp : (⟨#[]⟩ : ByteArray) = ByteArray.empty := rfl
theorem put_kind (k : Nat) (g : Gl) (f : Fr) (hf : f.In) (hg : g.In) (c : (f.kind != 4) = true) : acall T (k + 7) 31 1 [.ptr 0 0, .agg f.c] [g.o false, g.b false] = some ⟨(g.put f).1, [(g.put f).2.o false, (g.put f).2.b false], 2⟩ := by
  rw [acall_go (body := b_parts_Glue_Put) rfl rfl (by show 1 ≤ 2; decide)]
  simp -implicitDefEqProofs only [eqs, Sym.wants, Sym.get, Sym.ev, Sym.evs, Sym.evO, Sym.evP, Sym.put, Sym.lev, Sym.aq, Sym.ae, aBin, aInt, isShift, aEqB, aEqP, aEqS, leavesEq, leafEq, aUn, Sym.rd, aLoad, aField, aFad, aNilck, asI, aIxS, aIxA, aIxV, aExt, aPick, aCvi, aCvs, aLen, aLenS, aMin2, aMax2, aFold, aFoldL, bnd, aSlStr, aSlS, fillL, newO, kill, aStore, putL, getO, cellsOf, Sym.elems, Sym.elemsS, aApp, aCpy, aClr, Sym.reps, aCall, aCallQ, finishCall, Sym.refs, Sym.refs1, Sym.refs0, okv, ok1, Sym.atom, flat0, dedup, Sym.reach, Sym.pos, Sym.sub, renO, Sym.ren, Sym.ren1, Sym.ren0, gmap, mergeOld, mergeNew, mergeO, allFresh, Sym.det, Sym.det0, Sym.canon, keepEnv, aRes, Sym.one, frzM, frz1, frz0, frzL, args0, dead0, lh_some, aCallM, aopM_s, if_true, if_false, ite_true, ite_false, reduceIte, reduceCtorEq, Nat.reduceEqDiff, ne_eq, Nat.reduceAdd, Nat.reduceSub, Nat.reduceMul, Nat.reduceLT, Nat.reduceLeDiff, Nat.reduceBEq, Nat.reduceBNe, Nat.reduceGT, Int.reduceEq, Int.reduceLT, Int.reduceLE, Int.reduceToNat, Int.reduceAdd, Int.reduceSub, Int.reduceMul, Int.reduceNeg, Int.reduceBEq, Int.reduceBNe, b_parts_Glue_Put, Gl.o, Gl.b, Fr.c, c, emp, Gl.put]
theorem put_fits (k : Nat) (g : Gl) (f : Fr) (hf : f.In) (hg : g.In) (c : (f.kind != 4) = false) (c2 : fits g f = false) : acall T (k + 7) 31 1 [.ptr 0 0, .agg f.c] [g.o false, g.b false] = some ⟨(g.put f).1, [(g.put f).2.o false, (g.put f).2.b false], 2⟩ := by
  rw [acall_go (body := b_parts_Glue_Put) rfl rfl (by show 1 ≤ 2; decide)]
  have h := fits_a (k + 3) g f hf
  simp only [Gl.o, Gl.b, Fr.c] at h
  simp -implicitDefEqProofs only [eqs, Sym.wants, Sym.get, Sym.ev, Sym.evs, Sym.evO, Sym.evP, Sym.put, Sym.lev, Sym.aq, Sym.ae, aBin, aInt, isShift, aEqB, aEqP, aEqS, leavesEq, leafEq, aUn, Sym.rd, aLoad, aField, aFad, aNilck, asI, aIxS, aIxA, aIxV, aExt, aPick, aCvi, aCvs, aLen, aLenS, aMin2, aMax2, aFold, aFoldL, bnd, aSlStr, aSlS, fillL, newO, kill, aStore, putL, getO, cellsOf, Sym.elems, Sym.elemsS, aApp, aCpy, aClr, Sym.reps, aCall, aCallQ, finishCall, Sym.refs, Sym.refs1, Sym.refs0, okv, ok1, Sym.atom, flat0, dedup, Sym.reach, Sym.pos, Sym.sub, renO, Sym.ren, Sym.ren1, Sym.ren0, gmap, mergeOld, mergeNew, mergeO, allFresh, Sym.det, Sym.det0, Sym.canon, keepEnv, aRes, Sym.one, frzM, frz1, frz0, frzL, args0, dead0, lh_some, aCallM, aopM_s, if_true, if_false, ite_true, ite_false, reduceIte, reduceCtorEq, Nat.reduceEqDiff, ne_eq, Nat.reduceAdd, Nat.reduceSub, Nat.reduceMul, Nat.reduceLT, Nat.reduceLeDiff, Nat.reduceBEq, Nat.reduceBNe, Nat.reduceGT, Int.reduceEq, Int.reduceLT, Int.reduceLE, Int.reduceToNat, Int.reduceAdd, Int.reduceSub, Int.reduceMul, Int.reduceNeg, Int.reduceBEq, Int.reduceBNe, b_parts_Glue_Put, Gl.o, Gl.b, Fr.c, c, c2, emp, Gl.put, h]
theorem put_old (k : Nat) (g : Gl) (f : Fr) (hf : f.In) (hg : g.In) (c : (f.kind != 4) = false) (c2 : fits g f = true) (c3 : g.is = true) (c4 : cmpV f.inc f.seq g.inc g.seq < 0) : acall T (k + 7) 31 1 [.ptr 0 0, .agg f.c] [g.o false, g.b false] = some ⟨(g.put f).1, [(g.put f).2.o false, (g.put f).2.b false], 2⟩ := by
  rw [acall_go (body := b_parts_Glue_Put) rfl rfl (by show 1 ≤ 2; decide)]
  have h := fits_a (k + 3) g f hf
  have h' := compare_a (k + 1) f.inc f.seq g.inc g.seq
  simp only [Gl.o, Gl.b, Fr.c, c3] at h
  simp -implicitDefEqProofs only [eqs, Sym.wants, Sym.get, Sym.ev, Sym.evs, Sym.evO, Sym.evP, Sym.put, Sym.lev, Sym.aq, Sym.ae, aBin, aInt, isShift, aEqB, aEqP, aEqS, leavesEq, leafEq, aUn, Sym.rd, aLoad, aField, aFad, aNilck, asI, aIxS, aIxA, aIxV, aExt, aPick, aCvi, aCvs, aLen, aLenS, aMin2, aMax2, aFold, aFoldL, bnd, aSlStr, aSlS, fillL, newO, kill, aStore, putL, getO, cellsOf, Sym.elems, Sym.elemsS, aApp, aCpy, aClr, Sym.reps, aCall, aCallQ, finishCall, Sym.refs, Sym.refs1, Sym.refs0, okv, ok1, Sym.atom, flat0, dedup, Sym.reach, Sym.pos, Sym.sub, renO, Sym.ren, Sym.ren1, Sym.ren0, gmap, mergeOld, mergeNew, mergeO, allFresh, Sym.det, Sym.det0, Sym.canon, keepEnv, aRes, Sym.one, frzM, frz1, frz0, frzL, args0, dead0, lh_some, aCallM, aopM_s, if_true, if_false, ite_true, ite_false, reduceIte, reduceCtorEq, Nat.reduceEqDiff, ne_eq, Nat.reduceAdd, Nat.reduceSub, Nat.reduceMul, Nat.reduceLT, Nat.reduceLeDiff, Nat.reduceBEq, Nat.reduceBNe, Nat.reduceGT, Int.reduceEq, Int.reduceLT, Int.reduceLE, Int.reduceToNat, Int.reduceAdd, Int.reduceSub, Int.reduceMul, Int.reduceNeg, Int.reduceBEq, Int.reduceBNe, b_parts_Glue_Put, Gl.o, Gl.b, Fr.c, c, c2, c3, c4, emp, Gl.put, h, h']
theorem numsOf_length (s : ByteArray) : (numsOf s).length = s.size := by simp [numsOf]
/-- The way behind the choice of a version. -/
theorem lay_hints (g : Gl) (f : Fr) (hg : g.In) (hf : f.In) (c2 : fits g f = true) : (piece g.val.length f.part).1.toNat ≤ g.val.length ∧ 0 ≤ (piece g.val.length f.part).1 ∧ f.b.size.min (g.val.length - (piece g.val.length f.part).1.toNat) = f.b.size ∧ f.b.size ≤ 16 := by
  unfold fits at c2
  simp only [Bool.and_eq_true, beq_iff_eq, decide_eq_true_eq] at c2
  obtain ⟨h1, h2, h3, h4, h5⟩ := piece_in g.val.length f.part (by omega)
  refine ⟨by omega, h1, Nat.min_eq_left (by omega), by omega⟩
theorem putI_length (l m : List Int) (i : Nat) : (putI l i m).length = l.length := by
  induction m generalizing l i with
  | nil => rfl
  | cons x m ih => rw [putI, ih, List.length_set]
theorem put_go (k : Nat) (g : Gl) (f : Fr) (hf : f.In) (hg : g.In) (c : (f.kind != 4) = false) (c2 : fits g f = true) (c3 : g.is = true) (c4 : ¬ cmpV f.inc f.seq g.inc g.seq < 0) (c5 : ¬ 0 < cmpV f.inc f.seq g.inc g.seq) : acall T (k + 7) 31 1 [.ptr 0 0, .agg f.c] [g.o false, g.b false] = some ⟨(g.put f).1, [(g.put f).2.o false, (g.put f).2.b false], 2⟩ := by
  rw [acall_go (body := b_parts_Glue_Put) rfl rfl (by show 1 ≤ 2; decide)]
  have h := fits_a (k + 3) g f hf
  have h' := compare_a (k + 1) f.inc f.seq g.inc g.seq
  have h3 := begin_a (k + 5) g f.inc f.seq
  have hp := piece_a (k + 4) g.val.length f.part
  have e1 := w64u hf.part
  have e2 := w64u hf.np
  obtain ⟨q1, q2, q3, q4⟩ := lay_hints g f hg hf c2
  have q5 : (numsOf f.b).take f.b.size = numsOf f.b := by rw [← numsOf_length]; exact List.take_length
  have q7 : (piece g.val.length f.part).1.toNat + (g.val.length - (piece g.val.length f.part).1.toNat) ≤ g.val.length := by omega
  have q8 : (putI g.val (piece g.val.length f.part).1.toNat (numsOf f.b)).take g.val.length = putI g.val (piece g.val.length f.part).1.toNat (numsOf f.b) := List.take_of_length_le (by rw [putI_length]; exact Nat.le_refl _)
  have q6 : ¬ f.part < 0 := by have := hf.part.1; omega
  have e3 : IntKind.i64.wrap (g.n + 1) = g.n + 1 := w64 (by have := hg.n; omega) (by have := hg.n; omega)
  simp only [Gl.o, Gl.b, Fr.c, c3] at h h3
  cases c6 : had g.came f.part
  · simp only [had] at c6
    by_cases c7 : g.n + 1 < f.np
    · simp -implicitDefEqProofs only [eqs, Sym.wants, Sym.get, Sym.ev, Sym.evs, Sym.evO, Sym.evP, Sym.put, Sym.lev, Sym.aq, Sym.ae, aBin, aInt, isShift, aEqB, aEqP, aEqS, leavesEq, leafEq, aUn, Sym.rd, aLoad, aField, aFad, aNilck, asI, aIxS, aIxA, aIxV, aExt, aPick, aCvi, aCvs, aLen, aLenS, aMin2, aMax2, aFold, aFoldL, bnd, aSlStr, aSlS, fillL, newO, kill, aStore, putL, getO, cellsOf, Sym.elems, Sym.elemsS, aApp, aCpy, aClr, Sym.reps, aCall, aCallQ, finishCall, Sym.refs, Sym.refs1, Sym.refs0, okv, ok1, Sym.atom, flat0, dedup, Sym.reach, Sym.pos, Sym.sub, renO, Sym.ren, Sym.ren1, Sym.ren0, gmap, mergeOld, mergeNew, mergeO, allFresh, Sym.det, Sym.det0, Sym.canon, keepEnv, aRes, Sym.one, frzM, frz1, frz0, frzL, args0, dead0, lh_some, aCallM, aopM_s, if_true, if_false, ite_true, ite_false, reduceIte, reduceCtorEq, Nat.reduceEqDiff, ne_eq, Nat.reduceAdd, Nat.reduceSub, Nat.reduceMul, Nat.reduceLT, Nat.reduceLeDiff, Nat.reduceBEq, Nat.reduceBNe, Nat.reduceGT, Int.reduceEq, Int.reduceLT, Int.reduceLE, Int.reduceToNat, Int.reduceAdd, Int.reduceSub, Int.reduceMul, Int.reduceNeg, Int.reduceBEq, Int.reduceBNe, b_parts_Glue_Put, Gl.o, Gl.b, Fr.c, c, c2, c3, c4, c5, c6, c7, emp, Gl.put, Gl.lay, Gl.at, Gl.begin, had, bit, h, h', h3, hp, e1, e2, e3, q1, q2, q3, q5, q6, q7, q8, putI_length]
    · simp -implicitDefEqProofs only [eqs, Sym.wants, Sym.get, Sym.ev, Sym.evs, Sym.evO, Sym.evP, Sym.put, Sym.lev, Sym.aq, Sym.ae, aBin, aInt, isShift, aEqB, aEqP, aEqS, leavesEq, leafEq, aUn, Sym.rd, aLoad, aField, aFad, aNilck, asI, aIxS, aIxA, aIxV, aExt, aPick, aCvi, aCvs, aLen, aLenS, aMin2, aMax2, aFold, aFoldL, bnd, aSlStr, aSlS, fillL, newO, kill, aStore, putL, getO, cellsOf, Sym.elems, Sym.elemsS, aApp, aCpy, aClr, Sym.reps, aCall, aCallQ, finishCall, Sym.refs, Sym.refs1, Sym.refs0, okv, ok1, Sym.atom, flat0, dedup, Sym.reach, Sym.pos, Sym.sub, renO, Sym.ren, Sym.ren1, Sym.ren0, gmap, mergeOld, mergeNew, mergeO, allFresh, Sym.det, Sym.det0, Sym.canon, keepEnv, aRes, Sym.one, frzM, frz1, frz0, frzL, args0, dead0, lh_some, aCallM, aopM_s, if_true, if_false, ite_true, ite_false, reduceIte, reduceCtorEq, Nat.reduceEqDiff, ne_eq, Nat.reduceAdd, Nat.reduceSub, Nat.reduceMul, Nat.reduceLT, Nat.reduceLeDiff, Nat.reduceBEq, Nat.reduceBNe, Nat.reduceGT, Int.reduceEq, Int.reduceLT, Int.reduceLE, Int.reduceToNat, Int.reduceAdd, Int.reduceSub, Int.reduceMul, Int.reduceNeg, Int.reduceBEq, Int.reduceBNe, b_parts_Glue_Put, Gl.o, Gl.b, Fr.c, c, c2, c3, c4, c5, c6, c7, emp, Gl.put, Gl.lay, Gl.at, Gl.begin, had, bit, h, h', h3, hp, e1, e2, e3, q1, q2, q3, q5, q6, q7, q8, putI_length]
  · simp only [had] at c6
    simp -implicitDefEqProofs only [eqs, Sym.wants, Sym.get, Sym.ev, Sym.evs, Sym.evO, Sym.evP, Sym.put, Sym.lev, Sym.aq, Sym.ae, aBin, aInt, isShift, aEqB, aEqP, aEqS, leavesEq, leafEq, aUn, Sym.rd, aLoad, aField, aFad, aNilck, asI, aIxS, aIxA, aIxV, aExt, aPick, aCvi, aCvs, aLen, aLenS, aMin2, aMax2, aFold, aFoldL, bnd, aSlStr, aSlS, fillL, newO, kill, aStore, putL, getO, cellsOf, Sym.elems, Sym.elemsS, aApp, aCpy, aClr, Sym.reps, aCall, aCallQ, finishCall, Sym.refs, Sym.refs1, Sym.refs0, okv, ok1, Sym.atom, flat0, dedup, Sym.reach, Sym.pos, Sym.sub, renO, Sym.ren, Sym.ren1, Sym.ren0, gmap, mergeOld, mergeNew, mergeO, allFresh, Sym.det, Sym.det0, Sym.canon, keepEnv, aRes, Sym.one, frzM, frz1, frz0, frzL, args0, dead0, lh_some, aCallM, aopM_s, if_true, if_false, ite_true, ite_false, reduceIte, reduceCtorEq, Nat.reduceEqDiff, ne_eq, Nat.reduceAdd, Nat.reduceSub, Nat.reduceMul, Nat.reduceLT, Nat.reduceLeDiff, Nat.reduceBEq, Nat.reduceBNe, Nat.reduceGT, Int.reduceEq, Int.reduceLT, Int.reduceLE, Int.reduceToNat, Int.reduceAdd, Int.reduceSub, Int.reduceMul, Int.reduceNeg, Int.reduceBEq, Int.reduceBNe, b_parts_Glue_Put, Gl.o, Gl.b, Fr.c, c, c2, c3, c4, c5, c6, emp, Gl.put, Gl.lay, Gl.at, Gl.begin, had, bit, h, h', h3, hp, e1, e2, e3, q1, q2, q3, q5, q6, q7, q8, putI_length]
theorem put_new (k : Nat) (g : Gl) (f : Fr) (hf : f.In) (hg : g.In) (c : (f.kind != 4) = false) (c2 : fits g f = true) (c3 : g.is = false) : acall T (k + 7) 31 1 [.ptr 0 0, .agg f.c] [g.o false, g.b false] = some ⟨(g.put f).1, [(g.put f).2.o false, (g.put f).2.b false], 2⟩ := by
  rw [acall_go (body := b_parts_Glue_Put) rfl rfl (by show 1 ≤ 2; decide)]
  have h := fits_a (k + 3) g f hf
  have h' := compare_a (k + 1) f.inc f.seq g.inc g.seq
  have h3 := begin_a (k + 5) g f.inc f.seq
  have hp := piece_a (k + 4) g.val.length f.part
  have e1 := w64u hf.part
  have e2 := w64u hf.np
  obtain ⟨q1, q2, q3, q4⟩ := lay_hints g f hg hf c2
  have q5 : (numsOf f.b).take f.b.size = numsOf f.b := by rw [← numsOf_length]; exact List.take_length
  have q7 : (piece g.val.length f.part).1.toNat + (g.val.length - (piece g.val.length f.part).1.toNat) ≤ g.val.length := by omega
  have q8 : (putI g.val (piece g.val.length f.part).1.toNat (numsOf f.b)).take g.val.length = putI g.val (piece g.val.length f.part).1.toNat (numsOf f.b) := List.take_of_length_le (by rw [putI_length]; exact Nat.le_refl _)
  have q6 : ¬ f.part < 0 := by have := hf.part.1; omega
  have e3 : IntKind.i64.wrap (g.n + 1) = g.n + 1 := w64 (by have := hg.n; omega) (by have := hg.n; omega)
  simp only [Gl.o, Gl.b, Fr.c, c3] at h h3
  cases c6 : had 0 f.part
  · simp only [had] at c6
    by_cases c7 : 1 < f.np
    · simp -implicitDefEqProofs only [eqs, Sym.wants, Sym.get, Sym.ev, Sym.evs, Sym.evO, Sym.evP, Sym.put, Sym.lev, Sym.aq, Sym.ae, aBin, aInt, isShift, aEqB, aEqP, aEqS, leavesEq, leafEq, aUn, Sym.rd, aLoad, aField, aFad, aNilck, asI, aIxS, aIxA, aIxV, aExt, aPick, aCvi, aCvs, aLen, aLenS, aMin2, aMax2, aFold, aFoldL, bnd, aSlStr, aSlS, fillL, newO, kill, aStore, putL, getO, cellsOf, Sym.elems, Sym.elemsS, aApp, aCpy, aClr, Sym.reps, aCall, aCallQ, finishCall, Sym.refs, Sym.refs1, Sym.refs0, okv, ok1, Sym.atom, flat0, dedup, Sym.reach, Sym.pos, Sym.sub, renO, Sym.ren, Sym.ren1, Sym.ren0, gmap, mergeOld, mergeNew, mergeO, allFresh, Sym.det, Sym.det0, Sym.canon, keepEnv, aRes, Sym.one, frzM, frz1, frz0, frzL, args0, dead0, lh_some, aCallM, aopM_s, if_true, if_false, ite_true, ite_false, reduceIte, reduceCtorEq, Nat.reduceEqDiff, ne_eq, Nat.reduceAdd, Nat.reduceSub, Nat.reduceMul, Nat.reduceLT, Nat.reduceLeDiff, Nat.reduceBEq, Nat.reduceBNe, Nat.reduceGT, Int.reduceEq, Int.reduceLT, Int.reduceLE, Int.reduceToNat, Int.reduceAdd, Int.reduceSub, Int.reduceMul, Int.reduceNeg, Int.reduceBEq, Int.reduceBNe, b_parts_Glue_Put, Gl.o, Gl.b, Fr.c, c, c2, c3, c6, c7, emp, Gl.put, Gl.lay, Gl.at, Gl.begin, had, bit, h, h', h3, hp, e1, e2, e3, q1, q2, q3, q5, q6, q7, q8, putI_length]
    · simp -implicitDefEqProofs only [eqs, Sym.wants, Sym.get, Sym.ev, Sym.evs, Sym.evO, Sym.evP, Sym.put, Sym.lev, Sym.aq, Sym.ae, aBin, aInt, isShift, aEqB, aEqP, aEqS, leavesEq, leafEq, aUn, Sym.rd, aLoad, aField, aFad, aNilck, asI, aIxS, aIxA, aIxV, aExt, aPick, aCvi, aCvs, aLen, aLenS, aMin2, aMax2, aFold, aFoldL, bnd, aSlStr, aSlS, fillL, newO, kill, aStore, putL, getO, cellsOf, Sym.elems, Sym.elemsS, aApp, aCpy, aClr, Sym.reps, aCall, aCallQ, finishCall, Sym.refs, Sym.refs1, Sym.refs0, okv, ok1, Sym.atom, flat0, dedup, Sym.reach, Sym.pos, Sym.sub, renO, Sym.ren, Sym.ren1, Sym.ren0, gmap, mergeOld, mergeNew, mergeO, allFresh, Sym.det, Sym.det0, Sym.canon, keepEnv, aRes, Sym.one, frzM, frz1, frz0, frzL, args0, dead0, lh_some, aCallM, aopM_s, if_true, if_false, ite_true, ite_false, reduceIte, reduceCtorEq, Nat.reduceEqDiff, ne_eq, Nat.reduceAdd, Nat.reduceSub, Nat.reduceMul, Nat.reduceLT, Nat.reduceLeDiff, Nat.reduceBEq, Nat.reduceBNe, Nat.reduceGT, Int.reduceEq, Int.reduceLT, Int.reduceLE, Int.reduceToNat, Int.reduceAdd, Int.reduceSub, Int.reduceMul, Int.reduceNeg, Int.reduceBEq, Int.reduceBNe, b_parts_Glue_Put, Gl.o, Gl.b, Fr.c, c, c2, c3, c6, c7, emp, Gl.put, Gl.lay, Gl.at, Gl.begin, had, bit, h, h', h3, hp, e1, e2, e3, q1, q2, q3, q5, q6, q7, q8, putI_length]
  · simp only [had] at c6
    simp -implicitDefEqProofs only [eqs, Sym.wants, Sym.get, Sym.ev, Sym.evs, Sym.evO, Sym.evP, Sym.put, Sym.lev, Sym.aq, Sym.ae, aBin, aInt, isShift, aEqB, aEqP, aEqS, leavesEq, leafEq, aUn, Sym.rd, aLoad, aField, aFad, aNilck, asI, aIxS, aIxA, aIxV, aExt, aPick, aCvi, aCvs, aLen, aLenS, aMin2, aMax2, aFold, aFoldL, bnd, aSlStr, aSlS, fillL, newO, kill, aStore, putL, getO, cellsOf, Sym.elems, Sym.elemsS, aApp, aCpy, aClr, Sym.reps, aCall, aCallQ, finishCall, Sym.refs, Sym.refs1, Sym.refs0, okv, ok1, Sym.atom, flat0, dedup, Sym.reach, Sym.pos, Sym.sub, renO, Sym.ren, Sym.ren1, Sym.ren0, gmap, mergeOld, mergeNew, mergeO, allFresh, Sym.det, Sym.det0, Sym.canon, keepEnv, aRes, Sym.one, frzM, frz1, frz0, frzL, args0, dead0, lh_some, aCallM, aopM_s, if_true, if_false, ite_true, ite_false, reduceIte, reduceCtorEq, Nat.reduceEqDiff, ne_eq, Nat.reduceAdd, Nat.reduceSub, Nat.reduceMul, Nat.reduceLT, Nat.reduceLeDiff, Nat.reduceBEq, Nat.reduceBNe, Nat.reduceGT, Int.reduceEq, Int.reduceLT, Int.reduceLE, Int.reduceToNat, Int.reduceAdd, Int.reduceSub, Int.reduceMul, Int.reduceNeg, Int.reduceBEq, Int.reduceBNe, b_parts_Glue_Put, Gl.o, Gl.b, Fr.c, c, c2, c3, c6, emp, Gl.put, Gl.lay, Gl.at, Gl.begin, had, bit, h, h', h3, hp, e1, e2, e3, q1, q2, q3, q5, q6, q7, q8, putI_length]
theorem put_next (k : Nat) (g : Gl) (f : Fr) (hf : f.In) (hg : g.In) (c : (f.kind != 4) = false) (c2 : fits g f = true) (c3 : g.is = true) (c5 : 0 < cmpV f.inc f.seq g.inc g.seq) : acall T (k + 7) 31 1 [.ptr 0 0, .agg f.c] [g.o false, g.b false] = some ⟨(g.put f).1, [(g.put f).2.o false, (g.put f).2.b false], 2⟩ := by
  have c4 : ¬ cmpV f.inc f.seq g.inc g.seq < 0 := by omega
  rw [acall_go (body := b_parts_Glue_Put) rfl rfl (by show 1 ≤ 2; decide)]
  have h := fits_a (k + 3) g f hf
  have h' := compare_a (k + 1) f.inc f.seq g.inc g.seq
  have h3 := begin_a (k + 5) g f.inc f.seq
  have hp := piece_a (k + 4) g.val.length f.part
  have e1 := w64u hf.part
  have e2 := w64u hf.np
  obtain ⟨q1, q2, q3, q4⟩ := lay_hints g f hg hf c2
  have q5 : (numsOf f.b).take f.b.size = numsOf f.b := by rw [← numsOf_length]; exact List.take_length
  have q7 : (piece g.val.length f.part).1.toNat + (g.val.length - (piece g.val.length f.part).1.toNat) ≤ g.val.length := by omega
  have q8 : (putI g.val (piece g.val.length f.part).1.toNat (numsOf f.b)).take g.val.length = putI g.val (piece g.val.length f.part).1.toNat (numsOf f.b) := List.take_of_length_le (by rw [putI_length]; exact Nat.le_refl _)
  have q6 : ¬ f.part < 0 := by have := hf.part.1; omega
  have e3 : IntKind.i64.wrap (g.n + 1) = g.n + 1 := w64 (by have := hg.n; omega) (by have := hg.n; omega)
  simp only [Gl.o, Gl.b, Fr.c, c3] at h h3
  cases c6 : had 0 f.part
  · simp only [had] at c6
    by_cases c7 : 1 < f.np
    · simp -implicitDefEqProofs only [eqs, Sym.wants, Sym.get, Sym.ev, Sym.evs, Sym.evO, Sym.evP, Sym.put, Sym.lev, Sym.aq, Sym.ae, aBin, aInt, isShift, aEqB, aEqP, aEqS, leavesEq, leafEq, aUn, Sym.rd, aLoad, aField, aFad, aNilck, asI, aIxS, aIxA, aIxV, aExt, aPick, aCvi, aCvs, aLen, aLenS, aMin2, aMax2, aFold, aFoldL, bnd, aSlStr, aSlS, fillL, newO, kill, aStore, putL, getO, cellsOf, Sym.elems, Sym.elemsS, aApp, aCpy, aClr, Sym.reps, aCall, aCallQ, finishCall, Sym.refs, Sym.refs1, Sym.refs0, okv, ok1, Sym.atom, flat0, dedup, Sym.reach, Sym.pos, Sym.sub, renO, Sym.ren, Sym.ren1, Sym.ren0, gmap, mergeOld, mergeNew, mergeO, allFresh, Sym.det, Sym.det0, Sym.canon, keepEnv, aRes, Sym.one, frzM, frz1, frz0, frzL, args0, dead0, lh_some, aCallM, aopM_s, if_true, if_false, ite_true, ite_false, reduceIte, reduceCtorEq, Nat.reduceEqDiff, ne_eq, Nat.reduceAdd, Nat.reduceSub, Nat.reduceMul, Nat.reduceLT, Nat.reduceLeDiff, Nat.reduceBEq, Nat.reduceBNe, Nat.reduceGT, Int.reduceEq, Int.reduceLT, Int.reduceLE, Int.reduceToNat, Int.reduceAdd, Int.reduceSub, Int.reduceMul, Int.reduceNeg, Int.reduceBEq, Int.reduceBNe, b_parts_Glue_Put, Gl.o, Gl.b, Fr.c, c, c2, c3, c4, c5, c6, c7, emp, Gl.put, Gl.lay, Gl.at, Gl.begin, had, bit, h, h', h3, hp, e1, e2, e3, q1, q2, q3, q5, q6, q7, q8, putI_length]
    · simp -implicitDefEqProofs only [eqs, Sym.wants, Sym.get, Sym.ev, Sym.evs, Sym.evO, Sym.evP, Sym.put, Sym.lev, Sym.aq, Sym.ae, aBin, aInt, isShift, aEqB, aEqP, aEqS, leavesEq, leafEq, aUn, Sym.rd, aLoad, aField, aFad, aNilck, asI, aIxS, aIxA, aIxV, aExt, aPick, aCvi, aCvs, aLen, aLenS, aMin2, aMax2, aFold, aFoldL, bnd, aSlStr, aSlS, fillL, newO, kill, aStore, putL, getO, cellsOf, Sym.elems, Sym.elemsS, aApp, aCpy, aClr, Sym.reps, aCall, aCallQ, finishCall, Sym.refs, Sym.refs1, Sym.refs0, okv, ok1, Sym.atom, flat0, dedup, Sym.reach, Sym.pos, Sym.sub, renO, Sym.ren, Sym.ren1, Sym.ren0, gmap, mergeOld, mergeNew, mergeO, allFresh, Sym.det, Sym.det0, Sym.canon, keepEnv, aRes, Sym.one, frzM, frz1, frz0, frzL, args0, dead0, lh_some, aCallM, aopM_s, if_true, if_false, ite_true, ite_false, reduceIte, reduceCtorEq, Nat.reduceEqDiff, ne_eq, Nat.reduceAdd, Nat.reduceSub, Nat.reduceMul, Nat.reduceLT, Nat.reduceLeDiff, Nat.reduceBEq, Nat.reduceBNe, Nat.reduceGT, Int.reduceEq, Int.reduceLT, Int.reduceLE, Int.reduceToNat, Int.reduceAdd, Int.reduceSub, Int.reduceMul, Int.reduceNeg, Int.reduceBEq, Int.reduceBNe, b_parts_Glue_Put, Gl.o, Gl.b, Fr.c, c, c2, c3, c4, c5, c6, c7, emp, Gl.put, Gl.lay, Gl.at, Gl.begin, had, bit, h, h', h3, hp, e1, e2, e3, q1, q2, q3, q5, q6, q7, q8, putI_length]
  · simp only [had] at c6
    simp -implicitDefEqProofs only [eqs, Sym.wants, Sym.get, Sym.ev, Sym.evs, Sym.evO, Sym.evP, Sym.put, Sym.lev, Sym.aq, Sym.ae, aBin, aInt, isShift, aEqB, aEqP, aEqS, leavesEq, leafEq, aUn, Sym.rd, aLoad, aField, aFad, aNilck, asI, aIxS, aIxA, aIxV, aExt, aPick, aCvi, aCvs, aLen, aLenS, aMin2, aMax2, aFold, aFoldL, bnd, aSlStr, aSlS, fillL, newO, kill, aStore, putL, getO, cellsOf, Sym.elems, Sym.elemsS, aApp, aCpy, aClr, Sym.reps, aCall, aCallQ, finishCall, Sym.refs, Sym.refs1, Sym.refs0, okv, ok1, Sym.atom, flat0, dedup, Sym.reach, Sym.pos, Sym.sub, renO, Sym.ren, Sym.ren1, Sym.ren0, gmap, mergeOld, mergeNew, mergeO, allFresh, Sym.det, Sym.det0, Sym.canon, keepEnv, aRes, Sym.one, frzM, frz1, frz0, frzL, args0, dead0, lh_some, aCallM, aopM_s, if_true, if_false, ite_true, ite_false, reduceIte, reduceCtorEq, Nat.reduceEqDiff, ne_eq, Nat.reduceAdd, Nat.reduceSub, Nat.reduceMul, Nat.reduceLT, Nat.reduceLeDiff, Nat.reduceBEq, Nat.reduceBNe, Nat.reduceGT, Int.reduceEq, Int.reduceLT, Int.reduceLE, Int.reduceToNat, Int.reduceAdd, Int.reduceSub, Int.reduceMul, Int.reduceNeg, Int.reduceBEq, Int.reduceBNe, b_parts_Glue_Put, Gl.o, Gl.b, Fr.c, c, c2, c3, c4, c5, c6, emp, Gl.put, Gl.lay, Gl.at, Gl.begin, had, bit, h, h', h3, hp, e1, e2, e3, q1, q2, q3, q5, q6, q7, q8, putI_length]
theorem put_a (k : Nat) (g : Gl) (f : Fr) (hf : f.In) (hg : g.In) : acall T (k + 7) 31 1 [.ptr 0 0, .agg f.c] [g.o false, g.b false] = some ⟨(g.put f).1, [(g.put f).2.o false, (g.put f).2.b false], 2⟩ := by
  cases c : (f.kind != 4)
  · cases c2 : fits g f
    · exact put_fits k g f hf hg c c2
    · cases c3 : g.is
      · exact put_new k g f hf hg c c2 c3
      · by_cases c4 : cmpV f.inc f.seq g.inc g.seq < 0
        · exact put_old k g f hf hg c c2 c3 c4
        · by_cases c5 : 0 < cmpV f.inc f.seq g.inc g.seq
          · exact put_next k g f hf hg c c2 c3 c5
          · exact put_go k g f hf hg c c2 c3 c4 c5
  · exact put_kind k g f hf hg c
end Go.Proofs.Ytkaigdfklihlcaa.Glue
