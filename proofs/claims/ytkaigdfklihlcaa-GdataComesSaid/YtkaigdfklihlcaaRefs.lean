/- The reference's glue. -/
import Derived.Test.YtkaigdfklihlcaaGlue
import Derived.Test.YtkaigdfklihlcaaAll
namespace Go.Proofs.Ytkaigdfklihlcaa.Refs
open Go Go.Proofs.Ytkaigdfklihlcaa.Sym Go.Proofs.Ytkaigdfklihlcaa.Tab Go.Proofs.Ytkaigdfklihlcaa.Blk Go.Proofs.Ytkaigdfklihlcaa.Glue
set_option linter.unusedVariables false
set_option linter.unusedSimpArgs false
set_option maxHeartbeats 4000000
set_option maxRecDepth 20000
def zeros (n : Nat) : ByteArray := strOfNums (List.replicate n 0)
theorem strOfNums_size (l : List Int) : (strOfNums l).size = l.length := by simp [strOfNums, ByteArray.size]
theorem zeros_size (n : Nat) : (zeros n).size = n := by rw [zeros, strOfNums_size, List.length_replicate]
theorem lengths_a (k : Nat) (n : Int) (hn : 1 ≤ n ∧ n ≤ 64) : acall T (k + 21) 44 0 [.v (.int .i64 n)] [] = some ⟨.shr (cuts (zeros n.toNat)).length false (strs (cuts (zeros n.toNat))), [], 1⟩ := by
  rw [acall_go (body := b_fuglemanref17_lengths) rfl rfl (Nat.zero_le _)]
  have hz := zeros_size n.toNat
  have c : ¬ zeros n.toNat = ByteArray.empty := by intro h; rw [h] at hz; simp at hz; omega
  have h := all_a k (zeros n.toNat) (by omega)
  simp only [c, if_false] at h
  have c2 : n ≤ n := Int.le_refl n
  have c3 : n.toNat * 1 ≤ 140737488355328 := by omega
  have c3' : n.toNat ≤ 140737488355328 := by omega
  have c4 : n.toNat ≤ 9223372036854775807 := by omega
  have c5 : 0 ≤ n := by omega
  have t1 : (List.replicate n.toNat 0).take n.toNat = List.replicate n.toNat (0 : Int) := List.take_of_length_le (by simp)
  have z1 : strOfNums (List.replicate n.toNat 0) = zeros n.toNat := rfl
  simp -implicitDefEqProofs only [eqs, Sym.wants, Sym.get, Sym.ev, Sym.evs, Sym.evO, Sym.evP, Sym.put, Sym.lev, Sym.aq, Sym.ae, aBin, aInt, isShift, aEqB, aEqP, aEqS, leavesEq, leafEq, aUn, Sym.rd, aLoad, aField, aFad, aNilck, asI, aIxS, aIxA, aIxV, aExt, aPick, aCvi, aCvs, aLen, aLenS, aMin2, aMax2, aFold, aFoldL, bnd, aSlStr, aSlS, fillL, newO, kill, aStore, putL, getO, cellsOf, Sym.elems, Sym.elemsS, aApp, aCpy, aClr, Sym.reps, aCall, aCallQ, finishCall, Sym.refs, Sym.refs1, Sym.refs0, okv, ok1, Sym.atom, flat0, dedup, Sym.reach, Sym.pos, Sym.sub, renO, Sym.ren, Sym.ren1, Sym.ren0, gmap, mergeOld, mergeNew, mergeO, allFresh, Sym.det, Sym.det0, Sym.canon, keepEnv, aRes, Sym.one, frzM, frz1, frz0, frzL, args0, dead0, lh_some, aCallM, aopM_s, if_true, if_false, ite_true, ite_false, reduceIte, reduceCtorEq, Nat.reduceEqDiff, ne_eq, Nat.reduceAdd, Nat.reduceSub, Nat.reduceMul, Nat.reduceLT, Nat.reduceLeDiff, Nat.reduceBEq, Nat.reduceBNe, Nat.reduceGT, Int.reduceEq, Int.reduceLT, Int.reduceLE, Int.reduceToNat, Int.reduceAdd, Int.reduceSub, Int.reduceMul, Int.reduceNeg, Int.reduceBEq, Int.reduceBNe, b_fuglemanref17_lengths, c2, c3, c3', c4, c5, reps_bytes, List.length_replicate, t1, z1, h]
def num (a b : Int) : Int := a * 4294967296 + b
theorem number_a (k : Nat) (a b : Int) (ha : 0 ≤ a ∧ a ≤ 65535) (hb : 0 ≤ b ∧ b ≤ 4294967295) : acall T (k + 1) 23 0 [.agg [.v (.int .u16 a), .v (.int .u32 b)]] [] = some ⟨.v (.int .u64 (num a b)), [], 1⟩ := by
  rw [acall_go (body := b_fuglemanref17_Number) rfl rfl (Nat.zero_le _)]
  have e1 : IntKind.u64.wrap a = a := wu64 (by omega) (by omega)
  have e2 : IntKind.u64.wrap b = b := wu64 (by omega) (by omega)
  have e3 : IntKind.u64.wrap (a * 4294967296) = a * 4294967296 := wu64 (by omega) (by omega)
  have e4 : IntKind.u64.wrap (a * 4294967296 + b) = a * 4294967296 + b := wu64 (by omega) (by omega)
  simp -implicitDefEqProofs only [eqs, Sym.wants, Sym.get, Sym.ev, Sym.evs, Sym.evO, Sym.evP, Sym.put, Sym.lev, Sym.aq, Sym.ae, aBin, aInt, isShift, aEqB, aEqP, aEqS, leavesEq, leafEq, aUn, Sym.rd, aLoad, aField, aFad, aNilck, asI, aIxS, aIxA, aIxV, aExt, aPick, aCvi, aCvs, aLen, aLenS, aMin2, aMax2, aFold, aFoldL, bnd, aSlStr, aSlS, fillL, newO, kill, aStore, putL, getO, cellsOf, Sym.elems, Sym.elemsS, aApp, aCpy, aClr, Sym.reps, aCall, aCallQ, finishCall, Sym.refs, Sym.refs1, Sym.refs0, okv, ok1, Sym.atom, flat0, dedup, Sym.reach, Sym.pos, Sym.sub, renO, Sym.ren, Sym.ren1, Sym.ren0, gmap, mergeOld, mergeNew, mergeO, allFresh, Sym.det, Sym.det0, Sym.canon, keepEnv, aRes, Sym.one, frzM, frz1, frz0, frzL, args0, dead0, lh_some, aCallM, aopM_s, if_true, if_false, ite_true, ite_false, reduceIte, reduceCtorEq, Nat.reduceEqDiff, ne_eq, Nat.reduceAdd, Nat.reduceSub, Nat.reduceMul, Nat.reduceLT, Nat.reduceLeDiff, Nat.reduceBEq, Nat.reduceBNe, Nat.reduceGT, Int.reduceEq, Int.reduceLT, Int.reduceLE, Int.reduceToNat, Int.reduceAdd, Int.reduceSub, Int.reduceMul, Int.reduceNeg, Int.reduceBEq, Int.reduceBNe, b_fuglemanref17_Number, e1, e2, e3, e4, num]
/-- The reference's glue, once it is at a version. -/
structure Rg where
  size : Int
  inc : Int
  seq : Int
  came : List ByteArray
def Rg.o (g : Rg) (fr : Bool) : Sym.Obj := ⟨true, fr, false, [.v (.int .i64 g.size), .v (.bool true), .v (.int .u16 g.inc), .v (.int .u32 g.seq), .view 1 0 g.came.length 1 (some g.came.length)]⟩
def Rg.c (g : Rg) (fr : Bool) : Sym.Obj := ⟨true, fr, true, strs g.came⟩
def Rg.no (n : Int) (fr : Bool) : Sym.Obj := ⟨true, fr, true, [.v (.int .i64 n), .v (.bool false), .v (.int .u16 0), .v (.int .u32 0), .v (.slice none 0 0)]⟩
def has (l : List ByteArray) : Int := (l.countP fun s => s ≠ ByteArray.empty : Nat)
end Go.Proofs.Ytkaigdfklihlcaa.Refs
