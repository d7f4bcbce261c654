/- New subscribers. -/
import Derived.Test.YtkaigdfklihlcaaGSub
namespace Go.Proofs.Ytkaigdfklihlcaa.GSub
open Go Go.Proofs.Ytkaigdfklihlcaa.Sym Go.Proofs.Ytkaigdfklihlcaa.Tab Go.Proofs.Ytkaigdfklihlcaa.Blk Go.Proofs.Ytkaigdfklihlcaa.Glue Go.Proofs.Ytkaigdfklihlcaa.Refs Go.Proofs.Ytkaigdfklihlcaa.RefsT
set_option linter.unusedVariables false
set_option linter.unusedSimpArgs false
set_option maxHeartbeats 4000000
set_option maxRecDepth 20000
def nul (m : Nat) : ByteArray := Ext.rep ⟨#[0]⟩ m
theorem rep_a (k : Nat) (c : Int) (h : 0 ≤ c ∧ c ≤ 64) : acall T (k + 1) 28 0 [.v (.string ⟨#[0]⟩), .v (.int .i64 c)] [] = some ⟨.v (.string (nul c.toNat)), [], 1⟩ := by
  show Ext.ext 28 0 [.v (.string ⟨#[0]⟩), .v (.int .i64 c)] [] = _
  unfold Ext.ext
  exact if_pos ⟨rfl, rfl, h.1, by omega, by show 1 * c.toNat ≤ _; omega⟩
theorem repL_len (m : Nat) : Lib.repeatL [(0 : UInt8)] m = List.replicate m 0 := by
  induction m with
  | zero => rfl
  | succ m ih => rw [Lib.repeatL, ih]; rfl
theorem nul_eq (m : Nat) : nul m = ⟨(List.replicate m 0).toArray⟩ := by
  show (⟨(Lib.repeatL [(0 : UInt8)] m).toArray⟩ : ByteArray) = _
  rw [repL_len]
theorem nul_size (m : Nat) : (nul m).size = m := by rw [nul_eq]; simp [ByteArray.size]
theorem nul_zero : nul 0 = ByteArray.empty := by rw [nul_eq]; rfl
theorem nul_succ (m : Nat) : (⟨#[0]⟩ : ByteArray) ++ nul m = nul (m + 1) := by
  rw [nul_eq, nul_eq]
  apply ByteArray.ext
  rw [ByteArray.data_append]
  apply Array.ext'
  simp [List.replicate_succ]
def first (n : Nat) (v : ByteArray) : ByteArray := (v ++ nul n).extract 0 n
theorem first_pad (n : Nat) (v : ByteArray) : (v ++ nul (n - v.size)).extract 0 n = first n v := by
  unfold first
  rw [nul_eq, nul_eq]
  apply ByteArray.ext
  rw [ByteArray.data_extract, ByteArray.data_extract, ByteArray.data_append, ByteArray.data_append]
  apply Array.ext'
  have hl : v.data.toList.length = v.size := rfl
  simp only [Array.toList_extract, Array.toList_append, List.extract_eq_take_drop, List.drop_zero, List.take_append, hl, List.take_replicate, Nat.sub_zero]
  congr 2
  omega
def tl0 (n : Int) (v : ByteArray) : Tl := ⟨first n.toNat v, ByteArray.empty, 0, 0, 0, 0, false, false⟩
def gl0 (n : Int) : Gl := ⟨0, 0, false, 0, 0, List.replicate n.toNat 0⟩
theorem newsub_a (k : Nat) (n : Int) (v : ByteArray) (hn : 1 ≤ n ∧ n ≤ 64) (hv : v.size ≤ 100) : acall T (k + 3) 9 0 [.v (.int .i64 n), .v (.string v)] [] = some ⟨.ptr 0 0, [sO (tl0 n v) 1 true, gK (gl0 n) 2 true, (gl0 n).b true], 1⟩ := by
  rw [acall_go (body := b_gdata_NewSub) rfl rfl (Nat.zero_le _)]
  have h := new_a k n hn
  have hr := rep_a (k + 1) n (by omega)
  have s1 : v.size + n.toNat ≤ 9223372036854775807 := by omega
  have s2 : (0 : Int) ≤ n := by omega
  have s3 : n.toNat ≤ v.size + n.toNat := by omega
  simp only [Gl.o, Gl.b] at h
  unfold tl0 gl0 first
  simp -implicitDefEqProofs only [eqs, Sym.wants, Sym.get, Sym.ev, Sym.evs, Sym.evO, Sym.evP, Sym.put, Sym.lev, Sym.aq, Sym.ae, aBin, aInt, isShift, aEqB, aEqP, aEqS, leavesEq, leafEq, aUn, Sym.rd, aLoad, aField, aFad, aNilck, asI, aIxS, aIxA, aIxV, aExt, aPick, aCvi, aCvs, aLen, aLenS, aMin2, aMax2, aFold, aFoldL, bnd, aSlStr, aSlS, fillL, newO, kill, aStore, putL, getO, cellsOf, Sym.elems, Sym.elemsS, aApp, aCpy, aClr, Sym.reps, aCall, aCallQ, finishCall, Sym.refs, Sym.refs1, Sym.refs0, okv, ok1, Sym.atom, flat0, dedup, Sym.reach, Sym.pos, Sym.sub, renO, Sym.ren, Sym.ren1, Sym.ren0, gmap, mergeOld, mergeNew, mergeO, allFresh, Sym.det, Sym.det0, Sym.canon, keepEnv, aRes, Sym.one, frzM, frz1, frz0, frzL, args0, dead0, lh_some, aCallM, aopM_s, if_true, if_false, ite_true, ite_false, reduceIte, reduceCtorEq, Nat.reduceEqDiff, ne_eq, Nat.reduceAdd, Nat.reduceSub, Nat.reduceMul, Nat.reduceLT, Nat.reduceLeDiff, Nat.reduceBEq, Nat.reduceBNe, Nat.reduceGT, Int.reduceEq, Int.reduceLT, Int.reduceLE, Int.reduceToNat, Int.reduceAdd, Int.reduceSub, Int.reduceMul, Int.reduceNeg, Int.reduceBEq, Int.reduceBNe, b_gdata_NewSub, h, hr, s1, s2, s3, sO, gK, Gl.b, nul_size, ByteArray.size_append, Refs.emp]
theorem newsub_nil (k : Nat) (n : Int) (v : ByteArray) (hn : ¬ (1 ≤ n ∧ n ≤ 64)) : acall T (k + 3) 9 0 [.v (.int .i64 n), .v (.string v)] [] = some ⟨.v (.pointer none), [], 0⟩ := by
  rw [acall_go (body := b_gdata_NewSub) rfl rfl (Nat.zero_le _)]
  have h := new_nil k n hn
  simp -implicitDefEqProofs only [eqs, Sym.wants, Sym.get, Sym.ev, Sym.evs, Sym.evO, Sym.evP, Sym.put, Sym.lev, Sym.aq, Sym.ae, aBin, aInt, isShift, aEqB, aEqP, aEqS, leavesEq, leafEq, aUn, Sym.rd, aLoad, aField, aFad, aNilck, asI, aIxS, aIxA, aIxV, aExt, aPick, aCvi, aCvs, aLen, aLenS, aMin2, aMax2, aFold, aFoldL, bnd, aSlStr, aSlS, fillL, newO, kill, aStore, putL, getO, cellsOf, Sym.elems, Sym.elemsS, aApp, aCpy, aClr, Sym.reps, aCall, aCallQ, finishCall, Sym.refs, Sym.refs1, Sym.refs0, okv, ok1, Sym.atom, flat0, dedup, Sym.reach, Sym.pos, Sym.sub, renO, Sym.ren, Sym.ren1, Sym.ren0, gmap, mergeOld, mergeNew, mergeO, allFresh, Sym.det, Sym.det0, Sym.canon, keepEnv, aRes, Sym.one, frzM, frz1, frz0, frzL, args0, dead0, lh_some, aCallM, aopM_s, if_true, if_false, ite_true, ite_false, reduceIte, reduceCtorEq, Nat.reduceEqDiff, ne_eq, Nat.reduceAdd, Nat.reduceSub, Nat.reduceMul, Nat.reduceLT, Nat.reduceLeDiff, Nat.reduceBEq, Nat.reduceBNe, Nat.reduceGT, Int.reduceEq, Int.reduceLT, Int.reduceLE, Int.reduceToNat, Int.reduceAdd, Int.reduceSub, Int.reduceMul, Int.reduceNeg, Int.reduceBEq, Int.reduceBNe, b_gdata_NewSub, h]
theorem rnew_loop (C : CT) (lf : Nat) (n : Int) (hn : 1 ≤ n ∧ n ≤ 64) : ∀ (m N : Nat) (v : ByteArray), m = n.toNat - v.size → v.size ≤ 200 → m ≤ N →
    FnR [.t 4] false false (Lh C lf (some ⟨[(0, .v (.int .i64 n)), (1, .v (.string v))], [], 0, []⟩) [0, 1] l_fuglemanref18_NewSub_0 N [.b 0, .c l_fuglemanref18_NewSub_1]) = some ⟨.ptr 0 0, [Rg.noT n ⟨(v ++ nul m).extract 0 n.toNat, ByteArray.empty, 0, 0, 0, 0, false, false⟩ true], 1⟩
  | m, N, v, hm, hv, hN => by
    rw [lh_as l_fuglemanref18_NewSub_0.eq_1]
    cases m with
    | zero =>
      have c : ¬ (v.size : Int) < n := by omega
      have c2 : (0 : Int) ≤ n := by omega
      have c3 : n.toNat ≤ v.size := by omega
      rw [nul_zero, ByteArray.append_empty]
      simp -implicitDefEqProofs only [eqs, Sym.wants, Sym.get, Sym.ev, Sym.evs, Sym.evO, Sym.evP, Sym.put, Sym.lev, Sym.aq, Sym.ae, aBin, aInt, isShift, aEqB, aEqP, aEqS, leavesEq, leafEq, aUn, Sym.rd, aLoad, aField, aFad, aNilck, asI, aIxS, aIxA, aIxV, aExt, aPick, aCvi, aCvs, aLen, aLenS, aMin2, aMax2, aFold, aFoldL, bnd, aSlStr, aSlS, fillL, newO, kill, aStore, putL, getO, cellsOf, Sym.elems, Sym.elemsS, aApp, aCpy, aClr, Sym.reps, aCall, aCallQ, finishCall, Sym.refs, Sym.refs1, Sym.refs0, okv, ok1, Sym.atom, flat0, dedup, Sym.reach, Sym.pos, Sym.sub, renO, Sym.ren, Sym.ren1, Sym.ren0, gmap, mergeOld, mergeNew, mergeO, allFresh, Sym.det, Sym.det0, Sym.canon, keepEnv, aRes, Sym.one, frzM, frz1, frz0, frzL, args0, dead0, aCallM, aopM_s, if_true, if_false, ite_true, ite_false, reduceIte, reduceCtorEq, Nat.reduceEqDiff, ne_eq, Nat.reduceAdd, Nat.reduceSub, Nat.reduceMul, Nat.reduceLT, Nat.reduceLeDiff, Nat.reduceBEq, Nat.reduceBNe, Nat.reduceGT, Int.reduceEq, Int.reduceLT, Int.reduceLE, Int.reduceToNat, Int.reduceAdd, Int.reduceSub, Int.reduceMul, Int.reduceNeg, Int.reduceBEq, Int.reduceBNe, l_fuglemanref18_NewSub_1, c, c2, c3, Rg.noT, Refs.emp]
    | succ m =>
      obtain ⟨N, rfl⟩ : ∃ n', N = n' + 1 := ⟨N - 1, by omega⟩
      have c : (v.size : Int) < n := by omega
      have c1 : v.size ≤ 9223372036854775806 := by omega
      have hs : (v ++ (⟨#[0]⟩ : ByteArray)).size = v.size + 1 := by rw [ByteArray.size_append]; rfl
      have c2 : v.size + (⟨#[0]⟩ : ByteArray).size ≤ 9223372036854775807 := by show v.size + 1 ≤ _; omega
      have ih := rnew_loop C lf n hn m N (v ++ ⟨#[0]⟩) (by rw [hs]; omega) (by rw [hs]; omega) (by omega)
      rw [ByteArray.append_assoc, nul_succ] at ih
      simp -implicitDefEqProofs only [eqs, Sym.wants, Sym.get, Sym.ev, Sym.evs, Sym.evO, Sym.evP, Sym.put, Sym.lev, Sym.aq, Sym.ae, aBin, aInt, isShift, aEqB, aEqP, aEqS, leavesEq, leafEq, aUn, Sym.rd, aLoad, aField, aFad, aNilck, asI, aIxS, aIxA, aIxV, aExt, aPick, aCvi, aCvs, aLen, aLenS, aMin2, aMax2, aFold, aFoldL, bnd, aSlStr, aSlS, fillL, newO, kill, aStore, putL, getO, cellsOf, Sym.elems, Sym.elemsS, aApp, aCpy, aClr, Sym.reps, aCall, aCallQ, finishCall, Sym.refs, Sym.refs1, Sym.refs0, okv, ok1, Sym.atom, flat0, dedup, Sym.reach, Sym.pos, Sym.sub, renO, Sym.ren, Sym.ren1, Sym.ren0, gmap, mergeOld, mergeNew, mergeO, allFresh, Sym.det, Sym.det0, Sym.canon, keepEnv, aRes, Sym.one, frzM, frz1, frz0, frzL, args0, dead0, aCallM, aopM_s, if_true, if_false, ite_true, ite_false, reduceIte, reduceCtorEq, Nat.reduceEqDiff, ne_eq, Nat.reduceAdd, Nat.reduceSub, Nat.reduceMul, Nat.reduceLT, Nat.reduceLeDiff, Nat.reduceBEq, Nat.reduceBNe, Nat.reduceGT, Int.reduceEq, Int.reduceLT, Int.reduceLE, Int.reduceToNat, Int.reduceAdd, Int.reduceSub, Int.reduceMul, Int.reduceNeg, Int.reduceBEq, Int.reduceBNe, c, c2, ih]
theorem rnew_a (k : Nat) (n : Int) (v : ByteArray) (hn : 1 ≤ n ∧ n ≤ 64) (hv : v.size ≤ 100) : acall T (k + 80) 18 0 [.v (.int .i64 n), .v (.string v)] [] = some ⟨.ptr 0 0, [Rg.noT n (tl0 n v) true], 1⟩ := by
  rw [acall_go (body := b_fuglemanref18_NewSub) rfl rfl (Nat.zero_le _)]
  have ih := rnew_loop (acall T (k + 79)) (k + 79) n hn (n.toNat - v.size) (k + 78) v rfl (by omega) (by omega)
  rw [first_pad] at ih
  have lp : ∀ (ks : List It) (s : St), Lp (acall T (k + 79)) (k + 79) [0, 1] l_fuglemanref18_NewSub_0 (k + 79) ks s = Lh (acall T (k + 79)) (k + 79) (canon [0, 1] s) [0, 1] l_fuglemanref18_NewSub_0 (k + 78) ks := fun ks s => lp_succ (n := k + 78)
  unfold tl0
  simp -implicitDefEqProofs only [eqs, Sym.wants, Sym.get, Sym.ev, Sym.evs, Sym.evO, Sym.evP, Sym.put, Sym.lev, Sym.aq, Sym.ae, aBin, aInt, isShift, aEqB, aEqP, aEqS, leavesEq, leafEq, aUn, Sym.rd, aLoad, aField, aFad, aNilck, asI, aIxS, aIxA, aIxV, aExt, aPick, aCvi, aCvs, aLen, aLenS, aMin2, aMax2, aFold, aFoldL, bnd, aSlStr, aSlS, fillL, newO, kill, aStore, putL, getO, cellsOf, Sym.elems, Sym.elemsS, aApp, aCpy, aClr, Sym.reps, aCall, aCallQ, finishCall, Sym.refs, Sym.refs1, Sym.refs0, okv, ok1, Sym.atom, flat0, dedup, Sym.reach, Sym.pos, Sym.sub, renO, Sym.ren, Sym.ren1, Sym.ren0, gmap, mergeOld, mergeNew, mergeO, allFresh, Sym.det, Sym.det0, Sym.canon, keepEnv, aRes, Sym.one, frzM, frz1, frz0, frzL, args0, dead0, aCallM, aopM_s, if_true, if_false, ite_true, ite_false, reduceIte, reduceCtorEq, Nat.reduceEqDiff, ne_eq, Nat.reduceAdd, Nat.reduceSub, Nat.reduceMul, Nat.reduceLT, Nat.reduceLeDiff, Nat.reduceBEq, Nat.reduceBNe, Nat.reduceGT, Int.reduceEq, Int.reduceLT, Int.reduceLE, Int.reduceToNat, Int.reduceAdd, Int.reduceSub, Int.reduceMul, Int.reduceNeg, Int.reduceBEq, Int.reduceBNe, b_fuglemanref18_NewSub, lp, ih]
end Go.Proofs.Ytkaigdfklihlcaa.GSub
