/- A value's frames, by the document. -/
import Derived.Test.YtkaigdfklihlcaaSplD
namespace Go.Proofs.Ytkaigdfklihlcaa.Spl
open Go Go.Proofs.Ytkaigdfklihlcaa.Sym Go.Proofs.Ytkaigdfklihlcaa.Tab Go.Proofs.Ytkaigdfklihlcaa.Blk Go.Proofs.Ytkaigdfklihlcaa.Glue Go.Proofs.Ytkaigdfklihlcaa.Refs
set_option linter.unusedVariables false
set_option linter.unusedSimpArgs false
set_option maxHeartbeats 4000000
set_option maxRecDepth 20000
theorem parts_of {s : ByteArray} (h : 1 ≤ s.size ∧ s.size ≤ 64) : (parts s.size).toNat = (cuts s).length ∧ parts s.size = ((cuts s).length : Nat) := by
  rw [cuts_len]
  unfold parts
  rw [if_neg (by omega)]
  omega
theorem cut_at {s : ByteArray} (h : 1 ≤ s.size ∧ s.size ≤ 64) {i : Nat} (hi : i < (cuts s).length) : (cuts s)[i]? = some (cut s i) := by
  have hl := cuts_len s
  rw [cuts_at s i (by omega)]
  unfold cut piece
  rw [if_neg (by have := (parts_of h).2; omega)]
  congr 2
  · show 16 * i = ((i : Int) * 16).toNat
    omega
  · show min (16 * i + 16) s.size = ((i : Int) * 16 + (if (s.size : Int) - i * 16 < 16 then s.size - i * 16 else 16 : Int)).toNat
    split <;> omega
theorem rsplit_loop (C : CT) (lf : Nat) (s : ByteArray) (hs : 1 ≤ s.size ∧ s.size ≤ 64) : ∀ (m n i : Nat) (l : List Fr) (g : Fr), i + m = (cuts s).length → l.length = i → m ≤ n →
    FnR [.t 4] true false (Lh C lf (some ⟨[(2, .ptr 0 0), (5, .shr (cuts s).length false (strs (cuts s))), (6, .view 1 0 l.length 19 none), (7, .v (.int .i64 i))], [⟨true, true, true, g.c⟩, ⟨true, true, true, frs l⟩], 1, []⟩) [2, 5, 6, 7] l_fuglemanref17_Split_0 n [.b 0, .c l_fuglemanref17_Split_1]) = some ⟨.shr (l ++ tail g s m i).length false (frs (l ++ tail g s m i)), [], 1⟩
  | m, n, i, l, g, hm, hl, hn => by
    rw [lh_as l_fuglemanref17_Split_0.eq_1]
    have hp := parts_le s.size
    have hq := parts_of hs
    cases m with
    | zero =>
      have c1 : ¬ (i : Int) < (cuts s).length := by omega
      have t0 : tail g s 0 i = [] := rfl
      rw [t0, List.append_nil]
      simp -implicitDefEqProofs only [eqs, Sym.wants, Sym.get, Sym.ev, Sym.evs, Sym.evO, Sym.evP, Sym.put, Sym.lev, Sym.aq, Sym.ae, aBin, aInt, isShift, aEqB, aEqP, aEqS, leavesEq, leafEq, aUn, Sym.rd, aLoad, aField, aFad, aNilck, asI, aIxS, aIxA, aIxV, aExt, aPick, aCvi, aCvs, aLen, aLenS, aMin2, aMax2, aFold, aFoldL, bnd, aSlStr, aSlS, fillL, newO, kill, aStore, putL, getO, cellsOf, Sym.elems, Sym.elemsS, aApp, aCpy, aClr, Sym.reps, aCall, aCallQ, finishCall, Sym.refs, Sym.refs1, Sym.refs0, okv, ok1, Sym.atom, flat0, dedup, Sym.reach, Sym.pos, Sym.sub, renO, Sym.ren, Sym.ren1, Sym.ren0, gmap, mergeOld, mergeNew, mergeO, allFresh, Sym.det, Sym.det0, Sym.canon, keepEnv, aRes, Sym.one, frzM, frz1, frz0, frzL, args0, dead0, aCallM, aopM_s, if_true, if_false, ite_true, ite_false, reduceIte, reduceCtorEq, Nat.reduceEqDiff, ne_eq, Nat.reduceAdd, Nat.reduceSub, Nat.reduceMul, Nat.reduceLT, Nat.reduceLeDiff, Nat.reduceBEq, Nat.reduceBNe, Nat.reduceGT, Int.reduceEq, Int.reduceLT, Int.reduceLE, Int.reduceToNat, Int.reduceAdd, Int.reduceSub, Int.reduceMul, Int.reduceNeg, Int.reduceBEq, Int.reduceBNe, l_fuglemanref17_Split_1, c1, frs_len, frs_flat, frs_atom, frs_take]
    | succ m =>
      obtain ⟨n, rfl⟩ : ∃ n', n = n' + 1 := ⟨n - 1, by omega⟩
      have c1 : (i : Int) < (cuts s).length := by omega
      have w1 : IntKind.u8.wrap i = i := wu8 (by omega) (by omega)
      have w2 : IntKind.u8.wrap ((cuts s).length : Nat) = ((cuts s).length : Nat) := wu8 (by omega) (by omega)
      have w3 : IntKind.i64.wrap (i + 1) = i + 1 := w64 (by omega) (by omega)
      have e0 := cut_at hs (i := i) (by omega)
      have e1 : (strs (cuts s))[i]? = some (.v (.string (cut s i))) := by simp [strs, e0]
      have e2 : (0 : Int) ≤ i := by omega
      have b1 : (l.length + 1) * 64 ≤ 140737488355328 := by omega
      have b2 : l.length ≤ 9223372036854775806 := by omega
      have b3 : ¬ ((l.length + 1) * 19 ≤ l.length * 19) := by omega
      have ih := rsplit_loop C lf s hs m n (i + 1) (l ++ [fr g s i]) (fr g s i) (by omega) (by rw [snoc_len]; omega) (by omega)
      rw [tail_fr] at ih
      have e : tail g s (m + 1) i = fr g s i :: tail g s m (i + 1) := rfl
      rw [e, List.append_cons, ← ih]
      simp -implicitDefEqProofs only [eqs, Sym.wants, Sym.get, Sym.ev, Sym.evs, Sym.evO, Sym.evP, Sym.put, Sym.lev, Sym.aq, Sym.ae, aBin, aInt, isShift, aEqB, aEqP, aEqS, leavesEq, leafEq, aUn, Sym.rd, aLoad, aField, aFad, aNilck, asI, aIxS, aIxA, aIxV, aExt, aPick, aCvi, aCvs, aLen, aLenS, aMin2, aMax2, aFold, aFoldL, bnd, aSlStr, aSlS, fillL, newO, kill, aStore, putL, getO, cellsOf, Sym.elems, Sym.elemsS, aApp, aCpy, aClr, Sym.reps, aCall, aCallQ, finishCall, Sym.refs, Sym.refs1, Sym.refs0, okv, ok1, Sym.atom, flat0, dedup, Sym.reach, Sym.pos, Sym.sub, renO, Sym.ren, Sym.ren1, Sym.ren0, gmap, mergeOld, mergeNew, mergeO, allFresh, Sym.det, Sym.det0, Sym.canon, keepEnv, aRes, Sym.one, frzM, frz1, frz0, frzL, args0, dead0, aCallM, aopM_s, if_true, if_false, ite_true, ite_false, reduceIte, reduceCtorEq, Nat.reduceEqDiff, ne_eq, Nat.reduceAdd, Nat.reduceSub, Nat.reduceMul, Nat.reduceLT, Nat.reduceLeDiff, Nat.reduceBEq, Nat.reduceBNe, Nat.reduceGT, Int.reduceEq, Int.reduceLT, Int.reduceLE, Int.reduceToNat, Int.reduceAdd, Int.reduceSub, Int.reduceMul, Int.reduceNeg, Int.reduceBEq, Int.reduceBNe, fr, Fr.c, frs_one, snoc_len, Int.natCast_add, Int.toNat_natCast, hq.2, c1, w1, w2, w3, e1, e2, b1, b2, b3, frs_len, frs_flat, frs_atom, frs_take]
theorem rsplit_a (k : Nat) (s : ByteArray) (hs : s.size ≤ 160) (g : Fr) : acall T (k + 30) 33 0 [.agg g.c, .v (.string s)] [] = some ⟨rowA (split g s), [], 1⟩ := by
  rw [acall_go (body := b_fuglemanref17_Split) rfl rfl (Nat.zero_le _)]
  by_cases c0 : 64 < s.size
  · have c0' : (64 : Int) < s.size := by omega
    have e : split g s = [] := by
      have : parts s.size = 0 := by unfold parts; rw [if_pos (by omega)]
      unfold split
      rw [this]
      rfl
    rw [e]
    simp -implicitDefEqProofs only [eqs, Sym.wants, Sym.get, Sym.ev, Sym.evs, Sym.evO, Sym.evP, Sym.put, Sym.lev, Sym.aq, Sym.ae, aBin, aInt, isShift, aEqB, aEqP, aEqS, leavesEq, leafEq, aUn, Sym.rd, aLoad, aField, aFad, aNilck, asI, aIxS, aIxA, aIxV, aExt, aPick, aCvi, aCvs, aLen, aLenS, aMin2, aMax2, aFold, aFoldL, bnd, aSlStr, aSlS, fillL, newO, kill, aStore, putL, getO, cellsOf, Sym.elems, Sym.elemsS, aApp, aCpy, aClr, Sym.reps, aCall, aCallQ, finishCall, Sym.refs, Sym.refs1, Sym.refs0, okv, ok1, Sym.atom, flat0, dedup, Sym.reach, Sym.pos, Sym.sub, renO, Sym.ren, Sym.ren1, Sym.ren0, gmap, mergeOld, mergeNew, mergeO, allFresh, Sym.det, Sym.det0, Sym.canon, keepEnv, aRes, Sym.one, frzM, frz1, frz0, frzL, args0, dead0, lh_some, aCallM, aopM_s, if_true, if_false, ite_true, ite_false, reduceIte, reduceCtorEq, Nat.reduceEqDiff, ne_eq, Nat.reduceAdd, Nat.reduceSub, Nat.reduceMul, Nat.reduceLT, Nat.reduceLeDiff, Nat.reduceBEq, Nat.reduceBNe, Nat.reduceGT, Int.reduceEq, Int.reduceLT, Int.reduceLE, Int.reduceToNat, Int.reduceAdd, Int.reduceSub, Int.reduceMul, Int.reduceNeg, Int.reduceBEq, Int.reduceBNe, b_fuglemanref17_Split, c0', Fr.c, rowA]
  · have c0' : ¬ (64 : Int) < s.size := by omega
    have h := all_a (k + 9) s hs
    by_cases c : s = ByteArray.empty
    · subst c
      have e : split g ByteArray.empty = [] := rfl
      rw [e]
      have lp : ∀ (ks : List It) (st : St), Lp (acall T (k + 29)) (k + 29) [2, 5, 6, 7] l_fuglemanref17_Split_0 (k + 29) ks st = Lh (acall T (k + 29)) (k + 29) (canon [2, 5, 6, 7] st) [2, 5, 6, 7] l_fuglemanref17_Split_0 (k + 28) ks := fun ks st => lp_succ (n := k + 28)
      have h' : acall T (k + 29) 45 0 [.v (.string ByteArray.empty)] [] = some ⟨.v (.slice none 0 0), [], 0⟩ := h
      simp -implicitDefEqProofs only [eqs, Sym.wants, Sym.get, Sym.ev, Sym.evs, Sym.evO, Sym.evP, Sym.put, Sym.lev, Sym.aq, Sym.ae, aBin, aInt, isShift, aEqB, aEqP, aEqS, leavesEq, leafEq, aUn, Sym.rd, aLoad, aField, aFad, aNilck, asI, aIxS, aIxA, aIxV, aExt, aPick, aCvi, aCvs, aLen, aLenS, aMin2, aMax2, aFold, aFoldL, bnd, aSlStr, aSlS, fillL, newO, kill, aStore, putL, getO, cellsOf, Sym.elems, Sym.elemsS, aApp, aCpy, aClr, Sym.reps, aCall, aCallQ, finishCall, Sym.refs, Sym.refs1, Sym.refs0, okv, ok1, Sym.atom, flat0, dedup, Sym.reach, Sym.pos, Sym.sub, renO, Sym.ren, Sym.ren1, Sym.ren0, gmap, mergeOld, mergeNew, mergeO, allFresh, Sym.det, Sym.det0, Sym.canon, keepEnv, aRes, Sym.one, frzM, frz1, frz0, frzL, args0, dead0, lh_some, aCallM, aopM_s, if_true, if_false, ite_true, ite_false, reduceIte, reduceCtorEq, Nat.reduceEqDiff, ne_eq, Nat.reduceAdd, Nat.reduceSub, Nat.reduceMul, Nat.reduceLT, Nat.reduceLeDiff, Nat.reduceBEq, Nat.reduceBNe, Nat.reduceGT, Int.reduceEq, Int.reduceLT, Int.reduceLE, Int.reduceToNat, Int.reduceAdd, Int.reduceSub, Int.reduceMul, Int.reduceNeg, Int.reduceBEq, Int.reduceBNe, b_fuglemanref17_Split, l_fuglemanref17_Split_0, l_fuglemanref17_Split_1, c0', h', Fr.c, rowA]
    · have hz : s.size ≠ 0 := fun h => c (ByteArray.size_eq_zero_iff.1 h)
      have hs' : 1 ≤ s.size ∧ s.size ≤ 64 := by omega
      have hq := parts_of hs'
      have hl := cuts_len s
      have e : split g s = fr g s 0 :: tail g s ((cuts s).length - 1) 1 := by
        have : (cuts s).length = ((cuts s).length - 1) + 1 := by omega
        unfold split
        rw [hq.1, this]
        rfl
      rw [if_neg c, if_neg c] at h
      have ih := rsplit_loop (acall T (k + 29)) (k + 29) s hs' ((cuts s).length - 1) (k + 27) 1 [fr g s 0] (fr g s 0) (by omega) rfl (by omega)
      rw [tail_fr, List.singleton_append, ← e] at ih
      have er : rowA (split g s) = .shr (split g s).length false (frs (split g s)) := by rw [e]; rfl
      have lp : ∀ (ks : List It) (st : St), Lp (acall T (k + 29)) (k + 29) [2, 5, 6, 7] l_fuglemanref17_Split_0 (k + 29) ks st = Lh (acall T (k + 29)) (k + 29) (canon [2, 5, 6, 7] st) [2, 5, 6, 7] l_fuglemanref17_Split_0 (k + 28) ks := fun ks st => lp_succ (n := k + 28)
      have lp2 : ∀ (ks : List It) (st : St), Lp (acall T (k + 29)) (k + 29) [2, 5, 6, 7] l_fuglemanref17_Split_0 (k + 28) ks st = Lh (acall T (k + 29)) (k + 29) (canon [2, 5, 6, 7] st) [2, 5, 6, 7] l_fuglemanref17_Split_0 (k + 27) ks := fun ks st => lp_succ (n := k + 27)
      have c1 : (0 : Int) < (cuts s).length := by omega
      have w2 : IntKind.u8.wrap ((cuts s).length : Nat) = ((cuts s).length : Nat) := wu8 (by omega) (by omega)
      have e0 := cut_at hs' (i := 0) (by omega)
      have e1 : (strs (cuts s))[0]? = some (.v (.string (cut s 0))) := by simp only [strs, List.getElem?_map, e0]; rfl
      have w1 : IntKind.u8.wrap 0 = 0 := rfl
      have w3 : IntKind.i64.wrap (0 + 1) = 1 := rfl
      rw [er, ← ih]
      simp -implicitDefEqProofs only [eqs, Sym.wants, Sym.get, Sym.ev, Sym.evs, Sym.evO, Sym.evP, Sym.put, Sym.lev, Sym.aq, Sym.ae, aBin, aInt, isShift, aEqB, aEqP, aEqS, leavesEq, leafEq, aUn, Sym.rd, aLoad, aField, aFad, aNilck, asI, aIxS, aIxA, aIxV, aExt, aPick, aCvi, aCvs, aLen, aLenS, aMin2, aMax2, aFold, aFoldL, bnd, aSlStr, aSlS, fillL, newO, kill, aStore, putL, getO, cellsOf, Sym.elems, Sym.elemsS, aApp, aCpy, aClr, Sym.reps, aCall, aCallQ, finishCall, Sym.refs, Sym.refs1, Sym.refs0, okv, ok1, Sym.atom, flat0, dedup, Sym.reach, Sym.pos, Sym.sub, renO, Sym.ren, Sym.ren1, Sym.ren0, gmap, mergeOld, mergeNew, mergeO, allFresh, Sym.det, Sym.det0, Sym.canon, keepEnv, aRes, Sym.one, frzM, frz1, frz0, frzL, args0, dead0, aCallM, aopM_s, if_true, if_false, ite_true, ite_false, reduceIte, reduceCtorEq, Nat.reduceEqDiff, ne_eq, Nat.reduceAdd, Nat.reduceSub, Nat.reduceMul, Nat.reduceLT, Nat.reduceLeDiff, Nat.reduceBEq, Nat.reduceBNe, Nat.reduceGT, Int.reduceEq, Int.reduceLT, Int.reduceLE, Int.reduceToNat, Int.reduceAdd, Int.reduceSub, Int.reduceMul, Int.reduceNeg, Int.reduceBEq, Int.reduceBNe, b_fuglemanref17_Split, h, c0', fr, Fr.c, frs, hq.2, Int.natCast_zero]
      rw [lh_as l_fuglemanref17_Split_0.eq_1]
      simp -implicitDefEqProofs only [eqs, Sym.wants, Sym.get, Sym.ev, Sym.evs, Sym.evO, Sym.evP, Sym.put, Sym.lev, Sym.aq, Sym.ae, aBin, aInt, isShift, aEqB, aEqP, aEqS, leavesEq, leafEq, aUn, Sym.rd, aLoad, aField, aFad, aNilck, asI, aIxS, aIxA, aIxV, aExt, aPick, aCvi, aCvs, aLen, aLenS, aMin2, aMax2, aFold, aFoldL, bnd, aSlStr, aSlS, fillL, newO, kill, aStore, putL, getO, cellsOf, Sym.elems, Sym.elemsS, aApp, aCpy, aClr, Sym.reps, aCall, aCallQ, finishCall, Sym.refs, Sym.refs1, Sym.refs0, okv, ok1, Sym.atom, flat0, dedup, Sym.reach, Sym.pos, Sym.sub, renO, Sym.ren, Sym.ren1, Sym.ren0, gmap, mergeOld, mergeNew, mergeO, allFresh, Sym.det, Sym.det0, Sym.canon, keepEnv, aRes, Sym.one, frzM, frz1, frz0, frzL, args0, dead0, aCallM, aopM_s, if_true, if_false, ite_true, ite_false, reduceIte, reduceCtorEq, Nat.reduceEqDiff, ne_eq, Nat.reduceAdd, Nat.reduceSub, Nat.reduceMul, Nat.reduceLT, Nat.reduceLeDiff, Nat.reduceBEq, Nat.reduceBNe, Nat.reduceGT, Int.reduceEq, Int.reduceLT, Int.reduceLE, Int.reduceToNat, Int.reduceAdd, Int.reduceSub, Int.reduceMul, Int.reduceNeg, Int.reduceBEq, Int.reduceBNe, c1, w1, w2, w3, e1, fr, Fr.c, frs, hq.2]
end Go.Proofs.Ytkaigdfklihlcaa.Spl
