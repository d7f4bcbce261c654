/- The law BusRuns: how many acts there may be; all acts. -/
import Derived.Test.YthmmgpdniijkeaaBRuns3
namespace Go.Proofs.Ythmmgpdniijkeaa.Bus
open Go Go.Proofs.Ythmmgpdniijkeaa.Sym Go.Proofs.Ythmmgpdniijkeaa.Tab Go.Proofs.Ythmmgpdniijkeaa.Args
set_option linter.unusedVariables false
set_option linter.unusedSimpArgs false
set_option maxHeartbeats 8000000
set_option maxRecDepth 20000
theorem acs_flat {L : List Ac} : (L.flatMap S32.av).all flat0 = true := by
  induction L with
  | nil => rfl
  | cons f l ih => rw [List.flatMap_cons, List.all_append, ih]; rfl
theorem acs_atom {L : List Ac} : (L.flatMap S32.av).all atom = true := by
  induction L with
  | nil => rfl
  | cons f l ih => rw [List.flatMap_cons, List.all_append, ih]; rfl
theorem small_loop (L : List Ac) (hL : L.length ≤ 150) : ∀ (m N i d : Nat), (d = 0 ∨ d = 1) → i + m = L.length → m ≤ N →
    ∃ v d', (d' = 0 ∨ d' = 1) ∧ FnR [.t 4] false false (Lh (acall T 198) 198 (some ⟨[(11, .shr L.length false (L.flatMap S32.av)), (12, .v (.int .i64 L.length)), (13, .v (.int .i64 i))], [], d, []⟩) [11, 12, 13] l_fuglemanlaw09_small_0 N [.b 0, .c l_fuglemanlaw09_small_1]) = some ⟨.v (.bool v), [], d'⟩
  | 0, N, i, d, hd, hm, hN => by
    have c : ¬ (i : Int) < L.length := by omega
    refine ⟨true, d, hd, ?_⟩
    rw [lh_as l_fuglemanlaw09_small_0.eq_1]
    simp -implicitDefEqProofs only [eqs, Sym.wants, Sym.get, Sym.ev, Sym.evs, Sym.evO, Sym.evP, Sym.put, Sym.lev, Sym.aq, Sym.ae, aBin, aInt, isShift, aEqB, aEqP, aEqS, leavesEq, leafEq, aUn, Sym.rd, aLoad, aField, aFad, aNilck, asI, aIxS, aIxA, aIxV, aExt, aPick, aCvi, aCvs, aLen, aLenS, aMin2, aMax2, aFold, aFoldL, bnd, aSlStr, aSlS, fillL, newO, kill, aStore, putL, getO, cellsOf, Sym.elems, Sym.elemsS, aApp, aCpy, aClr, Sym.reps, aCall, aCallQ, finishCall, Sym.refs, Sym.refs1, Sym.refs0, okv, ok1, Sym.atom, flat0, dedup, Sym.reach, Sym.pos, Sym.sub, renO, Sym.ren, Sym.ren1, Sym.ren0, gmap, mergeOld, mergeNew, mergeO, allFresh, Sym.det, Sym.det0, Sym.canon, keepEnv, aRes, Sym.one, frzM, frz1, frz0, frzL, args0, dead0, aCallM, if_true, if_false, ite_true, ite_false, reduceIte, reduceCtorEq, Nat.reduceEqDiff, ne_eq, Nat.reduceAdd, Nat.reduceSub, Nat.reduceMul, Nat.reduceLT, Nat.reduceLeDiff, Nat.reduceBEq, Nat.reduceBNe, Nat.reduceGT, Int.reduceEq, Int.reduceLT, Int.reduceLE, Int.reduceToNat, Int.reduceAdd, Int.reduceSub, Int.reduceMul, Int.reduceNeg, Int.reduceBEq, Int.reduceBNe, c, l_fuglemanlaw09_small_1]
  | m + 1, N, i, d, hd, hm, hN => by
    obtain ⟨N, rfl⟩ : ∃ n', N = n' + 1 := ⟨N - 1, by omega⟩
    have hi : i < L.length := by omega
    have c : (i : Int) < L.length := by omega
    have w5 : IntKind.i64.wrap ((i : Int) + 1) = i + 1 := w64 (by omega) (by omega)
    have hat := acs_at hi
    have f2 : i * 5 + 5 ≤ L.length * 5 := by omega
    have hal := acs_len L
    obtain ⟨v, d', hd', ih⟩ := small_loop L hL m N (i + 1) 1 (.inr rfl) (by omega) (by omega)
    rw [Int.natCast_add, Int.natCast_one] at ih
    generalize L[i] = a at *
    have dm : max d 1 = 1 := by omega
    by_cases e : (300 : Int) < a.f4.size
    · refine ⟨false, 1, .inr rfl, ?_⟩
      rw [lh_as l_fuglemanlaw09_small_0.eq_1]
      simp only [S32.av] at hat
      simp -implicitDefEqProofs only [eqs, Sym.wants, Sym.get, Sym.ev, Sym.evs, Sym.evO, Sym.evP, Sym.put, Sym.lev, Sym.aq, Sym.ae, aBin, aInt, isShift, aEqB, aEqP, aEqS, leavesEq, leafEq, aUn, Sym.rd, aLoad, aField, aFad, aNilck, asI, aIxS, aIxA, aIxV, aExt, aPick, aCvi, aCvs, aLen, aLenS, aMin2, aMax2, aFold, aFoldL, bnd, aSlStr, aSlS, fillL, newO, kill, aStore, putL, getO, cellsOf, Sym.elems, Sym.elemsS, aApp, aCpy, aClr, Sym.reps, aCall, aCallQ, finishCall, Sym.refs, Sym.refs1, Sym.refs0, okv, ok1, Sym.atom, flat0, dedup, Sym.reach, Sym.pos, Sym.sub, renO, Sym.ren, Sym.ren1, Sym.ren0, gmap, mergeOld, mergeNew, mergeO, allFresh, Sym.det, Sym.det0, Sym.canon, keepEnv, aRes, Sym.one, frzM, frz1, frz0, frzL, args0, dead0, aCallM, if_true, if_false, ite_true, ite_false, reduceIte, reduceCtorEq, Nat.reduceEqDiff, ne_eq, Nat.reduceAdd, Nat.reduceSub, Nat.reduceMul, Nat.reduceLT, Nat.reduceLeDiff, Nat.reduceBEq, Nat.reduceBNe, Nat.reduceGT, Int.reduceEq, Int.reduceLT, Int.reduceLE, Int.reduceToNat, Int.reduceAdd, Int.reduceSub, Int.reduceMul, Int.reduceNeg, Int.reduceBEq, Int.reduceBNe, c, w5, hat, f2, hal, e, dm, S32.av]
    · refine ⟨v, d', hd', ?_⟩
      rw [lh_as l_fuglemanlaw09_small_0.eq_1]
      simp only [S32.av] at hat ih
      simp -implicitDefEqProofs only [eqs, Sym.wants, Sym.get, Sym.ev, Sym.evs, Sym.evO, Sym.evP, Sym.put, Sym.lev, Sym.aq, Sym.ae, aBin, aInt, isShift, aEqB, aEqP, aEqS, leavesEq, leafEq, aUn, Sym.rd, aLoad, aField, aFad, aNilck, asI, aIxS, aIxA, aIxV, aExt, aPick, aCvi, aCvs, aLen, aLenS, aMin2, aMax2, aFold, aFoldL, bnd, aSlStr, aSlS, fillL, newO, kill, aStore, putL, getO, cellsOf, Sym.elems, Sym.elemsS, aApp, aCpy, aClr, Sym.reps, aCall, aCallQ, finishCall, Sym.refs, Sym.refs1, Sym.refs0, okv, ok1, Sym.atom, flat0, dedup, Sym.reach, Sym.pos, Sym.sub, renO, Sym.ren, Sym.ren1, Sym.ren0, gmap, mergeOld, mergeNew, mergeO, allFresh, Sym.det, Sym.det0, Sym.canon, keepEnv, aRes, Sym.one, frzM, frz1, frz0, frzL, args0, dead0, aCallM, if_true, if_false, ite_true, ite_false, reduceIte, reduceCtorEq, Nat.reduceEqDiff, ne_eq, Nat.reduceAdd, Nat.reduceSub, Nat.reduceMul, Nat.reduceLT, Nat.reduceLeDiff, Nat.reduceBEq, Nat.reduceBNe, Nat.reduceGT, Int.reduceEq, Int.reduceLT, Int.reduceLE, Int.reduceToNat, Int.reduceAdd, Int.reduceSub, Int.reduceMul, Int.reduceNeg, Int.reduceBEq, Int.reduceBNe, c, w5, hat, f2, hal, e, dm, ih, S32.av]
theorem small_a (L : List Ac) : ∃ v d, (d = 0 ∨ d = 1) ∧ (v = true → L.length ≤ 150) ∧ acall T 199 17 0 [.shr L.length false (L.flatMap S32.av), .v (.int .i64 150)] [] = some ⟨.v (.bool v), [], d⟩ := by
  have hal := acs_len L
  have lp : ∀ (ks : List It) (st : St), Lp (acall T 198) 198 [11, 12, 13] l_fuglemanlaw09_small_0 198 ks st = Lh (acall T 198) 198 (canon [11, 12, 13] st) [11, 12, 13] l_fuglemanlaw09_small_0 197 ks := fun ks s => lp_succ (n := 197)
  by_cases e : (150 : Int) < L.length
  · refine ⟨false, 0, .inl rfl, (by intro h; cases h), ?_⟩
    rw [acall_go (k := 198) (body := b_fuglemanlaw09_small) rfl rfl (Nat.zero_le _)]
    simp -implicitDefEqProofs only [eqs, Sym.wants, Sym.get, Sym.ev, Sym.evs, Sym.evO, Sym.evP, Sym.put, Sym.lev, Sym.aq, Sym.ae, aBin, aInt, isShift, aEqB, aEqP, aEqS, leavesEq, leafEq, aUn, Sym.rd, aLoad, aField, aFad, aNilck, asI, aIxS, aIxA, aIxV, aExt, aPick, aCvi, aCvs, aLen, aLenS, aMin2, aMax2, aFold, aFoldL, bnd, aSlStr, aSlS, fillL, newO, kill, aStore, putL, getO, cellsOf, Sym.elems, Sym.elemsS, aApp, aCpy, aClr, Sym.reps, aCall, aCallQ, finishCall, Sym.refs, Sym.refs1, Sym.refs0, okv, ok1, Sym.atom, flat0, dedup, Sym.reach, Sym.pos, Sym.sub, renO, Sym.ren, Sym.ren1, Sym.ren0, gmap, mergeOld, mergeNew, mergeO, allFresh, Sym.det, Sym.det0, Sym.canon, keepEnv, aRes, Sym.one, frzM, frz1, frz0, frzL, args0, dead0, aCallM, if_true, if_false, ite_true, ite_false, reduceIte, reduceCtorEq, Nat.reduceEqDiff, ne_eq, Nat.reduceAdd, Nat.reduceSub, Nat.reduceMul, Nat.reduceLT, Nat.reduceLeDiff, Nat.reduceBEq, Nat.reduceBNe, Nat.reduceGT, Int.reduceEq, Int.reduceLT, Int.reduceLE, Int.reduceToNat, Int.reduceAdd, Int.reduceSub, Int.reduceMul, Int.reduceNeg, Int.reduceBEq, Int.reduceBNe, b_fuglemanlaw09_small, e, hal, acs_flat, acs_atom]
  · obtain ⟨v, d, hd, h⟩ := small_loop L (by omega) L.length 197 0 0 (.inl rfl) (by omega) (by omega)
    rw [Int.natCast_zero] at h
    refine ⟨v, d, hd, fun _ => by omega, ?_⟩
    rw [acall_go (k := 198) (body := b_fuglemanlaw09_small) rfl rfl (Nat.zero_le _)]
    simp -implicitDefEqProofs only [eqs, Sym.wants, Sym.get, Sym.ev, Sym.evs, Sym.evO, Sym.evP, Sym.put, Sym.lev, Sym.aq, Sym.ae, aBin, aInt, isShift, aEqB, aEqP, aEqS, leavesEq, leafEq, aUn, Sym.rd, aLoad, aField, aFad, aNilck, asI, aIxS, aIxA, aIxV, aExt, aPick, aCvi, aCvs, aLen, aLenS, aMin2, aMax2, aFold, aFoldL, bnd, aSlStr, aSlS, fillL, newO, kill, aStore, putL, getO, cellsOf, Sym.elems, Sym.elemsS, aApp, aCpy, aClr, Sym.reps, aCall, aCallQ, finishCall, Sym.refs, Sym.refs1, Sym.refs0, okv, ok1, Sym.atom, flat0, dedup, Sym.reach, Sym.pos, Sym.sub, renO, Sym.ren, Sym.ren1, Sym.ren0, gmap, mergeOld, mergeNew, mergeO, allFresh, Sym.det, Sym.det0, Sym.canon, keepEnv, aRes, Sym.one, frzM, frz1, frz0, frzL, args0, dead0, aCallM, if_true, if_false, ite_true, ite_false, reduceIte, reduceCtorEq, Nat.reduceEqDiff, ne_eq, Nat.reduceAdd, Nat.reduceSub, Nat.reduceMul, Nat.reduceLT, Nat.reduceLeDiff, Nat.reduceBEq, Nat.reduceBNe, Nat.reduceGT, Int.reduceEq, Int.reduceLT, Int.reduceLE, Int.reduceToNat, Int.reduceAdd, Int.reduceSub, Int.reduceMul, Int.reduceNeg, Int.reduceBEq, Int.reduceBNe, b_fuglemanlaw09_small, e, hal, acs_flat, acs_atom, lp, h]
theorem endR (L : List Ac) (n : Bool) (b : Bs) (fl : Bool) (N : Nat) :
    Lh (acall T 199) 199 (some ⟨envR L L.length, stO n b fl, 1, []⟩) [3, 4, 26, 27, 28] l_fuglemanlaw09_BusRuns_0 N [.b 0, .c l_fuglemanlaw09_BusRuns_1] = Go (acall T 199) 199 l_fuglemanlaw09_BusRuns_1 [] ⟨(29, .v (.bool false)) :: envR L L.length, stO n b fl, 1, []⟩ := by
  have c : ¬ (L.length : Int) < L.length := by omega
  rw [lh_as l_fuglemanlaw09_BusRuns_0.eq_1]
  simp -implicitDefEqProofs only [eqs, Sym.wants, Sym.get, Sym.ev, Sym.evs, Sym.evO, Sym.evP, Sym.put, Sym.lev, Sym.aq, Sym.ae, aBin, aInt, isShift, aEqB, aEqP, aEqS, leavesEq, leafEq, aUn, Sym.rd, aLoad, aField, aFad, aNilck, asI, aIxS, aIxA, aIxV, aExt, aPick, aCvi, aCvs, aLen, aLenS, aMin2, aMax2, aFold, aFoldL, bnd, aSlStr, aSlS, fillL, newO, kill, aStore, putL, getO, cellsOf, Sym.elems, Sym.elemsS, aApp, aCpy, aClr, Sym.reps, aCall, aCallQ, finishCall, Sym.refs, Sym.refs1, Sym.refs0, okv, ok1, Sym.atom, flat0, dedup, Sym.reach, Sym.pos, Sym.sub, renO, Sym.ren, Sym.ren1, Sym.ren0, gmap, mergeOld, mergeNew, mergeO, allFresh, Sym.det, Sym.det0, Sym.canon, keepEnv, aRes, Sym.one, frzM, frz1, frz0, frzL, args0, dead0, aCallM, if_true, if_false, ite_true, ite_false, reduceIte, reduceCtorEq, Nat.reduceEqDiff, ne_eq, Nat.reduceAdd, Nat.reduceSub, Nat.reduceMul, Nat.reduceLT, Nat.reduceLeDiff, Nat.reduceBEq, Nat.reduceBNe, Nat.reduceGT, Int.reduceEq, Int.reduceLT, Int.reduceLE, Int.reduceToNat, Int.reduceAdd, Int.reduceSub, Int.reduceMul, Int.reduceNeg, Int.reduceBEq, Int.reduceBNe, envR, c]
theorem endA (L : List Ac) (n : Bool) (b : Bs) (fl : Bool) (hg : Good b.l) : FnR [.t 2] false false (Go (acall T 199) 199 l_fuglemanlaw09_BusRuns_1 [] ⟨(29, .v (.bool false)) :: envR L L.length, stO n b fl, 1, []⟩) = some ⟨.v (.bool true), [], 1⟩ := by
  cases n with
  | true => exact tailN L b fl
  | false =>
    cases h : b.l with
    | nil => exact tailE L b fl h
    | cons p r => exact tailP L b fl p r h hg.1
theorem run_loop (L : List Ac) (hL : L.length ≤ 1000) (ha : ∀ (i : Nat) (h : i < L.length), AcIn L[i]) : ∀ (m N i : Nat) (n : Bool) (b : Bs) (fl : Bool), i + m = L.length → m ≤ N → Good b.l → (n = true → b = ⟨[], 0, b.fault⟩) →
    FnR [.t 2] false false (Lh (acall T 199) 199 (some ⟨envR L i, stO n b fl, 1, []⟩) [3, 4, 26, 27, 28] l_fuglemanlaw09_BusRuns_0 N [.b 0, .c l_fuglemanlaw09_BusRuns_1]) = some ⟨.v (.bool true), [], 1⟩
  | 0, N, i, n, b, fl, hm, hN, hg, hn => by
    obtain rfl : i = L.length := by omega
    rw [endR]
    exact endA L n b fl hg
  | m + 1, N, i, n, b, fl, hm, hN, hg, hn => by
    obtain ⟨N, rfl⟩ : ∃ n', N = n' + 1 := ⟨N - 1, by omega⟩
    have hi : i < L.length := by omega
    have hga := act_good hg (ha i hi)
    cases n with
    | true =>
      have hb := hn rfl
      generalize b.fault = f at hb
      subst hb
      rw [stepN L hL f fl i hi (ha i hi)]
      refine run_loop L hL ha m N (i + 1) _ _ fl (by omega) (by omega) hga fun h => ?_
      have h' : ¬ (L[i].f0.toNat % 7 = 0 ∧ okSend L[i].f2 L[i].f4 = true) := of_decide_eq_true h
      rw [act_none f _ h']
    | false =>
      cases h : b.l with
      | nil =>
        rw [stepE L hL b fl h i hi (ha i hi)]
        exact run_loop L hL ha m N (i + 1) _ _ fl (by omega) (by omega) hga fun h => by cases h
      | cons p r =>
        obtain ⟨fl', hs⟩ := stepP L hL b fl p r h hg i hi (ha i hi) N [.b 0, .c l_fuglemanlaw09_BusRuns_1]
        rw [hs]
        exact run_loop L hL ha m N (i + 1) _ _ fl' (by omega) (by omega) hga fun h => by cases h
end Go.Proofs.Ythmmgpdniijkeaa.Bus
