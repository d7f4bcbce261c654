/- The law BusRuns: one act. -/
import Derived.Test.YthmmgpdniijkeaaBRuns2
namespace Go.Proofs.Ythmmgpdniijkeaa.Bus
open Go Go.Proofs.Ythmmgpdniijkeaa.Sym Go.Proofs.Ythmmgpdniijkeaa.Tab Go.Proofs.Ythmmgpdniijkeaa.Args
set_option linter.unusedVariables false
set_option linter.unusedSimpArgs false
set_option maxHeartbeats 8000000
set_option maxRecDepth 20000
theorem act_fault0 (f : Bool) (a : Ac) : ((⟨[], 0, f⟩ : Bs).act a).2.fault = f := by
  by_cases c : a.f0.toNat % 7 = 0 ∧ okSend a.f2 a.f4 = true
  · rw [act_first f a c]
  · rw [act_none f a c]
theorem stepP (L : List Ac) (hL : L.length ≤ 1000) (b : Bs) (fl : Bool) (p : Pc) (r : List Pc) (hb : b.l = p :: r) (hg : Good b.l) (i : Nat) (hi : i < L.length) (ha : AcIn L[i]) (N : Nat) (ks : List It) :
    ∃ fl', Lh (acall T 199) 199 (some ⟨envR L i, stO false b fl, 1, []⟩) [3, 4, 26, 27, 28] l_fuglemanlaw09_BusRuns_0 (N + 1) ks = Lh (acall T 199) 199 (some ⟨envR L (i + 1), stO false (b.act L[i]).2 fl', 1, []⟩) [3, 4, 26, 27, 28] l_fuglemanlaw09_BusRuns_0 N ks := by
  have c : (i : Int) < L.length := by omega
  have w5 : IntKind.i64.wrap ((i : Int) + 1) = i + 1 := w64 (by omega) (by omega)
  have hat := acs_at hi
  have f2 : i * 5 + 5 ≤ L.length * 5 := by omega
  have hal := acs_len L
  have hdo := do_b 185 b hg.inn L[i] ha
  obtain ⟨q1, q2, q3⟩ := act_same b L[i]
  obtain ⟨fl', hsh⟩ := should_b 69 ⟨b.l, 0, b.fault⟩ hg.ref (by rw [hb]; simp) L[i] ha
  rw [← q1, ← q2, ← q3] at hsh
  have hln := len_a 198 (b.act L[i]).2
  have hfa := fault_a 198 (b.act L[i]).2
  refine ⟨fl', ?_⟩
  generalize L[i] = a at *
  generalize (b.act a).1 = rs at *
  generalize (b.act a).2 = b' at *
  have hst : stO false b fl = [⟨true, true, false, [.view 2 0 (p :: r).length 4 none, .v (.bool b.fault)]⟩, ⟨true, true, false, [.view 3 0 (p :: r).length 4 none, .v (.bool b.fault)]⟩, ⟨true, true, true, pcs b.all⟩, ⟨true, true, true, pcs (p :: r)⟩] := by unfold stO; rw [if_neg (by decide), hb]
  rw [hst]
  rw [lh_as l_fuglemanlaw09_BusRuns_0.eq_1]
  have hal0 : (⟨p :: r, 0, b.fault⟩ : Bs).all = p :: r := all_z rfl
  cases hl' : b'.l with
  | nil =>
    have hst' : stO false b' fl' = [⟨true, true, false, [.view 2 0 0 4 none, .v (.bool b'.fault)]⟩, ⟨true, true, fl', [.v (.slice none 0 0), .v (.bool b'.fault)]⟩, ⟨true, true, true, pcs b'.all⟩] := by unfold stO; rw [if_neg (by decide), hl']
    rw [hst']
    rw [hl'] at hsh
    simp only [S32.av, Bs.ob, rob, rob0, res, hb, hl', List.length_nil, hal0] at hat hdo hsh hln hfa
    generalize p :: r = l at *
    cases fl' <;> simp -implicitDefEqProofs only [eqs, Sym.wants, Sym.get, Sym.ev, Sym.evs, Sym.evO, Sym.evP, Sym.put, Sym.lev, Sym.aq, Sym.ae, aBin, aInt, isShift, aEqB, aEqP, aEqS, leavesEq, leafEq, aUn, Sym.rd, aLoad, aField, aFad, aNilck, asI, aIxS, aIxA, aIxV, aExt, aPick, aCvi, aCvs, aLen, aLenS, aMin2, aMax2, aFold, aFoldL, bnd, aSlStr, aSlS, fillL, newO, kill, aStore, putL, getO, cellsOf, Sym.elems, Sym.elemsS, aApp, aCpy, aClr, Sym.reps, aCall, aCallQ, finishCall, Sym.refs, Sym.refs1, Sym.refs0, okv, ok1, Sym.atom, flat0, dedup, Sym.reach, Sym.pos, Sym.sub, renO, Sym.ren, Sym.ren1, Sym.ren0, gmap, mergeOld, mergeNew, mergeO, allFresh, Sym.det, Sym.det0, Sym.canon, keepEnv, aRes, Sym.one, frzM, frz1, frz0, frzL, args0, dead0, aCallM, if_true, if_false, ite_true, ite_false, reduceIte, reduceCtorEq, Nat.reduceEqDiff, ne_eq, Nat.reduceAdd, Nat.reduceSub, Nat.reduceMul, Nat.reduceLT, Nat.reduceLeDiff, Nat.reduceBEq, Nat.reduceBNe, Nat.reduceGT, Int.reduceEq, Int.reduceLT, Int.reduceLE, Int.reduceToNat, Int.reduceAdd, Int.reduceSub, Int.reduceMul, Int.reduceNeg, Int.reduceBEq, Int.reduceBNe, envR, c, w5, hat, f2, hal, hdo, hsh, hln, hfa, Int.natCast_add, Int.natCast_one]
  | cons p' r' =>
    have hst' : stO false b' fl' = [⟨true, true, false, [.view 2 0 (p' :: r').length 4 none, .v (.bool b'.fault)]⟩, ⟨true, true, false, [.view 3 0 (p' :: r').length 4 none, .v (.bool b'.fault)]⟩, ⟨true, true, true, pcs b'.all⟩, ⟨true, true, true, pcs (p' :: r')⟩] := by unfold stO; rw [if_neg (by decide), hl']
    rw [hst']
    rw [hl'] at hsh
    have hal1 : (⟨p' :: r', 0, b'.fault⟩ : Bs).all = p' :: r' := all_z rfl
    simp only [S32.av, Bs.ob, rob, res, hb, hl', hal0, hal1] at hat hdo hsh hln hfa
    generalize p :: r = l at *
    generalize p' :: r' = l' at *
    simp -implicitDefEqProofs only [eqs, Sym.wants, Sym.get, Sym.ev, Sym.evs, Sym.evO, Sym.evP, Sym.put, Sym.lev, Sym.aq, Sym.ae, aBin, aInt, isShift, aEqB, aEqP, aEqS, leavesEq, leafEq, aUn, Sym.rd, aLoad, aField, aFad, aNilck, asI, aIxS, aIxA, aIxV, aExt, aPick, aCvi, aCvs, aLen, aLenS, aMin2, aMax2, aFold, aFoldL, bnd, aSlStr, aSlS, fillL, newO, kill, aStore, putL, getO, cellsOf, Sym.elems, Sym.elemsS, aApp, aCpy, aClr, Sym.reps, aCall, aCallQ, finishCall, Sym.refs, Sym.refs1, Sym.refs0, okv, ok1, Sym.atom, flat0, dedup, Sym.reach, Sym.pos, Sym.sub, renO, Sym.ren, Sym.ren1, Sym.ren0, gmap, mergeOld, mergeNew, mergeO, allFresh, Sym.det, Sym.det0, Sym.canon, keepEnv, aRes, Sym.one, frzM, frz1, frz0, frzL, args0, dead0, aCallM, if_true, if_false, ite_true, ite_false, reduceIte, reduceCtorEq, Nat.reduceEqDiff, ne_eq, Nat.reduceAdd, Nat.reduceSub, Nat.reduceMul, Nat.reduceLT, Nat.reduceLeDiff, Nat.reduceBEq, Nat.reduceBNe, Nat.reduceGT, Int.reduceEq, Int.reduceLT, Int.reduceLE, Int.reduceToNat, Int.reduceAdd, Int.reduceSub, Int.reduceMul, Int.reduceNeg, Int.reduceBEq, Int.reduceBNe, envR, c, w5, hat, f2, hal, hdo, hsh, hln, hfa, Int.natCast_add, Int.natCast_one]
theorem stepE (L : List Ac) (hL : L.length ≤ 1000) (b : Bs) (fl : Bool) (hb : b.l = []) (i : Nat) (hi : i < L.length) (ha : AcIn L[i]) (N : Nat) (ks : List It) :
    Lh (acall T 199) 199 (some ⟨envR L i, stO false b fl, 1, []⟩) [3, 4, 26, 27, 28] l_fuglemanlaw09_BusRuns_0 (N + 1) ks = Lh (acall T 199) 199 (some ⟨envR L (i + 1), stO false (b.act L[i]).2 fl, 1, []⟩) [3, 4, 26, 27, 28] l_fuglemanlaw09_BusRuns_0 N ks := by
  have c : (i : Int) < L.length := by omega
  have w5 : IntKind.i64.wrap ((i : Int) + 1) = i + 1 := w64 (by omega) (by omega)
  have hat := acs_at hi
  have f2 : i * 5 + 5 ≤ L.length * 5 := by omega
  have hal := acs_len L
  have hdo := do_b 185 b ⟨by rw [hb]; decide, by rw [hb]; simp⟩ L[i] ha
  obtain ⟨q1, q2, q3⟩ := act_same b L[i]
  rw [hb] at q1 q2 q3
  have hsh := should_0 69 fl b.fault L[i] ha
  have q4 := act_fault0 b.fault L[i]
  rw [q4] at q3
  rw [← q1, ← q2, ← q3] at hsh
  have hln := len_a 198 (b.act L[i]).2
  have hfa := fault_a 198 (b.act L[i]).2
  generalize L[i] = a at *
  generalize (b.act a).1 = rs at *
  generalize (b.act a).2 = b' at *
  have hst : stO false b fl = [⟨true, true, false, [.view 2 0 0 4 none, .v (.bool b.fault)]⟩, ⟨true, true, fl, [.v (.slice none 0 0), .v (.bool b.fault)]⟩, ⟨true, true, true, pcs b.all⟩] := by unfold stO; rw [if_neg (by decide), hb]
  rw [hst]
  rw [lh_as l_fuglemanlaw09_BusRuns_0.eq_1]
  cases hl' : b'.l with
  | nil =>
    have hst' : stO false b' fl = [⟨true, true, false, [.view 2 0 0 4 none, .v (.bool b'.fault)]⟩, ⟨true, true, fl, [.v (.slice none 0 0), .v (.bool b'.fault)]⟩, ⟨true, true, true, pcs b'.all⟩] := by unfold stO; rw [if_neg (by decide), hl']
    rw [hst', q3]
    rw [hl'] at hsh
    simp only [S32.av, Bs.ob, rob, rob0, res, hb, hl', q3, List.length_nil] at hat hdo hsh hln hfa
    cases fl <;> simp -implicitDefEqProofs only [eqs, Sym.wants, Sym.get, Sym.ev, Sym.evs, Sym.evO, Sym.evP, Sym.put, Sym.lev, Sym.aq, Sym.ae, aBin, aInt, isShift, aEqB, aEqP, aEqS, leavesEq, leafEq, aUn, Sym.rd, aLoad, aField, aFad, aNilck, asI, aIxS, aIxA, aIxV, aExt, aPick, aCvi, aCvs, aLen, aLenS, aMin2, aMax2, aFold, aFoldL, bnd, aSlStr, aSlS, fillL, newO, kill, aStore, putL, getO, cellsOf, Sym.elems, Sym.elemsS, aApp, aCpy, aClr, Sym.reps, aCall, aCallQ, finishCall, Sym.refs, Sym.refs1, Sym.refs0, okv, ok1, Sym.atom, flat0, dedup, Sym.reach, Sym.pos, Sym.sub, renO, Sym.ren, Sym.ren1, Sym.ren0, gmap, mergeOld, mergeNew, mergeO, allFresh, Sym.det, Sym.det0, Sym.canon, keepEnv, aRes, Sym.one, frzM, frz1, frz0, frzL, args0, dead0, aCallM, if_true, if_false, ite_true, ite_false, reduceIte, reduceCtorEq, Nat.reduceEqDiff, ne_eq, Nat.reduceAdd, Nat.reduceSub, Nat.reduceMul, Nat.reduceLT, Nat.reduceLeDiff, Nat.reduceBEq, Nat.reduceBNe, Nat.reduceGT, Int.reduceEq, Int.reduceLT, Int.reduceLE, Int.reduceToNat, Int.reduceAdd, Int.reduceSub, Int.reduceMul, Int.reduceNeg, Int.reduceBEq, Int.reduceBNe, envR, c, w5, hat, f2, hal, hdo, hsh, hln, hfa, q3, Int.natCast_add, Int.natCast_one]
  | cons p' r' =>
    have hst' : stO false b' fl = [⟨true, true, false, [.view 2 0 (p' :: r').length 4 none, .v (.bool b'.fault)]⟩, ⟨true, true, false, [.view 3 0 (p' :: r').length 4 none, .v (.bool b'.fault)]⟩, ⟨true, true, true, pcs b'.all⟩, ⟨true, true, true, pcs (p' :: r')⟩] := by unfold stO; rw [if_neg (by decide), hl']
    rw [hst', q3]
    rw [hl'] at hsh
    have hal1 : (⟨p' :: r', 0, b.fault⟩ : Bs).all = p' :: r' := all_z rfl
    simp only [S32.av, Bs.ob, rob, rob0, res, hb, hl', hal1, q3, List.length_nil] at hat hdo hsh hln hfa
    generalize p' :: r' = l' at *
    cases fl <;> simp -implicitDefEqProofs only [eqs, Sym.wants, Sym.get, Sym.ev, Sym.evs, Sym.evO, Sym.evP, Sym.put, Sym.lev, Sym.aq, Sym.ae, aBin, aInt, isShift, aEqB, aEqP, aEqS, leavesEq, leafEq, aUn, Sym.rd, aLoad, aField, aFad, aNilck, asI, aIxS, aIxA, aIxV, aExt, aPick, aCvi, aCvs, aLen, aLenS, aMin2, aMax2, aFold, aFoldL, bnd, aSlStr, aSlS, fillL, newO, kill, aStore, putL, getO, cellsOf, Sym.elems, Sym.elemsS, aApp, aCpy, aClr, Sym.reps, aCall, aCallQ, finishCall, Sym.refs, Sym.refs1, Sym.refs0, okv, ok1, Sym.atom, flat0, dedup, Sym.reach, Sym.pos, Sym.sub, renO, Sym.ren, Sym.ren1, Sym.ren0, gmap, mergeOld, mergeNew, mergeO, allFresh, Sym.det, Sym.det0, Sym.canon, keepEnv, aRes, Sym.one, frzM, frz1, frz0, frzL, args0, dead0, aCallM, if_true, if_false, ite_true, ite_false, reduceIte, reduceCtorEq, Nat.reduceEqDiff, ne_eq, Nat.reduceAdd, Nat.reduceSub, Nat.reduceMul, Nat.reduceLT, Nat.reduceLeDiff, Nat.reduceBEq, Nat.reduceBNe, Nat.reduceGT, Int.reduceEq, Int.reduceLT, Int.reduceLE, Int.reduceToNat, Int.reduceAdd, Int.reduceSub, Int.reduceMul, Int.reduceNeg, Int.reduceBEq, Int.reduceBNe, envR, c, w5, hat, f2, hal, hdo, hsh, hln, hfa, q3, Int.natCast_add, Int.natCast_one]
theorem stepN (L : List Ac) (hL : L.length ≤ 1000) (f fl : Bool) (i : Nat) (hi : i < L.length) (ha : AcIn L[i]) (N : Nat) (ks : List It) :
    Lh (acall T 199) 199 (some ⟨envR L i, stO true ⟨[], 0, f⟩ fl, 1, []⟩) [3, 4, 26, 27, 28] l_fuglemanlaw09_BusRuns_0 (N + 1) ks = Lh (acall T 199) 199 (some ⟨envR L (i + 1), stO (decide (¬ (L[i].f0.toNat % 7 = 0 ∧ okSend L[i].f2 L[i].f4 = true))) ((⟨[], 0, f⟩ : Bs).act L[i]).2 fl, 1, []⟩) [3, 4, 26, 27, 28] l_fuglemanlaw09_BusRuns_0 N ks := by
  have c : (i : Int) < L.length := by omega
  have w5 : IntKind.i64.wrap ((i : Int) + 1) = i + 1 := w64 (by omega) (by omega)
  have hat := acs_at hi
  have f2 : i * 5 + 5 ≤ L.length * 5 := by omega
  have hal := acs_len L
  have hdo := do_0 185 f L[i] ha
  have hsh := should_0 69 fl f L[i] ha
  generalize L[i] = a at *
  have hst : ∀ b : Bs, stO true b fl = [⟨true, true, true, [.v (.slice none 0 0), .v (.bool b.fault)]⟩, ⟨true, true, fl, [.v (.slice none 0 0), .v (.bool b.fault)]⟩] := fun b => by unfold stO; rw [if_pos rfl]
  rw [hst]
  rw [lh_as l_fuglemanlaw09_BusRuns_0.eq_1]
  by_cases d : a.f0.toNat % 7 = 0 ∧ okSend a.f2 a.f4 = true
  · rw [if_pos d] at hdo
    rw [act_first f a d] at hdo hsh ⊢
    rw [decide_eq_false (fun h => h d)]
    have hln := len_a 198 ⟨[pc0 a.f2 a.f4], 0, f⟩
    have hfa := fault_a 198 ⟨[pc0 a.f2 a.f4], 0, f⟩
    generalize pc0 a.f2 a.f4 = p at *
    have hst' : stO false ⟨[p], 0, f⟩ fl = [⟨true, true, false, [.view 2 0 1 4 none, .v (.bool f)]⟩, ⟨true, true, false, [.view 3 0 1 4 none, .v (.bool f)]⟩, ⟨true, true, true, pcs [p]⟩, ⟨true, true, true, pcs [p]⟩] := by unfold stO; rw [if_neg (by decide)]; rfl
    rw [hst']
    have hal1 : (⟨[p], 0, f⟩ : Bs).all = [p] := all_z rfl
    simp only [S32.av, Bs.ob, ob0, rob, rob0, res, hal1, List.length_cons, List.length_nil, Nat.zero_add] at hat hdo hsh hln hfa
    cases fl <;> simp -implicitDefEqProofs only [eqs, Sym.wants, Sym.get, Sym.ev, Sym.evs, Sym.evO, Sym.evP, Sym.put, Sym.lev, Sym.aq, Sym.ae, aBin, aInt, isShift, aEqB, aEqP, aEqS, leavesEq, leafEq, aUn, Sym.rd, aLoad, aField, aFad, aNilck, asI, aIxS, aIxA, aIxV, aExt, aPick, aCvi, aCvs, aLen, aLenS, aMin2, aMax2, aFold, aFoldL, bnd, aSlStr, aSlS, fillL, newO, kill, aStore, putL, getO, cellsOf, Sym.elems, Sym.elemsS, aApp, aCpy, aClr, Sym.reps, aCall, aCallQ, finishCall, Sym.refs, Sym.refs1, Sym.refs0, okv, ok1, Sym.atom, flat0, dedup, Sym.reach, Sym.pos, Sym.sub, renO, Sym.ren, Sym.ren1, Sym.ren0, gmap, mergeOld, mergeNew, mergeO, allFresh, Sym.det, Sym.det0, Sym.canon, keepEnv, aRes, Sym.one, frzM, frz1, frz0, frzL, args0, dead0, aCallM, if_true, if_false, ite_true, ite_false, reduceIte, reduceCtorEq, Nat.reduceEqDiff, ne_eq, Nat.reduceAdd, Nat.reduceSub, Nat.reduceMul, Nat.reduceLT, Nat.reduceLeDiff, Nat.reduceBEq, Nat.reduceBNe, Nat.reduceGT, Int.reduceEq, Int.reduceLT, Int.reduceLE, Int.reduceToNat, Int.reduceAdd, Int.reduceSub, Int.reduceMul, Int.reduceNeg, Int.reduceBEq, Int.reduceBNe, envR, c, w5, hat, f2, hal, hdo, hsh, hln, hfa, Int.natCast_add, Int.natCast_one]
  · rw [if_neg d] at hdo
    rw [act_none f a d] at hdo hsh ⊢
    rw [decide_eq_true d, hst]
    have hln := len_0 198 f
    have hfa := fault_0 198 f
    simp only [S32.av, Bs.ob, ob0, rob, rob0, res] at hat hdo hsh hln hfa
    cases fl <;> simp -implicitDefEqProofs only [eqs, Sym.wants, Sym.get, Sym.ev, Sym.evs, Sym.evO, Sym.evP, Sym.put, Sym.lev, Sym.aq, Sym.ae, aBin, aInt, isShift, aEqB, aEqP, aEqS, leavesEq, leafEq, aUn, Sym.rd, aLoad, aField, aFad, aNilck, asI, aIxS, aIxA, aIxV, aExt, aPick, aCvi, aCvs, aLen, aLenS, aMin2, aMax2, aFold, aFoldL, bnd, aSlStr, aSlS, fillL, newO, kill, aStore, putL, getO, cellsOf, Sym.elems, Sym.elemsS, aApp, aCpy, aClr, Sym.reps, aCall, aCallQ, finishCall, Sym.refs, Sym.refs1, Sym.refs0, okv, ok1, Sym.atom, flat0, dedup, Sym.reach, Sym.pos, Sym.sub, renO, Sym.ren, Sym.ren1, Sym.ren0, gmap, mergeOld, mergeNew, mergeO, allFresh, Sym.det, Sym.det0, Sym.canon, keepEnv, aRes, Sym.one, frzM, frz1, frz0, frzL, args0, dead0, aCallM, if_true, if_false, ite_true, ite_false, reduceIte, reduceCtorEq, Nat.reduceEqDiff, ne_eq, Nat.reduceAdd, Nat.reduceSub, Nat.reduceMul, Nat.reduceLT, Nat.reduceLeDiff, Nat.reduceBEq, Nat.reduceBNe, Nat.reduceGT, Int.reduceEq, Int.reduceLT, Int.reduceLE, Int.reduceToNat, Int.reduceAdd, Int.reduceSub, Int.reduceMul, Int.reduceNeg, Int.reduceBEq, Int.reduceBNe, envR, c, w5, hat, f2, hal, hdo, hsh, hln, hfa, Int.natCast_add, Int.natCast_one]
end Go.Proofs.Ythmmgpdniijkeaa.Bus
