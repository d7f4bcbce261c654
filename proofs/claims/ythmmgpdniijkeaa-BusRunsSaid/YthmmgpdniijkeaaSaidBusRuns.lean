/- The law BusRuns. -/
import Derived.Test.YthmmgpdniijkeaaBRuns4
import Derived.Test.YthmmgpdniijkeaaBAwk
import Derived.Test.YthmmgpdniijkeaaArgs
namespace Go.Proofs.Ythmmgpdniijkeaa.Said
open Go Go.Proofs.Ythmmgpdniijkeaa.Sym Go.Proofs.Ythmmgpdniijkeaa.Tab Go.Proofs.Ythmmgpdniijkeaa.Bus Go.Proofs.Ythmmgpdniijkeaa.Args
set_option linter.unusedVariables false
set_option linter.unusedSimpArgs false
set_option maxHeartbeats 8000000
set_option maxRecDepth 20000
theorem BusRuns : ∀ (a0 : List S32), (a0.length ≤ 140737488351232 ∧ ∀ (i0 : Nat) x0, a0[i0]? = some x0 → S32.In x0) → ∃ ob d, acall T 200 6 0 [.shr a0.length false (a0.flatMap S32.av)] [] = some ⟨.v (.bool true), ob, d⟩ := by
  intro L hL
  refine ⟨[], 1, ?_⟩
  rw [acall_go (k := 199) (body := b_fuglemanlaw09_BusRuns) rfl rfl (Nat.zero_le _)]
  have hw : acall T 199 7 0 [] [] = some ⟨.v (.bool true), [], 1⟩ := awake_a
  have hal := acs_len L
  have hnew := new_a 198
  obtain ⟨v, d, hd, hv, hs⟩ := small_a L
  cases v with
  | false => rcases hd with rfl | rfl <;> simp -implicitDefEqProofs only [eqs, Sym.wants, Sym.get, Sym.ev, Sym.evs, Sym.evO, Sym.evP, Sym.put, Sym.lev, Sym.aq, Sym.ae, aBin, aInt, isShift, aEqB, aEqP, aEqS, leavesEq, leafEq, aUn, Sym.rd, aLoad, aField, aFad, aNilck, asI, aIxS, aIxA, aIxV, aExt, aPick, aCvi, aCvs, aLen, aLenS, aMin2, aMax2, aFold, aFoldL, bnd, aSlStr, aSlS, fillL, newO, kill, aStore, putL, getO, cellsOf, Sym.elems, Sym.elemsS, aApp, aCpy, aClr, Sym.reps, aCall, aCallQ, finishCall, Sym.refs, Sym.refs1, Sym.refs0, okv, ok1, Sym.atom, flat0, dedup, Sym.reach, Sym.pos, Sym.sub, renO, Sym.ren, Sym.ren1, Sym.ren0, gmap, mergeOld, mergeNew, mergeO, allFresh, Sym.det, Sym.det0, Sym.canon, keepEnv, aRes, Sym.one, frzM, frz1, frz0, frzL, args0, dead0, aCallM, if_true, if_false, ite_true, ite_false, reduceIte, reduceCtorEq, Nat.reduceEqDiff, ne_eq, Nat.reduceAdd, Nat.reduceSub, Nat.reduceMul, Nat.reduceLT, Nat.reduceLeDiff, Nat.reduceBEq, Nat.reduceBNe, Nat.reduceGT, Int.reduceEq, Int.reduceLT, Int.reduceLE, Int.reduceToNat, Int.reduceAdd, Int.reduceSub, Int.reduceMul, Int.reduceNeg, Int.reduceBEq, Int.reduceBNe, b_fuglemanlaw09_BusRuns, hw, hs, hal, acs_flat, acs_atom]
  | true =>
    have h150 := hv rfl
    have lp : ∀ (ks : List It) (st : St), Lp (acall T 199) 199 [3, 4, 26, 27, 28] l_fuglemanlaw09_BusRuns_0 199 ks st = Lh (acall T 199) 199 (canon [3, 4, 26, 27, 28] st) [3, 4, 26, 27, 28] l_fuglemanlaw09_BusRuns_0 198 ks := fun ks s => lp_succ (n := 198)
    have h := run_loop L (by omega) (fun i hi => hL.2 i _ (List.getElem?_eq_getElem hi)) L.length 198 0 true ⟨[], 0, false⟩ true (by omega) (by omega) ⟨by show 0 ≤ 64; omega, fun p hp => by cases hp⟩ (fun _ => rfl)
    have hst : stO true ⟨[], 0, false⟩ true = [⟨true, true, true, [.v (.slice none 0 0), .v (.bool false)]⟩, ⟨true, true, true, [.v (.slice none 0 0), .v (.bool false)]⟩] := rfl
    rw [hst, envR, Int.natCast_zero] at h
    simp only [ob0] at hnew
    rcases hd with rfl | rfl <;> simp -implicitDefEqProofs only [eqs, Sym.wants, Sym.get, Sym.ev, Sym.evs, Sym.evO, Sym.evP, Sym.put, Sym.lev, Sym.aq, Sym.ae, aBin, aInt, isShift, aEqB, aEqP, aEqS, leavesEq, leafEq, aUn, Sym.rd, aLoad, aField, aFad, aNilck, asI, aIxS, aIxA, aIxV, aExt, aPick, aCvi, aCvs, aLen, aLenS, aMin2, aMax2, aFold, aFoldL, bnd, aSlStr, aSlS, fillL, newO, kill, aStore, putL, getO, cellsOf, Sym.elems, Sym.elemsS, aApp, aCpy, aClr, Sym.reps, aCall, aCallQ, finishCall, Sym.refs, Sym.refs1, Sym.refs0, okv, ok1, Sym.atom, flat0, dedup, Sym.reach, Sym.pos, Sym.sub, renO, Sym.ren, Sym.ren1, Sym.ren0, gmap, mergeOld, mergeNew, mergeO, allFresh, Sym.det, Sym.det0, Sym.canon, keepEnv, aRes, Sym.one, frzM, frz1, frz0, frzL, args0, dead0, aCallM, if_true, if_false, ite_true, ite_false, reduceIte, reduceCtorEq, Nat.reduceEqDiff, ne_eq, Nat.reduceAdd, Nat.reduceSub, Nat.reduceMul, Nat.reduceLT, Nat.reduceLeDiff, Nat.reduceBEq, Nat.reduceBNe, Nat.reduceGT, Int.reduceEq, Int.reduceLT, Int.reduceLE, Int.reduceToNat, Int.reduceAdd, Int.reduceSub, Int.reduceMul, Int.reduceNeg, Int.reduceBEq, Int.reduceBNe, b_fuglemanlaw09_BusRuns, hw, hs, hal, acs_flat, acs_atom, hnew, lp, h]
end Go.Proofs.Ythmmgpdniijkeaa.Said
