/- The law BusRuns: what comes behind its acts. -/
import Derived.Test.YthmmgpdniijkeaaBRuns
namespace Go.Proofs.Ythmmgpdniijkeaa.Bus
open Go Go.Proofs.Ythmmgpdniijkeaa.Sym Go.Proofs.Ythmmgpdniijkeaa.Tab Go.Proofs.Ythmmgpdniijkeaa.Args
set_option linter.unusedVariables false
set_option linter.unusedSimpArgs false
set_option maxHeartbeats 8000000
set_option maxRecDepth 20000
theorem piece_out (b : Bs) (i : Int) (h : ¬ (0 ≤ i ∧ i < b.l.length)) : b.piece i = .tup [.agg zp.c, .v (.bool false)] := by
  unfold Bs.piece
  rw [if_neg]
  rw [there_iff]
  exact h
theorem last_a (b : Bs) (fl : Bool) (p : Pc) (r : List Pc) (hb : b.l = p :: r) (k : Nat) : FnR [.t 2] false false (Go (acall T 199) 199 l_fuglemanlaw09_BusRuns_3 [] ⟨[(78, .v (.bool false)), (3, .ptr 0 0), (4, .ptr 1 0), (76, .v (.int .i64 (p :: r).length)), (77, .v (.int .i64 k))], [⟨true, true, false, [.view 2 0 (p :: r).length 4 none, .v (.bool b.fault)]⟩, ⟨true, true, false, [.view 3 0 (p :: r).length 4 none, .v (.bool b.fault)]⟩, ⟨true, true, true, pcs b.all⟩, ⟨true, true, true, pcs (p :: r)⟩], 1, []⟩) = some ⟨.v (.bool true), [], 1⟩ := by
  have h1 := piece_a 196 b (-1)
  have h2 := piece_a 196 b ((p :: r).length : Nat)
  rw [piece_out b _ (by omega)] at h1
  rw [piece_out b _ (by rw [hb]; omega)] at h2
  simp only [Bs.ob, zp, Pc.c, hb] at h1 h2
  generalize p :: r = l at *
  simp -implicitDefEqProofs only [eqs, Sym.wants, Sym.get, Sym.ev, Sym.evs, Sym.evO, Sym.evP, Sym.put, Sym.lev, Sym.aq, Sym.ae, aBin, aInt, isShift, aEqB, aEqP, aEqS, leavesEq, leafEq, aUn, Sym.rd, aLoad, aField, aFad, aNilck, asI, aIxS, aIxA, aIxV, aExt, aPick, aCvi, aCvs, aLen, aLenS, aMin2, aMax2, aFold, aFoldL, bnd, aSlStr, aSlS, fillL, newO, kill, aStore, putL, getO, cellsOf, Sym.elems, Sym.elemsS, aApp, aCpy, aClr, Sym.reps, aCall, aCallQ, finishCall, Sym.refs, Sym.refs1, Sym.refs0, okv, ok1, Sym.atom, flat0, dedup, Sym.reach, Sym.pos, Sym.sub, renO, Sym.ren, Sym.ren1, Sym.ren0, gmap, mergeOld, mergeNew, mergeO, allFresh, Sym.det, Sym.det0, Sym.canon, keepEnv, aRes, Sym.one, frzM, frz1, frz0, frzL, args0, dead0, lh_some, aCallM, if_true, if_false, ite_true, ite_false, reduceIte, reduceCtorEq, Nat.reduceEqDiff, ne_eq, Nat.reduceAdd, Nat.reduceSub, Nat.reduceMul, Nat.reduceLT, Nat.reduceLeDiff, Nat.reduceBEq, Nat.reduceBNe, Nat.reduceGT, Int.reduceEq, Int.reduceLT, Int.reduceLE, Int.reduceToNat, Int.reduceAdd, Int.reduceSub, Int.reduceMul, Int.reduceNeg, Int.reduceBEq, Int.reduceBNe, l_fuglemanlaw09_BusRuns_3, h1, h2]
theorem cmp_a (b : Bs) (fl : Bool) (p : Pc) (r : List Pc) (hb : b.l = p :: r) (hg : b.l.length ≤ 64) : ∀ (m N i : Nat), i + m = b.l.length → m ≤ N →
    FnR [.t 2] false false (Lh (acall T 199) 199 (some ⟨[(3, .ptr 0 0), (4, .ptr 1 0), (76, .v (.int .i64 (p :: r).length)), (77, .v (.int .i64 i))], [⟨true, true, false, [.view 2 0 (p :: r).length 4 none, .v (.bool b.fault)]⟩, ⟨true, true, false, [.view 3 0 (p :: r).length 4 none, .v (.bool b.fault)]⟩, ⟨true, true, true, pcs b.all⟩, ⟨true, true, true, pcs (p :: r)⟩], 1, []⟩) [3, 4, 76, 77] l_fuglemanlaw09_BusRuns_2 N [.b 2, .c l_fuglemanlaw09_BusRuns_3]) = some ⟨.v (.bool true), [], 1⟩
  | m, N, i, hm, hN => by
    rw [lh_as l_fuglemanlaw09_BusRuns_2.eq_1]
    cases m with
    | zero =>
      have hl := last_a b fl p r hb i
      have c : ¬ (i : Int) < (p :: r).length := by rw [← hb]; omega
      generalize p :: r = l at *
      simp -implicitDefEqProofs only [eqs, Sym.wants, Sym.get, Sym.ev, Sym.evs, Sym.evO, Sym.evP, Sym.put, Sym.lev, Sym.aq, Sym.ae, aBin, aInt, isShift, aEqB, aEqP, aEqS, leavesEq, leafEq, aUn, Sym.rd, aLoad, aField, aFad, aNilck, asI, aIxS, aIxA, aIxV, aExt, aPick, aCvi, aCvs, aLen, aLenS, aMin2, aMax2, aFold, aFoldL, bnd, aSlStr, aSlS, fillL, newO, kill, aStore, putL, getO, cellsOf, Sym.elems, Sym.elemsS, aApp, aCpy, aClr, Sym.reps, aCall, aCallQ, finishCall, Sym.refs, Sym.refs1, Sym.refs0, okv, ok1, Sym.atom, flat0, dedup, Sym.reach, Sym.pos, Sym.sub, renO, Sym.ren, Sym.ren1, Sym.ren0, gmap, mergeOld, mergeNew, mergeO, allFresh, Sym.det, Sym.det0, Sym.canon, keepEnv, aRes, Sym.one, frzM, frz1, frz0, frzL, args0, dead0, aCallM, if_true, if_false, ite_true, ite_false, reduceIte, reduceCtorEq, Nat.reduceEqDiff, ne_eq, Nat.reduceAdd, Nat.reduceSub, Nat.reduceMul, Nat.reduceLT, Nat.reduceLeDiff, Nat.reduceBEq, Nat.reduceBNe, Nat.reduceGT, Int.reduceEq, Int.reduceLT, Int.reduceLE, Int.reduceToNat, Int.reduceAdd, Int.reduceSub, Int.reduceMul, Int.reduceNeg, Int.reduceBEq, Int.reduceBNe, c]
      exact hl
    | succ m =>
      obtain ⟨N, rfl⟩ : ∃ n', N = n' + 1 := ⟨N - 1, by omega⟩
      have c : (i : Int) < (p :: r).length := by rw [← hb]; omega
      have hin : i < (p :: r).length := by omega
      have w5 : IntKind.i64.wrap ((i : Int) + 1) = i + 1 := w64 (by omega) (by omega)
      have h1 := piece_a 196 b i
      have hth : b.there i = true := by rw [there_iff, hb]; omega
      have hget : b.get i = (p :: r)[i] := by
        unfold Bs.get
        rw [hb, Int.toNat_natCast, List.getD_eq_getElem?_getD, List.getElem?_eq_getElem hin]
        rfl
      unfold Bs.piece at h1
      rw [if_pos hth, hget] at h1
      have hat := pcs_at hin
      have f2 : i * 4 + 4 ≤ (p :: r).length * 4 := by omega
      have ih := cmp_a b fl p r hb hg m N (i + 1) (by omega) (by omega)
      rw [Int.natCast_add, Int.natCast_one] at ih
      generalize (p :: r)[i] = q at *
      simp only [Bs.ob, Pc.c, hb] at h1
      simp only [Pc.c] at hat
      generalize p :: r = l at *
      simp -implicitDefEqProofs only [eqs, Sym.wants, Sym.get, Sym.ev, Sym.evs, Sym.evO, Sym.evP, Sym.put, Sym.lev, Sym.aq, Sym.ae, aBin, aInt, isShift, aEqB, aEqP, aEqS, leavesEq, leafEq, aUn, Sym.rd, aLoad, aField, aFad, aNilck, asI, aIxS, aIxA, aIxV, aExt, aPick, aCvi, aCvs, aLen, aLenS, aMin2, aMax2, aFold, aFoldL, bnd, aSlStr, aSlS, fillL, newO, kill, aStore, putL, getO, cellsOf, Sym.elems, Sym.elemsS, aApp, aCpy, aClr, Sym.reps, aCall, aCallQ, finishCall, Sym.refs, Sym.refs1, Sym.refs0, okv, ok1, Sym.atom, flat0, dedup, Sym.reach, Sym.pos, Sym.sub, renO, Sym.ren, Sym.ren1, Sym.ren0, gmap, mergeOld, mergeNew, mergeO, allFresh, Sym.det, Sym.det0, Sym.canon, keepEnv, aRes, Sym.one, frzM, frz1, frz0, frzL, args0, dead0, aCallM, if_true, if_false, ite_true, ite_false, reduceIte, reduceCtorEq, Nat.reduceEqDiff, ne_eq, Nat.reduceAdd, Nat.reduceSub, Nat.reduceMul, Nat.reduceLT, Nat.reduceLeDiff, Nat.reduceBEq, Nat.reduceBNe, Nat.reduceGT, Int.reduceEq, Int.reduceLT, Int.reduceLE, Int.reduceToNat, Int.reduceAdd, Int.reduceSub, Int.reduceMul, Int.reduceNeg, Int.reduceBEq, Int.reduceBNe, c, w5, h1, hat, f2, pcs_len, ih]
theorem tailP (L : List Ac) (b : Bs) (fl : Bool) (p : Pc) (r : List Pc) (hb : b.l = p :: r) (hg : b.l.length ≤ 64) : FnR [.t 2] false false (Go (acall T 199) 199 l_fuglemanlaw09_BusRuns_1 [] ⟨(29, .v (.bool false)) :: envR L L.length, stO false b fl, 1, []⟩) = some ⟨.v (.bool true), [], 1⟩ := by
  have hc := cmp_a b fl p r hb hg b.l.length 198 0 (by omega) (by omega)
  have lp : ∀ (ks : List It) (st : St), Lp (acall T 199) 199 [3, 4, 76, 77] l_fuglemanlaw09_BusRuns_2 199 ks st = Lh (acall T 199) 199 (canon [3, 4, 76, 77] st) [3, 4, 76, 77] l_fuglemanlaw09_BusRuns_2 198 ks := fun ks s => lp_succ (n := 198)
  rw [Int.natCast_zero] at hc
  have hst : stO false b fl = [⟨true, true, false, [.view 2 0 (p :: r).length 4 none, .v (.bool b.fault)]⟩, ⟨true, true, false, [.view 3 0 (p :: r).length 4 none, .v (.bool b.fault)]⟩, ⟨true, true, true, pcs b.all⟩, ⟨true, true, true, pcs (p :: r)⟩] := by unfold stO; rw [if_neg (by decide), hb]
  rw [hst]
  generalize p :: r = l at *
  simp -implicitDefEqProofs only [eqs, Sym.wants, Sym.get, Sym.ev, Sym.evs, Sym.evO, Sym.evP, Sym.put, Sym.lev, Sym.aq, Sym.ae, aBin, aInt, isShift, aEqB, aEqP, aEqS, leavesEq, leafEq, aUn, Sym.rd, aLoad, aField, aFad, aNilck, asI, aIxS, aIxA, aIxV, aExt, aPick, aCvi, aCvs, aLen, aLenS, aMin2, aMax2, aFold, aFoldL, bnd, aSlStr, aSlS, fillL, newO, kill, aStore, putL, getO, cellsOf, Sym.elems, Sym.elemsS, aApp, aCpy, aClr, Sym.reps, aCall, aCallQ, finishCall, Sym.refs, Sym.refs1, Sym.refs0, okv, ok1, Sym.atom, flat0, dedup, Sym.reach, Sym.pos, Sym.sub, renO, Sym.ren, Sym.ren1, Sym.ren0, gmap, mergeOld, mergeNew, mergeO, allFresh, Sym.det, Sym.det0, Sym.canon, keepEnv, aRes, Sym.one, frzM, frz1, frz0, frzL, args0, dead0, aCallM, if_true, if_false, ite_true, ite_false, reduceIte, reduceCtorEq, Nat.reduceEqDiff, ne_eq, Nat.reduceAdd, Nat.reduceSub, Nat.reduceMul, Nat.reduceLT, Nat.reduceLeDiff, Nat.reduceBEq, Nat.reduceBNe, Nat.reduceGT, Int.reduceEq, Int.reduceLT, Int.reduceLE, Int.reduceToNat, Int.reduceAdd, Int.reduceSub, Int.reduceMul, Int.reduceNeg, Int.reduceBEq, Int.reduceBNe, l_fuglemanlaw09_BusRuns_1, envR, lp, hc]
theorem tailE (L : List Ac) (b : Bs) (fl : Bool) (hb : b.l = []) : FnR [.t 2] false false (Go (acall T 199) 199 l_fuglemanlaw09_BusRuns_1 [] ⟨(29, .v (.bool false)) :: envR L L.length, stO false b fl, 1, []⟩) = some ⟨.v (.bool true), [], 1⟩ := by
  have lp : ∀ (ks : List It) (st : St), Lp (acall T 199) 199 [3, 4, 76, 77] l_fuglemanlaw09_BusRuns_2 199 ks st = Lh (acall T 199) 199 (canon [3, 4, 76, 77] st) [3, 4, 76, 77] l_fuglemanlaw09_BusRuns_2 198 ks := fun ks s => lp_succ (n := 198)
  have hst : stO false b fl = [⟨true, true, false, [.view 2 0 0 4 none, .v (.bool b.fault)]⟩, ⟨true, true, fl, [.v (.slice none 0 0), .v (.bool b.fault)]⟩, ⟨true, true, true, pcs b.all⟩] := by unfold stO; rw [if_neg (by decide), hb]
  have h1 := piece_a 196 b (-1)
  have h2 := piece_a 196 b 0
  rw [piece_out b _ (by omega)] at h1
  rw [piece_out b _ (by rw [hb]; simp)] at h2
  simp only [Bs.ob, zp, Pc.c, hb, List.length_nil] at h1 h2
  rw [hst]
  cases fl <;> simp -implicitDefEqProofs only [eqs, Sym.wants, Sym.get, Sym.ev, Sym.evs, Sym.evO, Sym.evP, Sym.put, Sym.lev, Sym.aq, Sym.ae, aBin, aInt, isShift, aEqB, aEqP, aEqS, leavesEq, leafEq, aUn, Sym.rd, aLoad, aField, aFad, aNilck, asI, aIxS, aIxA, aIxV, aExt, aPick, aCvi, aCvs, aLen, aLenS, aMin2, aMax2, aFold, aFoldL, bnd, aSlStr, aSlS, fillL, newO, kill, aStore, putL, getO, cellsOf, Sym.elems, Sym.elemsS, aApp, aCpy, aClr, Sym.reps, aCall, aCallQ, finishCall, Sym.refs, Sym.refs1, Sym.refs0, okv, ok1, Sym.atom, flat0, dedup, Sym.reach, Sym.pos, Sym.sub, renO, Sym.ren, Sym.ren1, Sym.ren0, gmap, mergeOld, mergeNew, mergeO, allFresh, Sym.det, Sym.det0, Sym.canon, keepEnv, aRes, Sym.one, frzM, frz1, frz0, frzL, args0, dead0, lh_some, aCallM, if_true, if_false, ite_true, ite_false, reduceIte, reduceCtorEq, Nat.reduceEqDiff, ne_eq, Nat.reduceAdd, Nat.reduceSub, Nat.reduceMul, Nat.reduceLT, Nat.reduceLeDiff, Nat.reduceBEq, Nat.reduceBNe, Nat.reduceGT, Int.reduceEq, Int.reduceLT, Int.reduceLE, Int.reduceToNat, Int.reduceAdd, Int.reduceSub, Int.reduceMul, Int.reduceNeg, Int.reduceBEq, Int.reduceBNe, l_fuglemanlaw09_BusRuns_1, l_fuglemanlaw09_BusRuns_2, l_fuglemanlaw09_BusRuns_3, envR, lp, h1, h2]
theorem tailN (L : List Ac) (b : Bs) (fl : Bool) : FnR [.t 2] false false (Go (acall T 199) 199 l_fuglemanlaw09_BusRuns_1 [] ⟨(29, .v (.bool false)) :: envR L L.length, stO true b fl, 1, []⟩) = some ⟨.v (.bool true), [], 1⟩ := by
  have lp : ∀ (ks : List It) (st : St), Lp (acall T 199) 199 [3, 4, 76, 77] l_fuglemanlaw09_BusRuns_2 199 ks st = Lh (acall T 199) 199 (canon [3, 4, 76, 77] st) [3, 4, 76, 77] l_fuglemanlaw09_BusRuns_2 198 ks := fun ks s => lp_succ (n := 198)
  have hst : stO true b fl = [⟨true, true, true, [.v (.slice none 0 0), .v (.bool b.fault)]⟩, ⟨true, true, fl, [.v (.slice none 0 0), .v (.bool b.fault)]⟩] := by unfold stO; rw [if_pos rfl]
  have h1 := piece_0 196 b.fault (-1)
  have h2 := piece_0 196 b.fault 0
  simp only [ob0, zp, Pc.c] at h1 h2
  rw [hst]
  cases fl <;> simp -implicitDefEqProofs only [eqs, Sym.wants, Sym.get, Sym.ev, Sym.evs, Sym.evO, Sym.evP, Sym.put, Sym.lev, Sym.aq, Sym.ae, aBin, aInt, isShift, aEqB, aEqP, aEqS, leavesEq, leafEq, aUn, Sym.rd, aLoad, aField, aFad, aNilck, asI, aIxS, aIxA, aIxV, aExt, aPick, aCvi, aCvs, aLen, aLenS, aMin2, aMax2, aFold, aFoldL, bnd, aSlStr, aSlS, fillL, newO, kill, aStore, putL, getO, cellsOf, Sym.elems, Sym.elemsS, aApp, aCpy, aClr, Sym.reps, aCall, aCallQ, finishCall, Sym.refs, Sym.refs1, Sym.refs0, okv, ok1, Sym.atom, flat0, dedup, Sym.reach, Sym.pos, Sym.sub, renO, Sym.ren, Sym.ren1, Sym.ren0, gmap, mergeOld, mergeNew, mergeO, allFresh, Sym.det, Sym.det0, Sym.canon, keepEnv, aRes, Sym.one, frzM, frz1, frz0, frzL, args0, dead0, lh_some, aCallM, if_true, if_false, ite_true, ite_false, reduceIte, reduceCtorEq, Nat.reduceEqDiff, ne_eq, Nat.reduceAdd, Nat.reduceSub, Nat.reduceMul, Nat.reduceLT, Nat.reduceLeDiff, Nat.reduceBEq, Nat.reduceBNe, Nat.reduceGT, Int.reduceEq, Int.reduceLT, Int.reduceLE, Int.reduceToNat, Int.reduceAdd, Int.reduceSub, Int.reduceMul, Int.reduceNeg, Int.reduceBEq, Int.reduceBNe, l_fuglemanlaw09_BusRuns_1, l_fuglemanlaw09_BusRuns_2, l_fuglemanlaw09_BusRuns_3, envR, lp, h1, h2]
end Go.Proofs.Ythmmgpdniijkeaa.Bus
