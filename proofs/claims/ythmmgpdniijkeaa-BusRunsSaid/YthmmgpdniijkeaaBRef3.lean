/- The reference's bus: what it does to a piece. -/
import Derived.Test.YthmmgpdniijkeaaBRef2
namespace Go.Proofs.Ythmmgpdniijkeaa.Bus
open Go Go.Proofs.Ythmmgpdniijkeaa.Sym Go.Proofs.Ythmmgpdniijkeaa.Tab
set_option linter.unusedVariables false
set_option linter.unusedSimpArgs false
set_option maxHeartbeats 4000000
set_option maxRecDepth 20000
structure Bs.Ref (b : Bs) : Prop where
  inn : b.In
  z : b.z = 0
  to : ∀ p ∈ b.l, 0 ≤ p.to ∧ p.to ≤ 4294967295
theorem get_mem {b : Bs} {i : Int} (c : b.there i = true) : b.get i ∈ b.l := by
  obtain ⟨h1, h2⟩ := (there_iff b i).1 c
  unfold Bs.get
  rw [List.getD_eq_getElem?_getD, List.getElem?_eq_getElem (show i.toNat < b.l.length by omega)]
  exact List.getElem_mem _
theorem all_z {b : Bs} (h : b.z = 0) : b.all = b.l := by unfold Bs.all; rw [h]; simp
theorem rob_of {b : Bs} (hz : b.z = 0) (h : b.l ≠ []) (fl : Bool) : rob fl b.l b.fault false = b.ob false := by
  obtain ⟨l, z, f⟩ := b
  simp only at hz h
  subst hz
  cases l with
  | nil => exact absurd rfl h
  | cons p r => rfl
theorem rdrop_b (k : Nat) (b : Bs) (hb : b.Ref) (i : Int) : ∃ fl, acall T (k + 90) 33 1 [.ptr 0 0, .v (.int .i64 i)] (b.ob false) = some ⟨.v (.int .i64 (b.drop i).1), if b.there i = true then rob fl (b.drop i).2.l b.fault false else b.ob false, 2⟩ := by
  refine ⟨false, ?_⟩
  rw [acall_go (body := b_fuglemanref09_Bus_Drop) rfl rfl (by show 1 ≤ 2; decide)]
  have h := rthere_b (k + 88) b i
  unfold Bs.drop
  cases c : b.there i
  · rw [c] at h
    simp only [Bs.ob] at h ⊢
    simp -implicitDefEqProofs only [eqs, Sym.wants, Sym.get, Sym.ev, Sym.evs, Sym.evO, Sym.evP, Sym.put, Sym.lev, Sym.aq, Sym.ae, aBin, aInt, isShift, aEqB, aEqP, aEqS, leavesEq, leafEq, aUn, Sym.rd, aLoad, aField, aFad, aNilck, asI, aIxS, aIxA, aIxV, aExt, aPick, aCvi, aCvs, aLen, aLenS, aMin2, aMax2, aFold, aFoldL, bnd, aSlStr, aSlS, fillL, newO, kill, aStore, putL, getO, cellsOf, Sym.elems, Sym.elemsS, aApp, aCpy, aClr, Sym.reps, aCall, aCallQ, finishCall, Sym.refs, Sym.refs1, Sym.refs0, okv, ok1, Sym.atom, flat0, dedup, Sym.reach, Sym.pos, Sym.sub, renO, Sym.ren, Sym.ren1, Sym.ren0, gmap, mergeOld, mergeNew, mergeO, allFresh, Sym.det, Sym.det0, Sym.canon, keepEnv, aRes, Sym.one, frzM, frz1, frz0, frzL, args0, dead0, lh_some, aCallM, if_true, if_false, ite_true, ite_false, reduceIte, reduceCtorEq, Nat.reduceEqDiff, ne_eq, Nat.reduceAdd, Nat.reduceSub, Nat.reduceMul, Nat.reduceLT, Nat.reduceLeDiff, Nat.reduceBEq, Nat.reduceBNe, Nat.reduceGT, Int.reduceEq, Int.reduceLT, Int.reduceLE, Int.reduceToNat, Int.reduceAdd, Int.reduceSub, Int.reduceMul, Int.reduceNeg, Int.reduceBEq, Int.reduceBNe, b_fuglemanref09_Bus_Drop, h]
  · have hz := hb.z
    obtain ⟨l, z, f⟩ := b
    simp only at hz
    subst hz
    have ho := rout_b (k + 19) l f hb.inn.1 i c
    rw [c] at h
    simp only [if_true, Bs.del]
    generalize l.eraseIdx i.toNat = l' at *
    cases l' with
    | nil =>
      simp only [rob, rob0, Bs.ob] at h ho ⊢
      simp -implicitDefEqProofs only [eqs, Sym.wants, Sym.get, Sym.ev, Sym.evs, Sym.evO, Sym.evP, Sym.put, Sym.lev, Sym.aq, Sym.ae, aBin, aInt, isShift, aEqB, aEqP, aEqS, leavesEq, leafEq, aUn, Sym.rd, aLoad, aField, aFad, aNilck, asI, aIxS, aIxA, aIxV, aExt, aPick, aCvi, aCvs, aLen, aLenS, aMin2, aMax2, aFold, aFoldL, bnd, aSlStr, aSlS, fillL, newO, kill, aStore, putL, getO, cellsOf, Sym.elems, Sym.elemsS, aApp, aCpy, aClr, Sym.reps, aCall, aCallQ, finishCall, Sym.refs, Sym.refs1, Sym.refs0, okv, ok1, Sym.atom, flat0, dedup, Sym.reach, Sym.pos, Sym.sub, renO, Sym.ren, Sym.ren1, Sym.ren0, gmap, mergeOld, mergeNew, mergeO, allFresh, Sym.det, Sym.det0, Sym.canon, keepEnv, aRes, Sym.one, frzM, frz1, frz0, frzL, args0, dead0, lh_some, aCallM, if_true, if_false, ite_true, ite_false, reduceIte, reduceCtorEq, Nat.reduceEqDiff, ne_eq, Nat.reduceAdd, Nat.reduceSub, Nat.reduceMul, Nat.reduceLT, Nat.reduceLeDiff, Nat.reduceBEq, Nat.reduceBNe, Nat.reduceGT, Int.reduceEq, Int.reduceLT, Int.reduceLE, Int.reduceToNat, Int.reduceAdd, Int.reduceSub, Int.reduceMul, Int.reduceNeg, Int.reduceBEq, Int.reduceBNe, b_fuglemanref09_Bus_Drop, h, ho]
    | cons p r =>
      simp only [rob, Bs.ob] at h ho ⊢
      simp -implicitDefEqProofs only [eqs, Sym.wants, Sym.get, Sym.ev, Sym.evs, Sym.evO, Sym.evP, Sym.put, Sym.lev, Sym.aq, Sym.ae, aBin, aInt, isShift, aEqB, aEqP, aEqS, leavesEq, leafEq, aUn, Sym.rd, aLoad, aField, aFad, aNilck, asI, aIxS, aIxA, aIxV, aExt, aPick, aCvi, aCvs, aLen, aLenS, aMin2, aMax2, aFold, aFoldL, bnd, aSlStr, aSlS, fillL, newO, kill, aStore, putL, getO, cellsOf, Sym.elems, Sym.elemsS, aApp, aCpy, aClr, Sym.reps, aCall, aCallQ, finishCall, Sym.refs, Sym.refs1, Sym.refs0, okv, ok1, Sym.atom, flat0, dedup, Sym.reach, Sym.pos, Sym.sub, renO, Sym.ren, Sym.ren1, Sym.ren0, gmap, mergeOld, mergeNew, mergeO, allFresh, Sym.det, Sym.det0, Sym.canon, keepEnv, aRes, Sym.one, frzM, frz1, frz0, frzL, args0, dead0, lh_some, aCallM, if_true, if_false, ite_true, ite_false, reduceIte, reduceCtorEq, Nat.reduceEqDiff, ne_eq, Nat.reduceAdd, Nat.reduceSub, Nat.reduceMul, Nat.reduceLT, Nat.reduceLeDiff, Nat.reduceBEq, Nat.reduceBNe, Nat.reduceGT, Int.reduceEq, Int.reduceLT, Int.reduceLE, Int.reduceToNat, Int.reduceAdd, Int.reduceSub, Int.reduceMul, Int.reduceNeg, Int.reduceBEq, Int.reduceBNe, b_fuglemanref09_Bus_Drop, h, ho]
theorem rtwice_b (k : Nat) (b : Bs) (hb : b.Ref) (i : Int) : acall T (k + 90) 34 1 [.ptr 0 0, .v (.int .i64 i)] (b.ob false) = some ⟨.v (.int .i64 (b.twice i).1), (b.twice i).2.ob false, 2⟩ := by
  rw [acall_go (body := b_fuglemanref09_Bus_Twice) rfl rfl (by show 1 ≤ 2; decide)]
  have h := rthere_b (k + 88) b i
  unfold Bs.twice
  cases c : b.there i
  · rw [c] at h
    simp only [Bs.ob] at h ⊢
    simp -implicitDefEqProofs only [eqs, Sym.wants, Sym.get, Sym.ev, Sym.evs, Sym.evO, Sym.evP, Sym.put, Sym.lev, Sym.aq, Sym.ae, aBin, aInt, isShift, aEqB, aEqP, aEqS, leavesEq, leafEq, aUn, Sym.rd, aLoad, aField, aFad, aNilck, asI, aIxS, aIxA, aIxV, aExt, aPick, aCvi, aCvs, aLen, aLenS, aMin2, aMax2, aFold, aFoldL, bnd, aSlStr, aSlS, fillL, newO, kill, aStore, putL, getO, cellsOf, Sym.elems, Sym.elemsS, aApp, aCpy, aClr, Sym.reps, aCall, aCallQ, finishCall, Sym.refs, Sym.refs1, Sym.refs0, okv, ok1, Sym.atom, flat0, dedup, Sym.reach, Sym.pos, Sym.sub, renO, Sym.ren, Sym.ren1, Sym.ren0, gmap, mergeOld, mergeNew, mergeO, allFresh, Sym.det, Sym.det0, Sym.canon, keepEnv, aRes, Sym.one, frzM, frz1, frz0, frzL, args0, dead0, lh_some, aCallM, if_true, if_false, ite_true, ite_false, reduceIte, reduceCtorEq, Nat.reduceEqDiff, ne_eq, Nat.reduceAdd, Nat.reduceSub, Nat.reduceMul, Nat.reduceLT, Nat.reduceLeDiff, Nat.reduceBEq, Nat.reduceBNe, Nat.reduceGT, Int.reduceEq, Int.reduceLT, Int.reduceLE, Int.reduceToNat, Int.reduceAdd, Int.reduceSub, Int.reduceMul, Int.reduceNeg, Int.reduceBEq, Int.reduceBNe, b_fuglemanref09_Bus_Twice, h]
  · rw [c] at h
    obtain ⟨g1, g2⟩ := get_at b c
    obtain ⟨c1, c2⟩ := (there_iff b i).1 c
    obtain ⟨g3, _⟩ := cells_at g1
    have g4 : i.toNat * 4 + 4 ≤ (pcs b.all).length := by rw [pcs_len]; omega
    have ha : acall T (k + 89) 39 1 [.ptr 0 0, .agg (b.get i).c] (b.ob false) = some ⟨.v (.int .i64 (b.add (b.get i)).1), (b.add (b.get i)).2.ob false, 2⟩ := by
      have hz := hb.z
      obtain ⟨l, z, f⟩ := b
      simp only at hz
      subst hz
      exact radd_b (k + 88) l f _ hb.inn.1
    generalize b.get i = p at *
    simp only [Bs.ob, Pc.c] at h g3 ha ⊢
    simp -implicitDefEqProofs only [eqs, Sym.wants, Sym.get, Sym.ev, Sym.evs, Sym.evO, Sym.evP, Sym.put, Sym.lev, Sym.aq, Sym.ae, aBin, aInt, isShift, aEqB, aEqP, aEqS, leavesEq, leafEq, aUn, Sym.rd, aLoad, aField, aFad, aNilck, asI, aIxS, aIxA, aIxV, aExt, aPick, aCvi, aCvs, aLen, aLenS, aMin2, aMax2, aFold, aFoldL, bnd, aSlStr, aSlS, fillL, newO, kill, aStore, putL, getO, cellsOf, Sym.elems, Sym.elemsS, aApp, aCpy, aClr, Sym.reps, aCall, aCallQ, finishCall, Sym.refs, Sym.refs1, Sym.refs0, okv, ok1, Sym.atom, flat0, dedup, Sym.reach, Sym.pos, Sym.sub, renO, Sym.ren, Sym.ren1, Sym.ren0, gmap, mergeOld, mergeNew, mergeO, allFresh, Sym.det, Sym.det0, Sym.canon, keepEnv, aRes, Sym.one, frzM, frz1, frz0, frzL, args0, dead0, lh_some, aCallM, if_true, if_false, ite_true, ite_false, reduceIte, reduceCtorEq, Nat.reduceEqDiff, ne_eq, Nat.reduceAdd, Nat.reduceSub, Nat.reduceMul, Nat.reduceLT, Nat.reduceLeDiff, Nat.reduceBEq, Nat.reduceBNe, Nat.reduceGT, Int.reduceEq, Int.reduceLT, Int.reduceLE, Int.reduceToNat, Int.reduceAdd, Int.reduceSub, Int.reduceMul, Int.reduceNeg, Int.reduceBEq, Int.reduceBNe, b_fuglemanref09_Bus_Twice, h, c1, c2, g3, g4, ha]
theorem hit_two {l : List Pc} {i : Nat} {p : Pc} (hp : l[i]? = some p) (s : ByteArray) (h : Bool) : ((pcs l).set (i * 4 + 3) (.v (.bool h))).set (i * 4) (.v (.string s)) = pcs (l.set i { p with b := s, hurt := h }) ∧ ((pcs l).set (i * 4) (.v (.string s))).set (i * 4 + 3) (.v (.bool h)) = pcs (l.set i { p with b := s, hurt := h }) := by
  have hk := (List.getElem?_eq_some_iff.1 hp).1
  have e1 := pcs_set (j := 3) (a := .v (.bool h)) (q := { p with hurt := h }) hp (by decide) rfl
  have e2 := pcs_set (j := 0) (a := .v (.string s)) (q := { p with b := s, hurt := h }) (l := l.set i { p with hurt := h }) (k := i) (p := { p with hurt := h }) (by rw [List.getElem?_set_self hk]) (by decide) rfl
  rw [List.set_set, Nat.add_zero, ← e1] at e2
  exact ⟨e2, by rw [← e2, List.set_comm _ _ (by omega)]⟩
theorem rburst_b (k : Nat) (b : Bs) (hb : b.Ref) (i at_ pat : Int) (hp : 0 ≤ pat ∧ pat ≤ 65535) : acall T (k + 90) 35 1 [.ptr 0 0, .v (.int .i64 i), .v (.int .i64 at_), .v (.int .u16 pat)] (b.ob false) = some ⟨.v (.int .i64 (b.burst i at_ pat).1), (b.burst i at_ pat).2.ob false, 2⟩ := by
  rw [acall_go (body := b_fuglemanref09_Bus_Burst) rfl rfl (by show 1 ≤ 2; decide)]
  have h := rthere_b (k + 88) b i
  unfold Bs.burst
  cases c : b.there i
  · rw [c] at h
    simp only [Bs.ob] at h ⊢
    simp -implicitDefEqProofs only [eqs, Sym.wants, Sym.get, Sym.ev, Sym.evs, Sym.evO, Sym.evP, Sym.put, Sym.lev, Sym.aq, Sym.ae, aBin, aInt, isShift, aEqB, aEqP, aEqS, leavesEq, leafEq, aUn, Sym.rd, aLoad, aField, aFad, aNilck, asI, aIxS, aIxA, aIxV, aExt, aPick, aCvi, aCvs, aLen, aLenS, aMin2, aMax2, aFold, aFoldL, bnd, aSlStr, aSlS, fillL, newO, kill, aStore, putL, getO, cellsOf, Sym.elems, Sym.elemsS, aApp, aCpy, aClr, Sym.reps, aCall, aCallQ, finishCall, Sym.refs, Sym.refs1, Sym.refs0, okv, ok1, Sym.atom, flat0, dedup, Sym.reach, Sym.pos, Sym.sub, renO, Sym.ren, Sym.ren1, Sym.ren0, gmap, mergeOld, mergeNew, mergeO, allFresh, Sym.det, Sym.det0, Sym.canon, keepEnv, aRes, Sym.one, frzM, frz1, frz0, frzL, args0, dead0, lh_some, aCallM, if_true, if_false, ite_true, ite_false, reduceIte, reduceCtorEq, Nat.reduceEqDiff, ne_eq, Nat.reduceAdd, Nat.reduceSub, Nat.reduceMul, Nat.reduceLT, Nat.reduceLeDiff, Nat.reduceBEq, Nat.reduceBNe, Nat.reduceGT, Int.reduceEq, Int.reduceLT, Int.reduceLE, Int.reduceToNat, Int.reduceAdd, Int.reduceSub, Int.reduceMul, Int.reduceNeg, Int.reduceBEq, Int.reduceBNe, b_fuglemanref09_Bus_Burst, h]
  · rw [c] at h
    obtain ⟨g1, g2⟩ := get_at b c
    obtain ⟨c1, c2⟩ := (there_iff b i).1 c
    obtain ⟨_, g3, _, g5⟩ := cells_at g1
    have hsz := get_in hb.inn c
    have g4 : i.toNat * 4 + 4 ≤ b.all.length * 4 := by omega
    have g6 : i.toNat * 4 + 3 + 1 ≤ b.all.length * 4 := by omega
    have g7 : i.toNat * 4 + 1 ≤ b.all.length * 4 := by omega
    cases d : (b.get i).hurt
    · have hbu := rburst_a (k + 69) (b.get i).b (by omega) at_ pat hp
      rw [← bursts_eq _ _ _ hp] at hbu
      have e := (hit_two g1 (Bus.burst (b.get i).b at_ pat) (!decide (Bus.burst (b.get i).b at_ pat = (b.get i).b))).1
      have hh : (b.get i).hit (Bus.burst (b.get i).b at_ pat) = { b.get i with b := Bus.burst (b.get i).b at_ pat, hurt := !decide (Bus.burst (b.get i).b at_ pat = (b.get i).b) } := by
        unfold Pc.hit
        simp only [eq_comm]
      rw [← hh, ← set_all b (by omega)] at e
      have hl := set_len b i.toNat ((b.get i).hit (Bus.burst (b.get i).b at_ pat))
      have hf : (b.set i.toNat ((b.get i).hit (Bus.burst (b.get i).b at_ pat))).fault = b.fault := rfl
      have g8 : ((pcs b.all).set (i.toNat * 4 + 3) (.v (.bool (!decide (Bus.burst (b.get i).b at_ pat = (b.get i).b))))).length = b.all.length * 4 := by rw [List.length_set, pcs_len]
      rw [d] at g5
      simp only [Bs.ob] at h ⊢
      by_cases q : at_ < 0 ∨ 8 * ((b.get i).b.size : Int) ≤ at_
      · rw [if_pos q] at hbu
        simp -implicitDefEqProofs only [eqs, Sym.wants, Sym.get, Sym.ev, Sym.evs, Sym.evO, Sym.evP, Sym.put, Sym.lev, Sym.aq, Sym.ae, aBin, aInt, isShift, aEqB, aEqP, aEqS, leavesEq, leafEq, aUn, Sym.rd, aLoad, aField, aFad, aNilck, asI, aIxS, aIxA, aIxV, aExt, aPick, aCvi, aCvs, aLen, aLenS, aMin2, aMax2, aFold, aFoldL, bnd, aSlStr, aSlS, fillL, newO, kill, aStore, putL, getO, cellsOf, Sym.elems, Sym.elemsS, aApp, aCpy, aClr, Sym.reps, aCall, aCallQ, finishCall, Sym.refs, Sym.refs1, Sym.refs0, okv, ok1, Sym.atom, flat0, dedup, Sym.reach, Sym.pos, Sym.sub, renO, Sym.ren, Sym.ren1, Sym.ren0, gmap, mergeOld, mergeNew, mergeO, allFresh, Sym.det, Sym.det0, Sym.canon, keepEnv, aRes, Sym.one, frzM, frz1, frz0, frzL, args0, dead0, lh_some, aCallM, if_true, if_false, ite_true, ite_false, reduceIte, reduceCtorEq, Nat.reduceEqDiff, ne_eq, Nat.reduceAdd, Nat.reduceSub, Nat.reduceMul, Nat.reduceLT, Nat.reduceLeDiff, Nat.reduceBEq, Nat.reduceBNe, Nat.reduceGT, Int.reduceEq, Int.reduceLT, Int.reduceLE, Int.reduceToNat, Int.reduceAdd, Int.reduceSub, Int.reduceMul, Int.reduceNeg, Int.reduceBEq, Int.reduceBNe, b_fuglemanref09_Bus_Burst, h, c1, c2, g3, g4, g5, g6, g7, g8, hbu, e, hl, hf, pcs_len]
      · rw [if_neg q] at hbu
        simp -implicitDefEqProofs only [eqs, Sym.wants, Sym.get, Sym.ev, Sym.evs, Sym.evO, Sym.evP, Sym.put, Sym.lev, Sym.aq, Sym.ae, aBin, aInt, isShift, aEqB, aEqP, aEqS, leavesEq, leafEq, aUn, Sym.rd, aLoad, aField, aFad, aNilck, asI, aIxS, aIxA, aIxV, aExt, aPick, aCvi, aCvs, aLen, aLenS, aMin2, aMax2, aFold, aFoldL, bnd, aSlStr, aSlS, fillL, newO, kill, aStore, putL, getO, cellsOf, Sym.elems, Sym.elemsS, aApp, aCpy, aClr, Sym.reps, aCall, aCallQ, finishCall, Sym.refs, Sym.refs1, Sym.refs0, okv, ok1, Sym.atom, flat0, dedup, Sym.reach, Sym.pos, Sym.sub, renO, Sym.ren, Sym.ren1, Sym.ren0, gmap, mergeOld, mergeNew, mergeO, allFresh, Sym.det, Sym.det0, Sym.canon, keepEnv, aRes, Sym.one, frzM, frz1, frz0, frzL, args0, dead0, lh_some, aCallM, if_true, if_false, ite_true, ite_false, reduceIte, reduceCtorEq, Nat.reduceEqDiff, ne_eq, Nat.reduceAdd, Nat.reduceSub, Nat.reduceMul, Nat.reduceLT, Nat.reduceLeDiff, Nat.reduceBEq, Nat.reduceBNe, Nat.reduceGT, Int.reduceEq, Int.reduceLT, Int.reduceLE, Int.reduceToNat, Int.reduceAdd, Int.reduceSub, Int.reduceMul, Int.reduceNeg, Int.reduceBEq, Int.reduceBNe, b_fuglemanref09_Bus_Burst, h, c1, c2, g3, g4, g5, g6, g7, g8, hbu, e, hl, hf, pcs_len]
    · rw [d] at g5
      simp only [Bs.ob] at h ⊢
      simp -implicitDefEqProofs only [eqs, Sym.wants, Sym.get, Sym.ev, Sym.evs, Sym.evO, Sym.evP, Sym.put, Sym.lev, Sym.aq, Sym.ae, aBin, aInt, isShift, aEqB, aEqP, aEqS, leavesEq, leafEq, aUn, Sym.rd, aLoad, aField, aFad, aNilck, asI, aIxS, aIxA, aIxV, aExt, aPick, aCvi, aCvs, aLen, aLenS, aMin2, aMax2, aFold, aFoldL, bnd, aSlStr, aSlS, fillL, newO, kill, aStore, putL, getO, cellsOf, Sym.elems, Sym.elemsS, aApp, aCpy, aClr, Sym.reps, aCall, aCallQ, finishCall, Sym.refs, Sym.refs1, Sym.refs0, okv, ok1, Sym.atom, flat0, dedup, Sym.reach, Sym.pos, Sym.sub, renO, Sym.ren, Sym.ren1, Sym.ren0, gmap, mergeOld, mergeNew, mergeO, allFresh, Sym.det, Sym.det0, Sym.canon, keepEnv, aRes, Sym.one, frzM, frz1, frz0, frzL, args0, dead0, lh_some, aCallM, if_true, if_false, ite_true, ite_false, reduceIte, reduceCtorEq, Nat.reduceEqDiff, ne_eq, Nat.reduceAdd, Nat.reduceSub, Nat.reduceMul, Nat.reduceLT, Nat.reduceLeDiff, Nat.reduceBEq, Nat.reduceBNe, Nat.reduceGT, Int.reduceEq, Int.reduceLT, Int.reduceLE, Int.reduceToNat, Int.reduceAdd, Int.reduceSub, Int.reduceMul, Int.reduceNeg, Int.reduceBEq, Int.reduceBNe, b_fuglemanref09_Bus_Burst, h, c1, c2, g4, g5, g6, pcs_len]
theorem rcut_b (k : Nat) (b : Bs) (hb : b.Ref) (i n : Int) : acall T (k + 90) 36 1 [.ptr 0 0, .v (.int .i64 i), .v (.int .i64 n)] (b.ob false) = some ⟨.v (.int .i64 (b.cut i n).1), (b.cut i n).2.ob false, 2⟩ := by
  rw [acall_go (body := b_fuglemanref09_Bus_Cut) rfl rfl (by show 1 ≤ 2; decide)]
  have h := rthere_b (k + 88) b i
  unfold Bs.cut
  cases c : b.there i
  · rw [c] at h
    simp only [Bs.ob] at h ⊢
    simp -implicitDefEqProofs only [eqs, Sym.wants, Sym.get, Sym.ev, Sym.evs, Sym.evO, Sym.evP, Sym.put, Sym.lev, Sym.aq, Sym.ae, aBin, aInt, isShift, aEqB, aEqP, aEqS, leavesEq, leafEq, aUn, Sym.rd, aLoad, aField, aFad, aNilck, asI, aIxS, aIxA, aIxV, aExt, aPick, aCvi, aCvs, aLen, aLenS, aMin2, aMax2, aFold, aFoldL, bnd, aSlStr, aSlS, fillL, newO, kill, aStore, putL, getO, cellsOf, Sym.elems, Sym.elemsS, aApp, aCpy, aClr, Sym.reps, aCall, aCallQ, finishCall, Sym.refs, Sym.refs1, Sym.refs0, okv, ok1, Sym.atom, flat0, dedup, Sym.reach, Sym.pos, Sym.sub, renO, Sym.ren, Sym.ren1, Sym.ren0, gmap, mergeOld, mergeNew, mergeO, allFresh, Sym.det, Sym.det0, Sym.canon, keepEnv, aRes, Sym.one, frzM, frz1, frz0, frzL, args0, dead0, lh_some, aCallM, if_true, if_false, ite_true, ite_false, reduceIte, reduceCtorEq, Nat.reduceEqDiff, ne_eq, Nat.reduceAdd, Nat.reduceSub, Nat.reduceMul, Nat.reduceLT, Nat.reduceLeDiff, Nat.reduceBEq, Nat.reduceBNe, Nat.reduceGT, Int.reduceEq, Int.reduceLT, Int.reduceLE, Int.reduceToNat, Int.reduceAdd, Int.reduceSub, Int.reduceMul, Int.reduceNeg, Int.reduceBEq, Int.reduceBNe, b_fuglemanref09_Bus_Cut, h]
  · rw [c] at h
    obtain ⟨g1, g2⟩ := get_at b c
    obtain ⟨c1, c2⟩ := (there_iff b i).1 c
    obtain ⟨_, g3, _, g5⟩ := cells_at g1
    have hsz := get_in hb.inn c
    have g4 : i.toNat * 4 + 4 ≤ b.all.length * 4 := by omega
    have g6 : i.toNat * 4 + 3 + 1 ≤ b.all.length * 4 := by omega
    have g7 : i.toNat * 4 + 1 ≤ b.all.length * 4 := by omega
    cases d : (b.get i).hurt
    · rw [d] at g5
      by_cases q : n < 1
      · simp only [Bs.ob] at h ⊢
        simp -implicitDefEqProofs only [eqs, Sym.wants, Sym.get, Sym.ev, Sym.evs, Sym.evO, Sym.evP, Sym.put, Sym.lev, Sym.aq, Sym.ae, aBin, aInt, isShift, aEqB, aEqP, aEqS, leavesEq, leafEq, aUn, Sym.rd, aLoad, aField, aFad, aNilck, asI, aIxS, aIxA, aIxV, aExt, aPick, aCvi, aCvs, aLen, aLenS, aMin2, aMax2, aFold, aFoldL, bnd, aSlStr, aSlS, fillL, newO, kill, aStore, putL, getO, cellsOf, Sym.elems, Sym.elemsS, aApp, aCpy, aClr, Sym.reps, aCall, aCallQ, finishCall, Sym.refs, Sym.refs1, Sym.refs0, okv, ok1, Sym.atom, flat0, dedup, Sym.reach, Sym.pos, Sym.sub, renO, Sym.ren, Sym.ren1, Sym.ren0, gmap, mergeOld, mergeNew, mergeO, allFresh, Sym.det, Sym.det0, Sym.canon, keepEnv, aRes, Sym.one, frzM, frz1, frz0, frzL, args0, dead0, lh_some, aCallM, if_true, if_false, ite_true, ite_false, reduceIte, reduceCtorEq, Nat.reduceEqDiff, ne_eq, Nat.reduceAdd, Nat.reduceSub, Nat.reduceMul, Nat.reduceLT, Nat.reduceLeDiff, Nat.reduceBEq, Nat.reduceBNe, Nat.reduceGT, Int.reduceEq, Int.reduceLT, Int.reduceLE, Int.reduceToNat, Int.reduceAdd, Int.reduceSub, Int.reduceMul, Int.reduceNeg, Int.reduceBEq, Int.reduceBNe, b_fuglemanref09_Bus_Cut, h, c1, c2, g3, g4, g5, g6, q, true_or, pcs_len]
      · by_cases q2 : ((b.get i).b.size : Int) ≤ n
        · simp only [Bs.ob] at h ⊢
          simp -implicitDefEqProofs only [eqs, Sym.wants, Sym.get, Sym.ev, Sym.evs, Sym.evO, Sym.evP, Sym.put, Sym.lev, Sym.aq, Sym.ae, aBin, aInt, isShift, aEqB, aEqP, aEqS, leavesEq, leafEq, aUn, Sym.rd, aLoad, aField, aFad, aNilck, asI, aIxS, aIxA, aIxV, aExt, aPick, aCvi, aCvs, aLen, aLenS, aMin2, aMax2, aFold, aFoldL, bnd, aSlStr, aSlS, fillL, newO, kill, aStore, putL, getO, cellsOf, Sym.elems, Sym.elemsS, aApp, aCpy, aClr, Sym.reps, aCall, aCallQ, finishCall, Sym.refs, Sym.refs1, Sym.refs0, okv, ok1, Sym.atom, flat0, dedup, Sym.reach, Sym.pos, Sym.sub, renO, Sym.ren, Sym.ren1, Sym.ren0, gmap, mergeOld, mergeNew, mergeO, allFresh, Sym.det, Sym.det0, Sym.canon, keepEnv, aRes, Sym.one, frzM, frz1, frz0, frzL, args0, dead0, lh_some, aCallM, if_true, if_false, ite_true, ite_false, reduceIte, reduceCtorEq, Nat.reduceEqDiff, ne_eq, Nat.reduceAdd, Nat.reduceSub, Nat.reduceMul, Nat.reduceLT, Nat.reduceLeDiff, Nat.reduceBEq, Nat.reduceBNe, Nat.reduceGT, Int.reduceEq, Int.reduceLT, Int.reduceLE, Int.reduceToNat, Int.reduceAdd, Int.reduceSub, Int.reduceMul, Int.reduceNeg, Int.reduceBEq, Int.reduceBNe, b_fuglemanref09_Bus_Cut, h, c1, c2, g3, g4, g5, g6, q, q2, or_true, pcs_len]
        · have e1 : IntKind.i64.wrap (((b.get i).b.size : Int) - n) = (b.get i).b.size - n := w64 (by omega) (by omega)
          have e2 : (0 : Int) ≤ ((b.get i).b.size : Int) - n := by omega
          have e3 : (((b.get i).b.size : Int) - n).toNat ≤ (b.get i).b.size := by omega
          have e := (hit_two g1 ((b.get i).b.extract 0 (((b.get i).b.size : Int) - n).toNat) true).2
          have hh : (b.get i).hit ((b.get i).b.extract 0 (((b.get i).b.size : Int) - n).toNat) = { b.get i with b := (b.get i).b.extract 0 (((b.get i).b.size : Int) - n).toNat, hurt := true } := by
            unfold Pc.hit
            rw [decide_eq_false]
            · rfl
            · intro h2
              have := congrArg ByteArray.size h2
              rw [ByteArray.size_extract] at this
              omega
          rw [← hh, ← set_all b (by omega)] at e
          have hl := set_len b i.toNat ((b.get i).hit ((b.get i).b.extract 0 (((b.get i).b.size : Int) - n).toNat))
          have hf : (b.set i.toNat ((b.get i).hit ((b.get i).b.extract 0 (((b.get i).b.size : Int) - n).toNat))).fault = b.fault := rfl
          have g8 : ((pcs b.all).set (i.toNat * 4) (.v (.string ((b.get i).b.extract 0 (((b.get i).b.size : Int) - n).toNat)))).length = b.all.length * 4 := by rw [List.length_set, pcs_len]
          simp only [Bs.ob] at h ⊢
          simp -implicitDefEqProofs only [eqs, Sym.wants, Sym.get, Sym.ev, Sym.evs, Sym.evO, Sym.evP, Sym.put, Sym.lev, Sym.aq, Sym.ae, aBin, aInt, isShift, aEqB, aEqP, aEqS, leavesEq, leafEq, aUn, Sym.rd, aLoad, aField, aFad, aNilck, asI, aIxS, aIxA, aIxV, aExt, aPick, aCvi, aCvs, aLen, aLenS, aMin2, aMax2, aFold, aFoldL, bnd, aSlStr, aSlS, fillL, newO, kill, aStore, putL, getO, cellsOf, Sym.elems, Sym.elemsS, aApp, aCpy, aClr, Sym.reps, aCall, aCallQ, finishCall, Sym.refs, Sym.refs1, Sym.refs0, okv, ok1, Sym.atom, flat0, dedup, Sym.reach, Sym.pos, Sym.sub, renO, Sym.ren, Sym.ren1, Sym.ren0, gmap, mergeOld, mergeNew, mergeO, allFresh, Sym.det, Sym.det0, Sym.canon, keepEnv, aRes, Sym.one, frzM, frz1, frz0, frzL, args0, dead0, lh_some, aCallM, if_true, if_false, ite_true, ite_false, reduceIte, reduceCtorEq, Nat.reduceEqDiff, ne_eq, Nat.reduceAdd, Nat.reduceSub, Nat.reduceMul, Nat.reduceLT, Nat.reduceLeDiff, Nat.reduceBEq, Nat.reduceBNe, Nat.reduceGT, Int.reduceEq, Int.reduceLT, Int.reduceLE, Int.reduceToNat, Int.reduceAdd, Int.reduceSub, Int.reduceMul, Int.reduceNeg, Int.reduceBEq, Int.reduceBNe, b_fuglemanref09_Bus_Cut, h, c1, c2, g3, g4, g5, g6, g7, g8, q, q2, or_self, e1, e2, e3, e, hl, hf, pcs_len]
    · rw [d] at g5
      simp only [Bs.ob] at h ⊢
      simp -implicitDefEqProofs only [eqs, Sym.wants, Sym.get, Sym.ev, Sym.evs, Sym.evO, Sym.evP, Sym.put, Sym.lev, Sym.aq, Sym.ae, aBin, aInt, isShift, aEqB, aEqP, aEqS, leavesEq, leafEq, aUn, Sym.rd, aLoad, aField, aFad, aNilck, asI, aIxS, aIxA, aIxV, aExt, aPick, aCvi, aCvs, aLen, aLenS, aMin2, aMax2, aFold, aFoldL, bnd, aSlStr, aSlS, fillL, newO, kill, aStore, putL, getO, cellsOf, Sym.elems, Sym.elemsS, aApp, aCpy, aClr, Sym.reps, aCall, aCallQ, finishCall, Sym.refs, Sym.refs1, Sym.refs0, okv, ok1, Sym.atom, flat0, dedup, Sym.reach, Sym.pos, Sym.sub, renO, Sym.ren, Sym.ren1, Sym.ren0, gmap, mergeOld, mergeNew, mergeO, allFresh, Sym.det, Sym.det0, Sym.canon, keepEnv, aRes, Sym.one, frzM, frz1, frz0, frzL, args0, dead0, lh_some, aCallM, if_true, if_false, ite_true, ite_false, reduceIte, reduceCtorEq, Nat.reduceEqDiff, ne_eq, Nat.reduceAdd, Nat.reduceSub, Nat.reduceMul, Nat.reduceLT, Nat.reduceLeDiff, Nat.reduceBEq, Nat.reduceBNe, Nat.reduceGT, Int.reduceEq, Int.reduceLT, Int.reduceLE, Int.reduceToNat, Int.reduceAdd, Int.reduceSub, Int.reduceMul, Int.reduceNeg, Int.reduceBEq, Int.reduceBNe, b_fuglemanref09_Bus_Cut, h, c1, c2, g4, g5, g6, pcs_len]
theorem rdeliver_b (k : Nat) (b : Bs) (hb : b.Ref) (i to : Int) : ∃ fl, acall T (k + 120) 32 1 [.ptr 0 0, .v (.int .i64 i), .v (.int .i64 to)] (b.ob false) = some ⟨.tup [.v (.string (b.deliver i to).1.1), .v (.int .i64 (b.deliver i to).1.2)], if (b.deliver i to).1.2 = 0 then rob fl (b.deliver i to).2.l b.fault false else b.ob false, 2⟩ := by
  refine ⟨false, ?_⟩
  rw [acall_go (body := b_fuglemanref09_Bus_Deliver) rfl rfl (by show 1 ≤ 2; decide)]
  have h := rthere_b (k + 118) b i
  unfold Bs.deliver
  cases c : b.there i
  · rw [c] at h
    simp only [Bs.ob] at h ⊢
    simp -implicitDefEqProofs only [eqs, Sym.wants, Sym.get, Sym.ev, Sym.evs, Sym.evO, Sym.evP, Sym.put, Sym.lev, Sym.aq, Sym.ae, aBin, aInt, isShift, aEqB, aEqP, aEqS, leavesEq, leafEq, aUn, Sym.rd, aLoad, aField, aFad, aNilck, asI, aIxS, aIxA, aIxV, aExt, aPick, aCvi, aCvs, aLen, aLenS, aMin2, aMax2, aFold, aFoldL, bnd, aSlStr, aSlS, fillL, newO, kill, aStore, putL, getO, cellsOf, Sym.elems, Sym.elemsS, aApp, aCpy, aClr, Sym.reps, aCall, aCallQ, finishCall, Sym.refs, Sym.refs1, Sym.refs0, okv, ok1, Sym.atom, flat0, dedup, Sym.reach, Sym.pos, Sym.sub, renO, Sym.ren, Sym.ren1, Sym.ren0, gmap, mergeOld, mergeNew, mergeO, allFresh, Sym.det, Sym.det0, Sym.canon, keepEnv, aRes, Sym.one, frzM, frz1, frz0, frzL, args0, dead0, lh_some, aCallM, if_true, if_false, ite_true, ite_false, reduceIte, reduceCtorEq, Nat.reduceEqDiff, ne_eq, Nat.reduceAdd, Nat.reduceSub, Nat.reduceMul, Nat.reduceLT, Nat.reduceLeDiff, Nat.reduceBEq, Nat.reduceBNe, Nat.reduceGT, Int.reduceEq, Int.reduceLT, Int.reduceLE, Int.reduceToNat, Int.reduceAdd, Int.reduceSub, Int.reduceMul, Int.reduceNeg, Int.reduceBEq, Int.reduceBNe, b_fuglemanref09_Bus_Deliver, h]
  · rw [c] at h
    obtain ⟨g1, g2⟩ := get_at b c
    obtain ⟨c1, c2⟩ := (there_iff b i).1 c
    obtain ⟨_, g3, g3', _⟩ := cells_at g1
    have g4 : i.toNat * 4 + 4 ≤ b.all.length * 4 := by omega
    have g4' : i.toNat * 4 + 2 + 1 ≤ b.all.length * 4 := by omega
    have hto := hb.to _ (get_mem c)
    have hh := rhas_i (k + 79) (b.get i).to hto to
    obtain ⟨dw, hdw, hw⟩ := rwithout_i (k + 38) (b.get i).to hto to
    cases d : ha (b.get i).to to
    · rw [d] at hh
      simp only [Bs.ob] at h ⊢
      simp -implicitDefEqProofs only [eqs, Sym.wants, Sym.get, Sym.ev, Sym.evs, Sym.evO, Sym.evP, Sym.put, Sym.lev, Sym.aq, Sym.ae, aBin, aInt, isShift, aEqB, aEqP, aEqS, leavesEq, leafEq, aUn, Sym.rd, aLoad, aField, aFad, aNilck, asI, aIxS, aIxA, aIxV, aExt, aPick, aCvi, aCvs, aLen, aLenS, aMin2, aMax2, aFold, aFoldL, bnd, aSlStr, aSlS, fillL, newO, kill, aStore, putL, getO, cellsOf, Sym.elems, Sym.elemsS, aApp, aCpy, aClr, Sym.reps, aCall, aCallQ, finishCall, Sym.refs, Sym.refs1, Sym.refs0, okv, ok1, Sym.atom, flat0, dedup, Sym.reach, Sym.pos, Sym.sub, renO, Sym.ren, Sym.ren1, Sym.ren0, gmap, mergeOld, mergeNew, mergeO, allFresh, Sym.det, Sym.det0, Sym.canon, keepEnv, aRes, Sym.one, frzM, frz1, frz0, frzL, args0, dead0, lh_some, aCallM, if_true, if_false, ite_true, ite_false, reduceIte, reduceCtorEq, Nat.reduceEqDiff, ne_eq, Nat.reduceAdd, Nat.reduceSub, Nat.reduceMul, Nat.reduceLT, Nat.reduceLeDiff, Nat.reduceBEq, Nat.reduceBNe, Nat.reduceGT, Int.reduceEq, Int.reduceLT, Int.reduceLE, Int.reduceToNat, Int.reduceAdd, Int.reduceSub, Int.reduceMul, Int.reduceNeg, Int.reduceBEq, Int.reduceBNe, b_fuglemanref09_Bus_Deliver, h, c1, c2, g3', g4, g4', hh, pcs_len]
    · rw [d] at hh
      have e1 := pcs_set (j := 2) (a := .v (.int .u32 (wo (b.get i).to to))) (q := (b.get i).less to) g1 (by decide) rfl
      rw [← set_all b (by omega)] at e1
      have hsl := set_len b i.toNat ((b.get i).less to)
      have hsf : (b.set i.toNat ((b.get i).less to)).fault = b.fault := rfl
      have hsz : (b.set i.toNat ((b.get i).less to)).z = 0 := hb.z
      have hst : (b.set i.toNat ((b.get i).less to)).there i = true := by rw [there_iff, hsl]; exact ⟨c1, c2⟩
      have hsg : (b.set i.toNat ((b.get i).less to)).all[i.toNat]? = some ((b.get i).less to) := by
        rw [set_all b (by omega), List.getElem?_set_self g2]
      obtain ⟨_, _, g5, _⟩ := cells_at hsg
      have hto2 : ((b.get i).less to).to = wo (b.get i).to to := rfl
      rw [hto2] at g5
      have g6 : (b.set i.toNat ((b.get i).less to)).all.length = b.all.length := by rw [set_all b (by omega), List.length_set]
      have hdl : ((b.set i.toNat ((b.get i).less to)).del i.toNat).l = (b.set i.toNat ((b.get i).less to)).l.eraseIdx i.toNat := rfl
      have hne : (b.set i.toNat ((b.get i).less to)).l ≠ [] := fun hh => by rw [hh] at hsl; simp at hsl; omega
      have hro := rob_of hsz hne false
      rw [hsf] at hro
      have ho : acall T (k + 119) 43 1 [.ptr 0 0, .v (.int .i64 i)] ((b.set i.toNat ((b.get i).less to)).ob false) = some ⟨.tup [], rob false ((b.set i.toNat ((b.get i).less to)).l.eraseIdx i.toNat) b.fault false, 2⟩ := by
        rw [← hsf]
        have hl64 := hb.inn.1
        rw [← hsl] at hl64
        generalize b.set i.toNat ((b.get i).less to) = b1 at *
        obtain ⟨l, z, f⟩ := b1
        simp only at hsz
        subst hsz
        exact rout_b (k + 49) l f hl64 i hst
      generalize b.set i.toNat ((b.get i).less to) = b1 at *
      cases d2 : (wo (b.get i).to to == 0)
      · simp only [if_true, and_self, Bool.false_eq_true, if_false, hro]
        simp only [Bs.ob, hsf] at h ⊢
        simp -implicitDefEqProofs only [eqs, Sym.wants, Sym.get, Sym.ev, Sym.evs, Sym.evO, Sym.evP, Sym.put, Sym.lev, Sym.aq, Sym.ae, aBin, aInt, isShift, aEqB, aEqP, aEqS, leavesEq, leafEq, aUn, Sym.rd, aLoad, aField, aFad, aNilck, asI, aIxS, aIxA, aIxV, aExt, aPick, aCvi, aCvs, aLen, aLenS, aMin2, aMax2, aFold, aFoldL, bnd, aSlStr, aSlS, fillL, newO, kill, aStore, putL, getO, cellsOf, Sym.elems, Sym.elemsS, aApp, aCpy, aClr, Sym.reps, aCall, aCallQ, finishCall, Sym.refs, Sym.refs1, Sym.refs0, okv, ok1, Sym.atom, flat0, dedup, Sym.reach, Sym.pos, Sym.sub, renO, Sym.ren, Sym.ren1, Sym.ren0, gmap, mergeOld, mergeNew, mergeO, allFresh, Sym.det, Sym.det0, Sym.canon, keepEnv, aRes, Sym.one, frzM, frz1, frz0, frzL, args0, dead0, lh_some, aCallM, if_true, if_false, ite_true, ite_false, reduceIte, reduceCtorEq, Nat.reduceEqDiff, ne_eq, Nat.reduceAdd, Nat.reduceSub, Nat.reduceMul, Nat.reduceLT, Nat.reduceLeDiff, Nat.reduceBEq, Nat.reduceBNe, Nat.reduceGT, Int.reduceEq, Int.reduceLT, Int.reduceLE, Int.reduceToNat, Int.reduceAdd, Int.reduceSub, Int.reduceMul, Int.reduceNeg, Int.reduceBEq, Int.reduceBNe, b_fuglemanref09_Bus_Deliver, h, c1, c2, g3, g3', g4, g4', hh, hw, hdw, e1, g5, g6, d2, pcs_len, hsl, hsf]
      · simp only [if_true, and_self, hdl]
        generalize b1.l.eraseIdx i.toNat = l' at *
        cases l' with
        | nil =>
          simp only [Bs.ob, hsl, hsf, rob, rob0] at h ho ⊢
          simp -implicitDefEqProofs only [eqs, Sym.wants, Sym.get, Sym.ev, Sym.evs, Sym.evO, Sym.evP, Sym.put, Sym.lev, Sym.aq, Sym.ae, aBin, aInt, isShift, aEqB, aEqP, aEqS, leavesEq, leafEq, aUn, Sym.rd, aLoad, aField, aFad, aNilck, asI, aIxS, aIxA, aIxV, aExt, aPick, aCvi, aCvs, aLen, aLenS, aMin2, aMax2, aFold, aFoldL, bnd, aSlStr, aSlS, fillL, newO, kill, aStore, putL, getO, cellsOf, Sym.elems, Sym.elemsS, aApp, aCpy, aClr, Sym.reps, aCall, aCallQ, finishCall, Sym.refs, Sym.refs1, Sym.refs0, okv, ok1, Sym.atom, flat0, dedup, Sym.reach, Sym.pos, Sym.sub, renO, Sym.ren, Sym.ren1, Sym.ren0, gmap, mergeOld, mergeNew, mergeO, allFresh, Sym.det, Sym.det0, Sym.canon, keepEnv, aRes, Sym.one, frzM, frz1, frz0, frzL, args0, dead0, lh_some, aCallM, if_true, if_false, ite_true, ite_false, reduceIte, reduceCtorEq, Nat.reduceEqDiff, ne_eq, Nat.reduceAdd, Nat.reduceSub, Nat.reduceMul, Nat.reduceLT, Nat.reduceLeDiff, Nat.reduceBEq, Nat.reduceBNe, Nat.reduceGT, Int.reduceEq, Int.reduceLT, Int.reduceLE, Int.reduceToNat, Int.reduceAdd, Int.reduceSub, Int.reduceMul, Int.reduceNeg, Int.reduceBEq, Int.reduceBNe, b_fuglemanref09_Bus_Deliver, h, c1, c2, g3, g3', g4, g4', hh, hw, hdw, e1, g5, g6, d2, ho, pcs_len, hsl, hsf]
        | cons p r =>
          simp only [Bs.ob, hsl, hsf, rob] at h ho ⊢
          simp -implicitDefEqProofs only [eqs, Sym.wants, Sym.get, Sym.ev, Sym.evs, Sym.evO, Sym.evP, Sym.put, Sym.lev, Sym.aq, Sym.ae, aBin, aInt, isShift, aEqB, aEqP, aEqS, leavesEq, leafEq, aUn, Sym.rd, aLoad, aField, aFad, aNilck, asI, aIxS, aIxA, aIxV, aExt, aPick, aCvi, aCvs, aLen, aLenS, aMin2, aMax2, aFold, aFoldL, bnd, aSlStr, aSlS, fillL, newO, kill, aStore, putL, getO, cellsOf, Sym.elems, Sym.elemsS, aApp, aCpy, aClr, Sym.reps, aCall, aCallQ, finishCall, Sym.refs, Sym.refs1, Sym.refs0, okv, ok1, Sym.atom, flat0, dedup, Sym.reach, Sym.pos, Sym.sub, renO, Sym.ren, Sym.ren1, Sym.ren0, gmap, mergeOld, mergeNew, mergeO, allFresh, Sym.det, Sym.det0, Sym.canon, keepEnv, aRes, Sym.one, frzM, frz1, frz0, frzL, args0, dead0, lh_some, aCallM, if_true, if_false, ite_true, ite_false, reduceIte, reduceCtorEq, Nat.reduceEqDiff, ne_eq, Nat.reduceAdd, Nat.reduceSub, Nat.reduceMul, Nat.reduceLT, Nat.reduceLeDiff, Nat.reduceBEq, Nat.reduceBNe, Nat.reduceGT, Int.reduceEq, Int.reduceLT, Int.reduceLE, Int.reduceToNat, Int.reduceAdd, Int.reduceSub, Int.reduceMul, Int.reduceNeg, Int.reduceBEq, Int.reduceBNe, b_fuglemanref09_Bus_Deliver, h, c1, c2, g3, g3', g4, g4', hh, hw, hdw, e1, g5, g6, d2, ho, pcs_len, hsl, hsf]
end Go.Proofs.Ythmmgpdniijkeaa.Bus
