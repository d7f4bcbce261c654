/- Package bus: bursts, cuts, twins, delivery. -/
import Derived.Test.YthmmgpdniijkeaaBBurst
namespace Go.Proofs.Ythmmgpdniijkeaa.Bus
open Go Go.Proofs.Ythmmgpdniijkeaa.Sym Go.Proofs.Ythmmgpdniijkeaa.Tab
set_option linter.unusedVariables false
set_option linter.unusedSimpArgs false
set_option maxHeartbeats 4000000
set_option maxRecDepth 20000
def Bs.burst (b : Bs) (i at_ pat : Int) : Int × Bs := if b.there i = true then (if (b.get i).hurt = true then (11, b) else (0, b.set i.toNat ((b.get i).hit (Bus.burst (b.get i).b at_ pat)))) else (1, b)
def Bs.In (b : Bs) : Prop := b.l.length ≤ 64 ∧ ∀ p ∈ b.l, p.b.size ≤ 255
theorem get_in {b : Bs} (h : b.In) {i : Int} (c : b.there i = true) : (b.get i).b.size ≤ 255 := by
  obtain ⟨h1, h2⟩ := (there_iff b i).1 c
  refine h.2 _ ?_
  unfold Bs.get
  rw [List.getD_eq_getElem?_getD, List.getElem?_eq_getElem (show i.toNat < b.l.length by omega)]
  exact List.getElem_mem _
theorem burst_b (k : Nat) (b : Bs) (hb : b.In) (i at_ pat : Int) (hp : 0 ≤ pat ∧ pat ≤ 65535) : acall T (k + 11) 13 1 [.ptr 0 0, .v (.int .i64 i), .v (.int .i64 at_), .v (.int .u16 pat)] (b.ob false) = some ⟨.v (.int .i64 (b.burst i at_ pat).1), (b.burst i at_ pat).2.ob false, 2⟩ := by
  rw [acall_go (body := b_bus_Bus_Burst) rfl rfl (by show 1 ≤ 2; decide)]
  have h := whole_a (k + 7) b i
  unfold Bs.burst
  unfold Bs.whole at h
  cases c : b.there i
  · simp only [Bs.ob, c, Bool.false_eq_true, if_false] at h
    simp -implicitDefEqProofs only [eqs, Sym.wants, Sym.get, Sym.ev, Sym.evs, Sym.evO, Sym.evP, Sym.put, Sym.lev, Sym.aq, Sym.ae, aBin, aInt, isShift, aEqB, aEqP, aEqS, leavesEq, leafEq, aUn, Sym.rd, aLoad, aField, aFad, aNilck, asI, aIxS, aIxA, aIxV, aExt, aPick, aCvi, aCvs, aLen, aLenS, aMin2, aMax2, aFold, aFoldL, bnd, aSlStr, aSlS, fillL, newO, kill, aStore, putL, getO, cellsOf, Sym.elems, Sym.elemsS, aApp, aCpy, aClr, Sym.reps, aCall, aCallQ, finishCall, Sym.refs, Sym.refs1, Sym.refs0, okv, ok1, Sym.atom, flat0, dedup, Sym.reach, Sym.pos, Sym.sub, renO, Sym.ren, Sym.ren1, Sym.ren0, gmap, mergeOld, mergeNew, mergeO, allFresh, Sym.det, Sym.det0, Sym.canon, keepEnv, aRes, Sym.one, frzM, frz1, frz0, frzL, args0, dead0, lh_some, aCallM, if_true, if_false, ite_true, ite_false, reduceIte, reduceCtorEq, Nat.reduceEqDiff, ne_eq, Nat.reduceAdd, Nat.reduceSub, Nat.reduceMul, Nat.reduceLT, Nat.reduceLeDiff, Nat.reduceBEq, Nat.reduceBNe, Nat.reduceGT, Int.reduceEq, Int.reduceLT, Int.reduceLE, Int.reduceToNat, Int.reduceAdd, Int.reduceSub, Int.reduceMul, Int.reduceNeg, Int.reduceBEq, Int.reduceBNe, b_bus_Bus_Burst, Bs.ob, h, c]
  · obtain ⟨g1, g2⟩ := get_at b c
    have hsz := get_in hb c
    obtain ⟨_, g3, _, _⟩ := cells_at g1
    have g4 : i.toNat * 4 + 4 ≤ (pcs b.all).length := by rw [pcs_len]; omega
    cases d : (b.get i).hurt
    · have hbu := burst_a (k + 1) (b.get i).b (by omega) at_ pat hp
      have hh := hurt_a (k + 9) b.all i.toNat (b.get i) g1 (Bus.burst (b.get i).b at_ pat)
      rw [← set_all b (by have := (there_iff b i).1 c; omega)] at hh
      have hl := set_len b i.toNat ((b.get i).hit (Bus.burst (b.get i).b at_ pat))
      have hf : (b.set i.toNat ((b.get i).hit (Bus.burst (b.get i).b at_ pat))).fault = b.fault := rfl
      simp only [Bs.ob, c, d, if_true, Bool.false_eq_true, if_false] at h
      by_cases q : at_ < 0 ∨ 8 * ((b.get i).b.size : Int) ≤ at_
      · rw [if_pos q] at hbu
        simp -implicitDefEqProofs only [eqs, Sym.wants, Sym.get, Sym.ev, Sym.evs, Sym.evO, Sym.evP, Sym.put, Sym.lev, Sym.aq, Sym.ae, aBin, aInt, isShift, aEqB, aEqP, aEqS, leavesEq, leafEq, aUn, Sym.rd, aLoad, aField, aFad, aNilck, asI, aIxS, aIxA, aIxV, aExt, aPick, aCvi, aCvs, aLen, aLenS, aMin2, aMax2, aFold, aFoldL, bnd, aSlStr, aSlS, fillL, newO, kill, aStore, putL, getO, cellsOf, Sym.elems, Sym.elemsS, aApp, aCpy, aClr, Sym.reps, aCall, aCallQ, finishCall, Sym.refs, Sym.refs1, Sym.refs0, okv, ok1, Sym.atom, flat0, dedup, Sym.reach, Sym.pos, Sym.sub, renO, Sym.ren, Sym.ren1, Sym.ren0, gmap, mergeOld, mergeNew, mergeO, allFresh, Sym.det, Sym.det0, Sym.canon, keepEnv, aRes, Sym.one, frzM, frz1, frz0, frzL, args0, dead0, lh_some, aCallM, if_true, if_false, ite_true, ite_false, reduceIte, reduceCtorEq, Nat.reduceEqDiff, ne_eq, Nat.reduceAdd, Nat.reduceSub, Nat.reduceMul, Nat.reduceLT, Nat.reduceLeDiff, Nat.reduceBEq, Nat.reduceBNe, Nat.reduceGT, Int.reduceEq, Int.reduceLT, Int.reduceLE, Int.reduceToNat, Int.reduceAdd, Int.reduceSub, Int.reduceMul, Int.reduceNeg, Int.reduceBEq, Int.reduceBNe, b_bus_Bus_Burst, Bs.ob, h, c, g3, g4, hbu, hh, hl, hf]
      · rw [if_neg q] at hbu
        simp -implicitDefEqProofs only [eqs, Sym.wants, Sym.get, Sym.ev, Sym.evs, Sym.evO, Sym.evP, Sym.put, Sym.lev, Sym.aq, Sym.ae, aBin, aInt, isShift, aEqB, aEqP, aEqS, leavesEq, leafEq, aUn, Sym.rd, aLoad, aField, aFad, aNilck, asI, aIxS, aIxA, aIxV, aExt, aPick, aCvi, aCvs, aLen, aLenS, aMin2, aMax2, aFold, aFoldL, bnd, aSlStr, aSlS, fillL, newO, kill, aStore, putL, getO, cellsOf, Sym.elems, Sym.elemsS, aApp, aCpy, aClr, Sym.reps, aCall, aCallQ, finishCall, Sym.refs, Sym.refs1, Sym.refs0, okv, ok1, Sym.atom, flat0, dedup, Sym.reach, Sym.pos, Sym.sub, renO, Sym.ren, Sym.ren1, Sym.ren0, gmap, mergeOld, mergeNew, mergeO, allFresh, Sym.det, Sym.det0, Sym.canon, keepEnv, aRes, Sym.one, frzM, frz1, frz0, frzL, args0, dead0, lh_some, aCallM, if_true, if_false, ite_true, ite_false, reduceIte, reduceCtorEq, Nat.reduceEqDiff, ne_eq, Nat.reduceAdd, Nat.reduceSub, Nat.reduceMul, Nat.reduceLT, Nat.reduceLeDiff, Nat.reduceBEq, Nat.reduceBNe, Nat.reduceGT, Int.reduceEq, Int.reduceLT, Int.reduceLE, Int.reduceToNat, Int.reduceAdd, Int.reduceSub, Int.reduceMul, Int.reduceNeg, Int.reduceBEq, Int.reduceBNe, b_bus_Bus_Burst, Bs.ob, h, c, g3, g4, hbu, hh, hl, hf]
    · simp only [Bs.ob, c, d, if_true] at h
      simp -implicitDefEqProofs only [eqs, Sym.wants, Sym.get, Sym.ev, Sym.evs, Sym.evO, Sym.evP, Sym.put, Sym.lev, Sym.aq, Sym.ae, aBin, aInt, isShift, aEqB, aEqP, aEqS, leavesEq, leafEq, aUn, Sym.rd, aLoad, aField, aFad, aNilck, asI, aIxS, aIxA, aIxV, aExt, aPick, aCvi, aCvs, aLen, aLenS, aMin2, aMax2, aFold, aFoldL, bnd, aSlStr, aSlS, fillL, newO, kill, aStore, putL, getO, cellsOf, Sym.elems, Sym.elemsS, aApp, aCpy, aClr, Sym.reps, aCall, aCallQ, finishCall, Sym.refs, Sym.refs1, Sym.refs0, okv, ok1, Sym.atom, flat0, dedup, Sym.reach, Sym.pos, Sym.sub, renO, Sym.ren, Sym.ren1, Sym.ren0, gmap, mergeOld, mergeNew, mergeO, allFresh, Sym.det, Sym.det0, Sym.canon, keepEnv, aRes, Sym.one, frzM, frz1, frz0, frzL, args0, dead0, lh_some, aCallM, if_true, if_false, ite_true, ite_false, reduceIte, reduceCtorEq, Nat.reduceEqDiff, ne_eq, Nat.reduceAdd, Nat.reduceSub, Nat.reduceMul, Nat.reduceLT, Nat.reduceLeDiff, Nat.reduceBEq, Nat.reduceBNe, Nat.reduceGT, Int.reduceEq, Int.reduceLT, Int.reduceLE, Int.reduceToNat, Int.reduceAdd, Int.reduceSub, Int.reduceMul, Int.reduceNeg, Int.reduceBEq, Int.reduceBNe, b_bus_Bus_Burst, Bs.ob, h, c]
def Bs.cut (b : Bs) (i n : Int) : Int × Bs := if b.there i = true then (if (b.get i).hurt = true then (11, b) else if n < 1 ∨ (b.get i).b.size ≤ n then (1, b) else (0, b.set i.toNat ((b.get i).hit ((b.get i).b.extract 0 ((b.get i).b.size - n).toNat)))) else (1, b)
theorem cut_b (k : Nat) (b : Bs) (hb : b.In) (i n : Int) : acall T (k + 11) 16 1 [.ptr 0 0, .v (.int .i64 i), .v (.int .i64 n)] (b.ob false) = some ⟨.v (.int .i64 (b.cut i n).1), (b.cut i n).2.ob false, 2⟩ := by
  rw [acall_go (body := b_bus_Bus_Cut) rfl rfl (by show 1 ≤ 2; decide)]
  have h := whole_a (k + 7) b i
  unfold Bs.cut
  unfold Bs.whole at h
  cases c : b.there i
  · simp only [Bs.ob, c, Bool.false_eq_true, if_false] at h
    simp -implicitDefEqProofs only [eqs, Sym.wants, Sym.get, Sym.ev, Sym.evs, Sym.evO, Sym.evP, Sym.put, Sym.lev, Sym.aq, Sym.ae, aBin, aInt, isShift, aEqB, aEqP, aEqS, leavesEq, leafEq, aUn, Sym.rd, aLoad, aField, aFad, aNilck, asI, aIxS, aIxA, aIxV, aExt, aPick, aCvi, aCvs, aLen, aLenS, aMin2, aMax2, aFold, aFoldL, bnd, aSlStr, aSlS, fillL, newO, kill, aStore, putL, getO, cellsOf, Sym.elems, Sym.elemsS, aApp, aCpy, aClr, Sym.reps, aCall, aCallQ, finishCall, Sym.refs, Sym.refs1, Sym.refs0, okv, ok1, Sym.atom, flat0, dedup, Sym.reach, Sym.pos, Sym.sub, renO, Sym.ren, Sym.ren1, Sym.ren0, gmap, mergeOld, mergeNew, mergeO, allFresh, Sym.det, Sym.det0, Sym.canon, keepEnv, aRes, Sym.one, frzM, frz1, frz0, frzL, args0, dead0, lh_some, aCallM, if_true, if_false, ite_true, ite_false, reduceIte, reduceCtorEq, Nat.reduceEqDiff, ne_eq, Nat.reduceAdd, Nat.reduceSub, Nat.reduceMul, Nat.reduceLT, Nat.reduceLeDiff, Nat.reduceBEq, Nat.reduceBNe, Nat.reduceGT, Int.reduceEq, Int.reduceLT, Int.reduceLE, Int.reduceToNat, Int.reduceAdd, Int.reduceSub, Int.reduceMul, Int.reduceNeg, Int.reduceBEq, Int.reduceBNe, b_bus_Bus_Cut, Bs.ob, h, c]
  · obtain ⟨g1, g2⟩ := get_at b c
    have hsz := get_in hb c
    obtain ⟨_, g3, _, _⟩ := cells_at g1
    have g4 : i.toNat * 4 + 4 ≤ (pcs b.all).length := by rw [pcs_len]; omega
    cases d : (b.get i).hurt
    · simp only [Bs.ob, c, d, if_true, Bool.false_eq_true, if_false] at h
      by_cases q : n < 1
      · simp -implicitDefEqProofs only [eqs, Sym.wants, Sym.get, Sym.ev, Sym.evs, Sym.evO, Sym.evP, Sym.put, Sym.lev, Sym.aq, Sym.ae, aBin, aInt, isShift, aEqB, aEqP, aEqS, leavesEq, leafEq, aUn, Sym.rd, aLoad, aField, aFad, aNilck, asI, aIxS, aIxA, aIxV, aExt, aPick, aCvi, aCvs, aLen, aLenS, aMin2, aMax2, aFold, aFoldL, bnd, aSlStr, aSlS, fillL, newO, kill, aStore, putL, getO, cellsOf, Sym.elems, Sym.elemsS, aApp, aCpy, aClr, Sym.reps, aCall, aCallQ, finishCall, Sym.refs, Sym.refs1, Sym.refs0, okv, ok1, Sym.atom, flat0, dedup, Sym.reach, Sym.pos, Sym.sub, renO, Sym.ren, Sym.ren1, Sym.ren0, gmap, mergeOld, mergeNew, mergeO, allFresh, Sym.det, Sym.det0, Sym.canon, keepEnv, aRes, Sym.one, frzM, frz1, frz0, frzL, args0, dead0, lh_some, aCallM, if_true, if_false, ite_true, ite_false, reduceIte, reduceCtorEq, Nat.reduceEqDiff, ne_eq, Nat.reduceAdd, Nat.reduceSub, Nat.reduceMul, Nat.reduceLT, Nat.reduceLeDiff, Nat.reduceBEq, Nat.reduceBNe, Nat.reduceGT, Int.reduceEq, Int.reduceLT, Int.reduceLE, Int.reduceToNat, Int.reduceAdd, Int.reduceSub, Int.reduceMul, Int.reduceNeg, Int.reduceBEq, Int.reduceBNe, b_bus_Bus_Cut, Bs.ob, h, c, q, true_or]
      · by_cases q2 : ((b.get i).b.size : Int) ≤ n
        · simp -implicitDefEqProofs only [eqs, Sym.wants, Sym.get, Sym.ev, Sym.evs, Sym.evO, Sym.evP, Sym.put, Sym.lev, Sym.aq, Sym.ae, aBin, aInt, isShift, aEqB, aEqP, aEqS, leavesEq, leafEq, aUn, Sym.rd, aLoad, aField, aFad, aNilck, asI, aIxS, aIxA, aIxV, aExt, aPick, aCvi, aCvs, aLen, aLenS, aMin2, aMax2, aFold, aFoldL, bnd, aSlStr, aSlS, fillL, newO, kill, aStore, putL, getO, cellsOf, Sym.elems, Sym.elemsS, aApp, aCpy, aClr, Sym.reps, aCall, aCallQ, finishCall, Sym.refs, Sym.refs1, Sym.refs0, okv, ok1, Sym.atom, flat0, dedup, Sym.reach, Sym.pos, Sym.sub, renO, Sym.ren, Sym.ren1, Sym.ren0, gmap, mergeOld, mergeNew, mergeO, allFresh, Sym.det, Sym.det0, Sym.canon, keepEnv, aRes, Sym.one, frzM, frz1, frz0, frzL, args0, dead0, lh_some, aCallM, if_true, if_false, ite_true, ite_false, reduceIte, reduceCtorEq, Nat.reduceEqDiff, ne_eq, Nat.reduceAdd, Nat.reduceSub, Nat.reduceMul, Nat.reduceLT, Nat.reduceLeDiff, Nat.reduceBEq, Nat.reduceBNe, Nat.reduceGT, Int.reduceEq, Int.reduceLT, Int.reduceLE, Int.reduceToNat, Int.reduceAdd, Int.reduceSub, Int.reduceMul, Int.reduceNeg, Int.reduceBEq, Int.reduceBNe, b_bus_Bus_Cut, Bs.ob, h, c, q, q2, or_true, g3, g4]
        · have hh := hurt_a (k + 9) b.all i.toNat (b.get i) g1 ((b.get i).b.extract 0 ((b.get i).b.size - n).toNat)
          rw [← set_all b (by have := (there_iff b i).1 c; omega)] at hh
          have hl := set_len b i.toNat ((b.get i).hit ((b.get i).b.extract 0 ((b.get i).b.size - n).toNat))
          have hf : (b.set i.toNat ((b.get i).hit ((b.get i).b.extract 0 ((b.get i).b.size - n).toNat))).fault = b.fault := rfl
          have e1 : IntKind.i64.wrap (((b.get i).b.size : Int) - n) = (b.get i).b.size - n := w64 (by omega) (by omega)
          have e2 : (0 : Int) ≤ ((b.get i).b.size : Int) - n := by omega
          have e3 : (((b.get i).b.size : Int) - n).toNat ≤ (b.get i).b.size := by omega
          simp -implicitDefEqProofs only [eqs, Sym.wants, Sym.get, Sym.ev, Sym.evs, Sym.evO, Sym.evP, Sym.put, Sym.lev, Sym.aq, Sym.ae, aBin, aInt, isShift, aEqB, aEqP, aEqS, leavesEq, leafEq, aUn, Sym.rd, aLoad, aField, aFad, aNilck, asI, aIxS, aIxA, aIxV, aExt, aPick, aCvi, aCvs, aLen, aLenS, aMin2, aMax2, aFold, aFoldL, bnd, aSlStr, aSlS, fillL, newO, kill, aStore, putL, getO, cellsOf, Sym.elems, Sym.elemsS, aApp, aCpy, aClr, Sym.reps, aCall, aCallQ, finishCall, Sym.refs, Sym.refs1, Sym.refs0, okv, ok1, Sym.atom, flat0, dedup, Sym.reach, Sym.pos, Sym.sub, renO, Sym.ren, Sym.ren1, Sym.ren0, gmap, mergeOld, mergeNew, mergeO, allFresh, Sym.det, Sym.det0, Sym.canon, keepEnv, aRes, Sym.one, frzM, frz1, frz0, frzL, args0, dead0, lh_some, aCallM, if_true, if_false, ite_true, ite_false, reduceIte, reduceCtorEq, Nat.reduceEqDiff, ne_eq, Nat.reduceAdd, Nat.reduceSub, Nat.reduceMul, Nat.reduceLT, Nat.reduceLeDiff, Nat.reduceBEq, Nat.reduceBNe, Nat.reduceGT, Int.reduceEq, Int.reduceLT, Int.reduceLE, Int.reduceToNat, Int.reduceAdd, Int.reduceSub, Int.reduceMul, Int.reduceNeg, Int.reduceBEq, Int.reduceBNe, b_bus_Bus_Cut, Bs.ob, h, c, q, q2, or_self, g3, g4, hh, hl, hf, e1, e2, e3]
          done
    · simp only [Bs.ob, c, d, if_true] at h
      simp -implicitDefEqProofs only [eqs, Sym.wants, Sym.get, Sym.ev, Sym.evs, Sym.evO, Sym.evP, Sym.put, Sym.lev, Sym.aq, Sym.ae, aBin, aInt, isShift, aEqB, aEqP, aEqS, leavesEq, leafEq, aUn, Sym.rd, aLoad, aField, aFad, aNilck, asI, aIxS, aIxA, aIxV, aExt, aPick, aCvi, aCvs, aLen, aLenS, aMin2, aMax2, aFold, aFoldL, bnd, aSlStr, aSlS, fillL, newO, kill, aStore, putL, getO, cellsOf, Sym.elems, Sym.elemsS, aApp, aCpy, aClr, Sym.reps, aCall, aCallQ, finishCall, Sym.refs, Sym.refs1, Sym.refs0, okv, ok1, Sym.atom, flat0, dedup, Sym.reach, Sym.pos, Sym.sub, renO, Sym.ren, Sym.ren1, Sym.ren0, gmap, mergeOld, mergeNew, mergeO, allFresh, Sym.det, Sym.det0, Sym.canon, keepEnv, aRes, Sym.one, frzM, frz1, frz0, frzL, args0, dead0, lh_some, aCallM, if_true, if_false, ite_true, ite_false, reduceIte, reduceCtorEq, Nat.reduceEqDiff, ne_eq, Nat.reduceAdd, Nat.reduceSub, Nat.reduceMul, Nat.reduceLT, Nat.reduceLeDiff, Nat.reduceBEq, Nat.reduceBNe, Nat.reduceGT, Int.reduceEq, Int.reduceLT, Int.reduceLE, Int.reduceToNat, Int.reduceAdd, Int.reduceSub, Int.reduceMul, Int.reduceNeg, Int.reduceBEq, Int.reduceBNe, b_bus_Bus_Cut, Bs.ob, h, c]
def Bs.twice (b : Bs) (i : Int) : Int × Bs := if b.there i = true then b.add (b.get i) else (1, b)
theorem twice_b (k : Nat) (b : Bs) (i : Int) : acall T (k + 11) 15 1 [.ptr 0 0, .v (.int .i64 i)] (b.ob false) = some ⟨.v (.int .i64 (b.twice i).1), (b.twice i).2.ob false, 2⟩ := by
  rw [acall_go (body := b_bus_Bus_Twice) rfl rfl (by show 1 ≤ 2; decide)]
  have h := at_a (k + 8) b i
  unfold Bs.twice
  simp only [Bs.ptr, Bs.ob] at h ⊢
  cases c : b.there i
  · simp only [c, Bool.false_eq_true, if_false] at h
    simp -implicitDefEqProofs only [eqs, Sym.wants, Sym.get, Sym.ev, Sym.evs, Sym.evO, Sym.evP, Sym.put, Sym.lev, Sym.aq, Sym.ae, aBin, aInt, isShift, aEqB, aEqP, aEqS, leavesEq, leafEq, aUn, Sym.rd, aLoad, aField, aFad, aNilck, asI, aIxS, aIxA, aIxV, aExt, aPick, aCvi, aCvs, aLen, aLenS, aMin2, aMax2, aFold, aFoldL, bnd, aSlStr, aSlS, fillL, newO, kill, aStore, putL, getO, cellsOf, Sym.elems, Sym.elemsS, aApp, aCpy, aClr, Sym.reps, aCall, aCallQ, finishCall, Sym.refs, Sym.refs1, Sym.refs0, okv, ok1, Sym.atom, flat0, dedup, Sym.reach, Sym.pos, Sym.sub, renO, Sym.ren, Sym.ren1, Sym.ren0, gmap, mergeOld, mergeNew, mergeO, allFresh, Sym.det, Sym.det0, Sym.canon, keepEnv, aRes, Sym.one, frzM, frz1, frz0, frzL, args0, dead0, lh_some, aCallM, if_true, if_false, ite_true, ite_false, reduceIte, reduceCtorEq, Nat.reduceEqDiff, ne_eq, Nat.reduceAdd, Nat.reduceSub, Nat.reduceMul, Nat.reduceLT, Nat.reduceLeDiff, Nat.reduceBEq, Nat.reduceBNe, Nat.reduceGT, Int.reduceEq, Int.reduceLT, Int.reduceLE, Int.reduceToNat, Int.reduceAdd, Int.reduceSub, Int.reduceMul, Int.reduceNeg, Int.reduceBEq, Int.reduceBNe, b_bus_Bus_Twice, h]
  · obtain ⟨g1, g2⟩ := get_at b c
    obtain ⟨g3, _⟩ := cells_at g1
    have g4 : i.toNat * 4 + 4 ≤ (pcs b.all).length := by rw [pcs_len]; omega
    have ha := add_b (k + 9) b (b.get i)
    generalize b.get i = p at *
    simp only [c, if_true] at h
    simp only [Bs.ob, Pc.c] at g3 ha
    simp -implicitDefEqProofs only [eqs, Sym.wants, Sym.get, Sym.ev, Sym.evs, Sym.evO, Sym.evP, Sym.put, Sym.lev, Sym.aq, Sym.ae, aBin, aInt, isShift, aEqB, aEqP, aEqS, leavesEq, leafEq, aUn, Sym.rd, aLoad, aField, aFad, aNilck, asI, aIxS, aIxA, aIxV, aExt, aPick, aCvi, aCvs, aLen, aLenS, aMin2, aMax2, aFold, aFoldL, bnd, aSlStr, aSlS, fillL, newO, kill, aStore, putL, getO, cellsOf, Sym.elems, Sym.elemsS, aApp, aCpy, aClr, Sym.reps, aCall, aCallQ, finishCall, Sym.refs, Sym.refs1, Sym.refs0, okv, ok1, Sym.atom, flat0, dedup, Sym.reach, Sym.pos, Sym.sub, renO, Sym.ren, Sym.ren1, Sym.ren0, gmap, mergeOld, mergeNew, mergeO, allFresh, Sym.det, Sym.det0, Sym.canon, keepEnv, aRes, Sym.one, frzM, frz1, frz0, frzL, args0, dead0, lh_some, aCallM, if_true, if_false, ite_true, ite_false, reduceIte, reduceCtorEq, Nat.reduceEqDiff, ne_eq, Nat.reduceAdd, Nat.reduceSub, Nat.reduceMul, Nat.reduceLT, Nat.reduceLeDiff, Nat.reduceBEq, Nat.reduceBNe, Nat.reduceGT, Int.reduceEq, Int.reduceLT, Int.reduceLE, Int.reduceToNat, Int.reduceAdd, Int.reduceSub, Int.reduceMul, Int.reduceNeg, Int.reduceBEq, Int.reduceBNe, b_bus_Bus_Twice, h, g3, g4, ha]
def Pc.less (p : Pc) (to : Int) : Pc := { p with to := wo p.to to }
def Bs.deliver (b : Bs) (i to : Int) : (ByteArray × Int) × Bs := if b.there i = true ∧ ha (b.get i).to to = true then (((b.get i).b, 0), if (wo (b.get i).to to == 0) = true then (b.set i.toNat ((b.get i).less to)).del i.toNat else b.set i.toNat ((b.get i).less to)) else ((ByteArray.empty, 1), b)
theorem deliver_b (k : Nat) (b : Bs) (hb : b.In) (i to : Int) : acall T (k + 11) 21 1 [.ptr 0 0, .v (.int .i64 i), .v (.int .i64 to)] (b.ob false) = some ⟨.tup [.v (.string (b.deliver i to).1.1), .v (.int .i64 (b.deliver i to).1.2)], (b.deliver i to).2.ob false, 2⟩ := by
  rw [acall_go (body := b_bus_Bus_Deliver) rfl rfl (by show 1 ≤ 2; decide)]
  have h := at_a (k + 8) b i
  unfold Bs.deliver
  simp only [Bs.ptr, Bs.ob] at h ⊢
  cases c : b.there i
  · simp only [c, Bool.false_eq_true, if_false] at h
    simp -implicitDefEqProofs only [eqs, Sym.wants, Sym.get, Sym.ev, Sym.evs, Sym.evO, Sym.evP, Sym.put, Sym.lev, Sym.aq, Sym.ae, aBin, aInt, isShift, aEqB, aEqP, aEqS, leavesEq, leafEq, aUn, Sym.rd, aLoad, aField, aFad, aNilck, asI, aIxS, aIxA, aIxV, aExt, aPick, aCvi, aCvs, aLen, aLenS, aMin2, aMax2, aFold, aFoldL, bnd, aSlStr, aSlS, fillL, newO, kill, aStore, putL, getO, cellsOf, Sym.elems, Sym.elemsS, aApp, aCpy, aClr, Sym.reps, aCall, aCallQ, finishCall, Sym.refs, Sym.refs1, Sym.refs0, okv, ok1, Sym.atom, flat0, dedup, Sym.reach, Sym.pos, Sym.sub, renO, Sym.ren, Sym.ren1, Sym.ren0, gmap, mergeOld, mergeNew, mergeO, allFresh, Sym.det, Sym.det0, Sym.canon, keepEnv, aRes, Sym.one, frzM, frz1, frz0, frzL, args0, dead0, lh_some, aCallM, if_true, if_false, ite_true, ite_false, reduceIte, reduceCtorEq, Nat.reduceEqDiff, ne_eq, Nat.reduceAdd, Nat.reduceSub, Nat.reduceMul, Nat.reduceLT, Nat.reduceLeDiff, Nat.reduceBEq, Nat.reduceBNe, Nat.reduceGT, Int.reduceEq, Int.reduceLT, Int.reduceLE, Int.reduceToNat, Int.reduceAdd, Int.reduceSub, Int.reduceMul, Int.reduceNeg, Int.reduceBEq, Int.reduceBNe, b_bus_Bus_Deliver, h]
  · obtain ⟨g1, g2⟩ := get_at b c
    obtain ⟨c1, c2⟩ := (there_iff b i).1 c
    obtain ⟨_, g3, g3', _⟩ := cells_at g1
    have g4 : i.toNat * 4 + 4 ≤ (pcs b.all).length := by rw [pcs_len]; omega
    have hh := has_a (k + 7) (b.get i).to to
    have hw := without_a (k + 7) (b.get i).to to
    simp only [c, if_true] at h
    cases d : ha (b.get i).to to
    · simp only [d] at hh
      simp -implicitDefEqProofs only [eqs, Sym.wants, Sym.get, Sym.ev, Sym.evs, Sym.evO, Sym.evP, Sym.put, Sym.lev, Sym.aq, Sym.ae, aBin, aInt, isShift, aEqB, aEqP, aEqS, leavesEq, leafEq, aUn, Sym.rd, aLoad, aField, aFad, aNilck, asI, aIxS, aIxA, aIxV, aExt, aPick, aCvi, aCvs, aLen, aLenS, aMin2, aMax2, aFold, aFoldL, bnd, aSlStr, aSlS, fillL, newO, kill, aStore, putL, getO, cellsOf, Sym.elems, Sym.elemsS, aApp, aCpy, aClr, Sym.reps, aCall, aCallQ, finishCall, Sym.refs, Sym.refs1, Sym.refs0, okv, ok1, Sym.atom, flat0, dedup, Sym.reach, Sym.pos, Sym.sub, renO, Sym.ren, Sym.ren1, Sym.ren0, gmap, mergeOld, mergeNew, mergeO, allFresh, Sym.det, Sym.det0, Sym.canon, keepEnv, aRes, Sym.one, frzM, frz1, frz0, frzL, args0, dead0, lh_some, aCallM, if_true, if_false, ite_true, ite_false, reduceIte, reduceCtorEq, Nat.reduceEqDiff, ne_eq, Nat.reduceAdd, Nat.reduceSub, Nat.reduceMul, Nat.reduceLT, Nat.reduceLeDiff, Nat.reduceBEq, Nat.reduceBNe, Nat.reduceGT, Int.reduceEq, Int.reduceLT, Int.reduceLE, Int.reduceToNat, Int.reduceAdd, Int.reduceSub, Int.reduceMul, Int.reduceNeg, Int.reduceBEq, Int.reduceBNe, b_bus_Bus_Deliver, h, g3', g4, hh]
    · simp only [d] at hh
      have e1 := pcs_set (j := 2) (a := .v (.int .u32 (wo (b.get i).to to))) (q := (b.get i).less to) g1 (by decide) rfl
      rw [← set_all b (by omega)] at e1
      have e2 : i.toNat * 4 + 2 + 1 ≤ b.all.length * 4 := by omega
      have hsl := set_len b i.toNat ((b.get i).less to)
      have hsf : (b.set i.toNat ((b.get i).less to)).fault = b.fault := rfl
      have hst : (b.set i.toNat ((b.get i).less to)).there i = true := by rw [there_iff, hsl]; exact ⟨c1, c2⟩
      have hsg : (b.set i.toNat ((b.get i).less to)).all[i.toNat]? = some ((b.get i).less to) := by
        rw [set_all b (by omega), List.getElem?_set_self g2]
      obtain ⟨_, _, g5, _⟩ := cells_at hsg
      have hdr := drop_a (k + 6) (b.set i.toNat ((b.get i).less to)) i (by rw [hsl]; have := hb.1; omega)
      unfold Bs.drop at hdr
      rw [if_pos hst] at hdr
      have hto : ((b.get i).less to).to = wo (b.get i).to to := rfl
      rw [hto] at g5
      simp only [Bs.ob, hsl, hsf] at hdr
      have g6 : i.toNat * 4 + 2 < (pcs (b.set i.toNat ((b.get i).less to)).all).length := by rw [pcs_len, all_len, hsl]; rw [all_len] at g2; show i.toNat * 4 + 2 < (b.l.length + b.z) * 4; omega
      generalize b.set i.toNat ((b.get i).less to) = b1 at *
      cases d2 : (wo (b.get i).to to == 0)
      · simp -implicitDefEqProofs only [eqs, Sym.wants, Sym.get, Sym.ev, Sym.evs, Sym.evO, Sym.evP, Sym.put, Sym.lev, Sym.aq, Sym.ae, aBin, aInt, isShift, aEqB, aEqP, aEqS, leavesEq, leafEq, aUn, Sym.rd, aLoad, aField, aFad, aNilck, asI, aIxS, aIxA, aIxV, aExt, aPick, aCvi, aCvs, aLen, aLenS, aMin2, aMax2, aFold, aFoldL, bnd, aSlStr, aSlS, fillL, newO, kill, aStore, putL, getO, cellsOf, Sym.elems, Sym.elemsS, aApp, aCpy, aClr, Sym.reps, aCall, aCallQ, finishCall, Sym.refs, Sym.refs1, Sym.refs0, okv, ok1, Sym.atom, flat0, dedup, Sym.reach, Sym.pos, Sym.sub, renO, Sym.ren, Sym.ren1, Sym.ren0, gmap, mergeOld, mergeNew, mergeO, allFresh, Sym.det, Sym.det0, Sym.canon, keepEnv, aRes, Sym.one, frzM, frz1, frz0, frzL, args0, dead0, lh_some, aCallM, if_true, if_false, ite_true, ite_false, reduceIte, reduceCtorEq, Nat.reduceEqDiff, ne_eq, Nat.reduceAdd, Nat.reduceSub, Nat.reduceMul, Nat.reduceLT, Nat.reduceLeDiff, Nat.reduceBEq, Nat.reduceBNe, Nat.reduceGT, Int.reduceEq, Int.reduceLT, Int.reduceLE, Int.reduceToNat, Int.reduceAdd, Int.reduceSub, Int.reduceMul, Int.reduceNeg, Int.reduceBEq, Int.reduceBNe, b_bus_Bus_Deliver, h, g3, g3', g4, hh, hw, e1, e2, g5, d2, pcs_len, hsl, hsf]
        done
      · simp -implicitDefEqProofs only [eqs, Sym.wants, Sym.get, Sym.ev, Sym.evs, Sym.evO, Sym.evP, Sym.put, Sym.lev, Sym.aq, Sym.ae, aBin, aInt, isShift, aEqB, aEqP, aEqS, leavesEq, leafEq, aUn, Sym.rd, aLoad, aField, aFad, aNilck, asI, aIxS, aIxA, aIxV, aExt, aPick, aCvi, aCvs, aLen, aLenS, aMin2, aMax2, aFold, aFoldL, bnd, aSlStr, aSlS, fillL, newO, kill, aStore, putL, getO, cellsOf, Sym.elems, Sym.elemsS, aApp, aCpy, aClr, Sym.reps, aCall, aCallQ, finishCall, Sym.refs, Sym.refs1, Sym.refs0, okv, ok1, Sym.atom, flat0, dedup, Sym.reach, Sym.pos, Sym.sub, renO, Sym.ren, Sym.ren1, Sym.ren0, gmap, mergeOld, mergeNew, mergeO, allFresh, Sym.det, Sym.det0, Sym.canon, keepEnv, aRes, Sym.one, frzM, frz1, frz0, frzL, args0, dead0, lh_some, aCallM, if_true, if_false, ite_true, ite_false, reduceIte, reduceCtorEq, Nat.reduceEqDiff, ne_eq, Nat.reduceAdd, Nat.reduceSub, Nat.reduceMul, Nat.reduceLT, Nat.reduceLeDiff, Nat.reduceBEq, Nat.reduceBNe, Nat.reduceGT, Int.reduceEq, Int.reduceLT, Int.reduceLE, Int.reduceToNat, Int.reduceAdd, Int.reduceSub, Int.reduceMul, Int.reduceNeg, Int.reduceBEq, Int.reduceBNe, b_bus_Bus_Deliver, h, g3, g3', g4, hh, hw, e1, e2, g5, d2, hdr, pcs_len, hsl, hsf]
        done
theorem lose_b (k : Nat) (b : Bs) (hb : b.In) (i to : Int) : acall T (k + 12) 29 1 [.ptr 0 0, .v (.int .i64 i), .v (.int .i64 to)] (b.ob false) = some ⟨.v (.int .i64 (b.deliver i to).1.2), (b.deliver i to).2.ob false, 2⟩ := by
  rw [acall_go (body := b_bus_Bus_Lose) rfl rfl (by show 1 ≤ 2; decide)]
  have h := deliver_b k b hb i to
  generalize b.deliver i to = r at *
  simp only [Bs.ob] at h ⊢
  simp -implicitDefEqProofs only [eqs, Sym.wants, Sym.get, Sym.ev, Sym.evs, Sym.evO, Sym.evP, Sym.put, Sym.lev, Sym.aq, Sym.ae, aBin, aInt, isShift, aEqB, aEqP, aEqS, leavesEq, leafEq, aUn, Sym.rd, aLoad, aField, aFad, aNilck, asI, aIxS, aIxA, aIxV, aExt, aPick, aCvi, aCvs, aLen, aLenS, aMin2, aMax2, aFold, aFoldL, bnd, aSlStr, aSlS, fillL, newO, kill, aStore, putL, getO, cellsOf, Sym.elems, Sym.elemsS, aApp, aCpy, aClr, Sym.reps, aCall, aCallQ, finishCall, Sym.refs, Sym.refs1, Sym.refs0, okv, ok1, Sym.atom, flat0, dedup, Sym.reach, Sym.pos, Sym.sub, renO, Sym.ren, Sym.ren1, Sym.ren0, gmap, mergeOld, mergeNew, mergeO, allFresh, Sym.det, Sym.det0, Sym.canon, keepEnv, aRes, Sym.one, frzM, frz1, frz0, frzL, args0, dead0, lh_some, aCallM, if_true, if_false, ite_true, ite_false, reduceIte, reduceCtorEq, Nat.reduceEqDiff, ne_eq, Nat.reduceAdd, Nat.reduceSub, Nat.reduceMul, Nat.reduceLT, Nat.reduceLeDiff, Nat.reduceBEq, Nat.reduceBNe, Nat.reduceGT, Int.reduceEq, Int.reduceLT, Int.reduceLE, Int.reduceToNat, Int.reduceAdd, Int.reduceSub, Int.reduceMul, Int.reduceNeg, Int.reduceBEq, Int.reduceBNe, b_bus_Bus_Lose, h]
end Go.Proofs.Ythmmgpdniijkeaa.Bus
