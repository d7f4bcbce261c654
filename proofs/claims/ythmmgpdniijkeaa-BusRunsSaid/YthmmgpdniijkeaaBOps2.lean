/- Package bus: what is done to a piece. -/
import Derived.Test.YthmmgpdniijkeaaBOps
namespace Go.Proofs.Ythmmgpdniijkeaa.Bus
open Go Go.Proofs.Ythmmgpdniijkeaa.Sym Go.Proofs.Ythmmgpdniijkeaa.Tab
set_option linter.unusedVariables false
set_option linter.unusedSimpArgs false
set_option maxHeartbeats 4000000
set_option maxRecDepth 20000
def Bs.set (b : Bs) (k : Nat) (q : Pc) : Bs := ⟨b.l.set k q, b.z, b.fault⟩
theorem set_all (b : Bs) {k : Nat} (h : k < b.l.length) (q : Pc) : (b.set k q).all = b.all.set k q := by
  unfold Bs.all Bs.set
  simp only
  rw [List.set_append_left _ _ h]
theorem set_len (b : Bs) (k : Nat) (q : Pc) : (b.set k q).l.length = b.l.length := by
  unfold Bs.set
  exact List.length_set
def Bs.get (b : Bs) (i : Int) : Pc := b.l.getD i.toNat zp
theorem get_at (b : Bs) {i : Int} (h : b.there i = true) : b.all[i.toNat]? = some (b.get i) ∧ i.toNat < b.all.length := by
  obtain ⟨h1, h2⟩ := (there_iff b i).1 h
  have hl : i.toNat < b.l.length := by omega
  refine ⟨?_, by rw [all_len]; omega⟩
  rw [all_at b hl]
  unfold Bs.get
  rw [List.getD_eq_getElem?_getD, List.getElem?_eq_getElem hl]
  rfl
theorem cells_at {l : List Pc} {k : Nat} {p : Pc} (h : l[k]? = some p) : ((pcs l).drop (k * 4)).take 4 = p.c ∧ (pcs l)[k * 4]? = some (.v (.string p.b)) ∧ (pcs l)[k * 4 + 2]? = some (.v (.int .u32 p.to)) ∧ (pcs l)[k * 4 + 3]? = some (.v (.bool p.hurt)) := by
  obtain ⟨h1, rfl⟩ := List.getElem?_eq_some_iff.1 h
  exact ⟨pcs_at h1, pcs_cell h1 0 (by decide), pcs_cell h1 2 (by decide), pcs_cell h1 3 (by decide)⟩
def Bs.piece (b : Bs) (i : Int) : AV := if b.there i = true then .tup [.agg (b.get i).c, .v (.bool true)] else .tup [.agg zp.c, .v (.bool false)]
theorem piece_a (k : Nat) (b : Bs) (i : Int) : acall T (k + 3) 14 1 [.ptr 0 0, .v (.int .i64 i)] (b.ob false) = some ⟨b.piece i, b.ob false, 1⟩ := by
  rw [acall_go (body := b_bus_Bus_Piece) rfl rfl (by show 1 ≤ 2; decide)]
  have h := at_a k b i
  unfold Bs.piece
  simp only [Bs.ptr, Bs.ob] at h ⊢
  cases c : b.there i
  · simp only [c, Bool.false_eq_true, if_false] at h
    simp -implicitDefEqProofs only [eqs, Sym.wants, Sym.get, Sym.ev, Sym.evs, Sym.evO, Sym.evP, Sym.put, Sym.lev, Sym.aq, Sym.ae, aBin, aInt, isShift, aEqB, aEqP, aEqS, leavesEq, leafEq, aUn, Sym.rd, aLoad, aField, aFad, aNilck, asI, aIxS, aIxA, aIxV, aExt, aPick, aCvi, aCvs, aLen, aLenS, aMin2, aMax2, aFold, aFoldL, bnd, aSlStr, aSlS, fillL, newO, kill, aStore, putL, getO, cellsOf, Sym.elems, Sym.elemsS, aApp, aCpy, aClr, Sym.reps, aCall, aCallQ, finishCall, Sym.refs, Sym.refs1, Sym.refs0, okv, ok1, Sym.atom, flat0, dedup, Sym.reach, Sym.pos, Sym.sub, renO, Sym.ren, Sym.ren1, Sym.ren0, gmap, mergeOld, mergeNew, mergeO, allFresh, Sym.det, Sym.det0, Sym.canon, keepEnv, aRes, Sym.one, frzM, frz1, frz0, frzL, args0, dead0, lh_some, aCallM, if_true, if_false, ite_true, ite_false, reduceIte, reduceCtorEq, Nat.reduceEqDiff, ne_eq, Nat.reduceAdd, Nat.reduceSub, Nat.reduceMul, Nat.reduceLT, Nat.reduceLeDiff, Nat.reduceBEq, Nat.reduceBNe, Nat.reduceGT, Int.reduceEq, Int.reduceLT, Int.reduceLE, Int.reduceToNat, Int.reduceAdd, Int.reduceSub, Int.reduceMul, Int.reduceNeg, Int.reduceBEq, Int.reduceBNe, b_bus_Bus_Piece, h, zp, Pc.c]
  · obtain ⟨g1, g2⟩ := get_at b c
    obtain ⟨g3, _⟩ := cells_at g1
    have g4 : i.toNat * 4 + 4 ≤ (pcs b.all).length := by rw [pcs_len]; omega
    generalize b.get i = p at *
    simp only [c, if_true] at h
    simp only [Pc.c] at g3
    simp -implicitDefEqProofs only [eqs, Sym.wants, Sym.get, Sym.ev, Sym.evs, Sym.evO, Sym.evP, Sym.put, Sym.lev, Sym.aq, Sym.ae, aBin, aInt, isShift, aEqB, aEqP, aEqS, leavesEq, leafEq, aUn, Sym.rd, aLoad, aField, aFad, aNilck, asI, aIxS, aIxA, aIxV, aExt, aPick, aCvi, aCvs, aLen, aLenS, aMin2, aMax2, aFold, aFoldL, bnd, aSlStr, aSlS, fillL, newO, kill, aStore, putL, getO, cellsOf, Sym.elems, Sym.elemsS, aApp, aCpy, aClr, Sym.reps, aCall, aCallQ, finishCall, Sym.refs, Sym.refs1, Sym.refs0, okv, ok1, Sym.atom, flat0, dedup, Sym.reach, Sym.pos, Sym.sub, renO, Sym.ren, Sym.ren1, Sym.ren0, gmap, mergeOld, mergeNew, mergeO, allFresh, Sym.det, Sym.det0, Sym.canon, keepEnv, aRes, Sym.one, frzM, frz1, frz0, frzL, args0, dead0, lh_some, aCallM, if_true, if_false, ite_true, ite_false, reduceIte, reduceCtorEq, Nat.reduceEqDiff, ne_eq, Nat.reduceAdd, Nat.reduceSub, Nat.reduceMul, Nat.reduceLT, Nat.reduceLeDiff, Nat.reduceBEq, Nat.reduceBNe, Nat.reduceGT, Int.reduceEq, Int.reduceLT, Int.reduceLE, Int.reduceToNat, Int.reduceAdd, Int.reduceSub, Int.reduceMul, Int.reduceNeg, Int.reduceBEq, Int.reduceBNe, b_bus_Bus_Piece, h, g3, g4, Pc.c]
theorem piece_0 (k : Nat) (f : Bool) (i : Int) : acall T (k + 3) 14 1 [.ptr 0 0, .v (.int .i64 i)] (ob0 f false) = some ⟨.tup [.agg zp.c, .v (.bool false)], ob0 f false, 1⟩ := by
  rw [acall_go (body := b_bus_Bus_Piece) rfl rfl (Nat.le_refl 1)]
  have h := at_0 k f i
  simp only [ob0] at h ⊢
  simp -implicitDefEqProofs only [eqs, Sym.wants, Sym.get, Sym.ev, Sym.evs, Sym.evO, Sym.evP, Sym.put, Sym.lev, Sym.aq, Sym.ae, aBin, aInt, isShift, aEqB, aEqP, aEqS, leavesEq, leafEq, aUn, Sym.rd, aLoad, aField, aFad, aNilck, asI, aIxS, aIxA, aIxV, aExt, aPick, aCvi, aCvs, aLen, aLenS, aMin2, aMax2, aFold, aFoldL, bnd, aSlStr, aSlS, fillL, newO, kill, aStore, putL, getO, cellsOf, Sym.elems, Sym.elemsS, aApp, aCpy, aClr, Sym.reps, aCall, aCallQ, finishCall, Sym.refs, Sym.refs1, Sym.refs0, okv, ok1, Sym.atom, flat0, dedup, Sym.reach, Sym.pos, Sym.sub, renO, Sym.ren, Sym.ren1, Sym.ren0, gmap, mergeOld, mergeNew, mergeO, allFresh, Sym.det, Sym.det0, Sym.canon, keepEnv, aRes, Sym.one, frzM, frz1, frz0, frzL, args0, dead0, lh_some, aCallM, if_true, if_false, ite_true, ite_false, reduceIte, reduceCtorEq, Nat.reduceEqDiff, ne_eq, Nat.reduceAdd, Nat.reduceSub, Nat.reduceMul, Nat.reduceLT, Nat.reduceLeDiff, Nat.reduceBEq, Nat.reduceBNe, Nat.reduceGT, Int.reduceEq, Int.reduceLT, Int.reduceLE, Int.reduceToNat, Int.reduceAdd, Int.reduceSub, Int.reduceMul, Int.reduceNeg, Int.reduceBEq, Int.reduceBNe, b_bus_Bus_Piece, h, zp, Pc.c]
/-- A piece that wasn't hurt. -/
def Bs.whole (b : Bs) (i : Int) : AV := if b.there i = true then (if (b.get i).hurt = true then .tup [.v (.pointer none), .v (.int .i64 11)] else .tup [.ptr 1 (i.toNat * 4), .v (.int .i64 0)]) else .tup [.v (.pointer none), .v (.int .i64 1)]
theorem whole_a (k : Nat) (b : Bs) (i : Int) : acall T (k + 3) 26 1 [.ptr 0 0, .v (.int .i64 i)] (b.ob false) = some ⟨b.whole i, b.ob false, if b.there i = true then 1 else 0⟩ := by
  rw [acall_go (body := b_bus_Bus_whole) rfl rfl (by show 1 ≤ 2; decide)]
  have h := at_a k b i
  unfold Bs.whole
  simp only [Bs.ptr, Bs.ob] at h ⊢
  cases c : b.there i
  · simp only [c, Bool.false_eq_true, if_false] at h
    simp -implicitDefEqProofs only [eqs, Sym.wants, Sym.get, Sym.ev, Sym.evs, Sym.evO, Sym.evP, Sym.put, Sym.lev, Sym.aq, Sym.ae, aBin, aInt, isShift, aEqB, aEqP, aEqS, leavesEq, leafEq, aUn, Sym.rd, aLoad, aField, aFad, aNilck, asI, aIxS, aIxA, aIxV, aExt, aPick, aCvi, aCvs, aLen, aLenS, aMin2, aMax2, aFold, aFoldL, bnd, aSlStr, aSlS, fillL, newO, kill, aStore, putL, getO, cellsOf, Sym.elems, Sym.elemsS, aApp, aCpy, aClr, Sym.reps, aCall, aCallQ, finishCall, Sym.refs, Sym.refs1, Sym.refs0, okv, ok1, Sym.atom, flat0, dedup, Sym.reach, Sym.pos, Sym.sub, renO, Sym.ren, Sym.ren1, Sym.ren0, gmap, mergeOld, mergeNew, mergeO, allFresh, Sym.det, Sym.det0, Sym.canon, keepEnv, aRes, Sym.one, frzM, frz1, frz0, frzL, args0, dead0, lh_some, aCallM, if_true, if_false, ite_true, ite_false, reduceIte, reduceCtorEq, Nat.reduceEqDiff, ne_eq, Nat.reduceAdd, Nat.reduceSub, Nat.reduceMul, Nat.reduceLT, Nat.reduceLeDiff, Nat.reduceBEq, Nat.reduceBNe, Nat.reduceGT, Int.reduceEq, Int.reduceLT, Int.reduceLE, Int.reduceToNat, Int.reduceAdd, Int.reduceSub, Int.reduceMul, Int.reduceNeg, Int.reduceBEq, Int.reduceBNe, b_bus_Bus_whole, h]
  · obtain ⟨g1, g2⟩ := get_at b c
    obtain ⟨_, _, _, g3⟩ := cells_at g1
    have g4 : i.toNat * 4 + 4 ≤ (pcs b.all).length := by rw [pcs_len]; omega
    generalize b.get i = p at *
    simp only [c, if_true] at h
    cases d : p.hurt
    · simp -implicitDefEqProofs only [eqs, Sym.wants, Sym.get, Sym.ev, Sym.evs, Sym.evO, Sym.evP, Sym.put, Sym.lev, Sym.aq, Sym.ae, aBin, aInt, isShift, aEqB, aEqP, aEqS, leavesEq, leafEq, aUn, Sym.rd, aLoad, aField, aFad, aNilck, asI, aIxS, aIxA, aIxV, aExt, aPick, aCvi, aCvs, aLen, aLenS, aMin2, aMax2, aFold, aFoldL, bnd, aSlStr, aSlS, fillL, newO, kill, aStore, putL, getO, cellsOf, Sym.elems, Sym.elemsS, aApp, aCpy, aClr, Sym.reps, aCall, aCallQ, finishCall, Sym.refs, Sym.refs1, Sym.refs0, okv, ok1, Sym.atom, flat0, dedup, Sym.reach, Sym.pos, Sym.sub, renO, Sym.ren, Sym.ren1, Sym.ren0, gmap, mergeOld, mergeNew, mergeO, allFresh, Sym.det, Sym.det0, Sym.canon, keepEnv, aRes, Sym.one, frzM, frz1, frz0, frzL, args0, dead0, lh_some, aCallM, if_true, if_false, ite_true, ite_false, reduceIte, reduceCtorEq, Nat.reduceEqDiff, ne_eq, Nat.reduceAdd, Nat.reduceSub, Nat.reduceMul, Nat.reduceLT, Nat.reduceLeDiff, Nat.reduceBEq, Nat.reduceBNe, Nat.reduceGT, Int.reduceEq, Int.reduceLT, Int.reduceLE, Int.reduceToNat, Int.reduceAdd, Int.reduceSub, Int.reduceMul, Int.reduceNeg, Int.reduceBEq, Int.reduceBNe, b_bus_Bus_whole, h, g3, g4, d]
    · simp -implicitDefEqProofs only [eqs, Sym.wants, Sym.get, Sym.ev, Sym.evs, Sym.evO, Sym.evP, Sym.put, Sym.lev, Sym.aq, Sym.ae, aBin, aInt, isShift, aEqB, aEqP, aEqS, leavesEq, leafEq, aUn, Sym.rd, aLoad, aField, aFad, aNilck, asI, aIxS, aIxA, aIxV, aExt, aPick, aCvi, aCvs, aLen, aLenS, aMin2, aMax2, aFold, aFoldL, bnd, aSlStr, aSlS, fillL, newO, kill, aStore, putL, getO, cellsOf, Sym.elems, Sym.elemsS, aApp, aCpy, aClr, Sym.reps, aCall, aCallQ, finishCall, Sym.refs, Sym.refs1, Sym.refs0, okv, ok1, Sym.atom, flat0, dedup, Sym.reach, Sym.pos, Sym.sub, renO, Sym.ren, Sym.ren1, Sym.ren0, gmap, mergeOld, mergeNew, mergeO, allFresh, Sym.det, Sym.det0, Sym.canon, keepEnv, aRes, Sym.one, frzM, frz1, frz0, frzL, args0, dead0, lh_some, aCallM, if_true, if_false, ite_true, ite_false, reduceIte, reduceCtorEq, Nat.reduceEqDiff, ne_eq, Nat.reduceAdd, Nat.reduceSub, Nat.reduceMul, Nat.reduceLT, Nat.reduceLeDiff, Nat.reduceBEq, Nat.reduceBNe, Nat.reduceGT, Int.reduceEq, Int.reduceLT, Int.reduceLE, Int.reduceToNat, Int.reduceAdd, Int.reduceSub, Int.reduceMul, Int.reduceNeg, Int.reduceBEq, Int.reduceBNe, b_bus_Bus_whole, h, g3, g4, d]
theorem whole_0 (k : Nat) (f : Bool) (i : Int) : acall T (k + 3) 26 1 [.ptr 0 0, .v (.int .i64 i)] (ob0 f false) = some ⟨.tup [.v (.pointer none), .v (.int .i64 1)], ob0 f false, 0⟩ := by
  rw [acall_go (body := b_bus_Bus_whole) rfl rfl (Nat.le_refl 1)]
  have h := at_0 k f i
  simp only [ob0] at h ⊢
  simp -implicitDefEqProofs only [eqs, Sym.wants, Sym.get, Sym.ev, Sym.evs, Sym.evO, Sym.evP, Sym.put, Sym.lev, Sym.aq, Sym.ae, aBin, aInt, isShift, aEqB, aEqP, aEqS, leavesEq, leafEq, aUn, Sym.rd, aLoad, aField, aFad, aNilck, asI, aIxS, aIxA, aIxV, aExt, aPick, aCvi, aCvs, aLen, aLenS, aMin2, aMax2, aFold, aFoldL, bnd, aSlStr, aSlS, fillL, newO, kill, aStore, putL, getO, cellsOf, Sym.elems, Sym.elemsS, aApp, aCpy, aClr, Sym.reps, aCall, aCallQ, finishCall, Sym.refs, Sym.refs1, Sym.refs0, okv, ok1, Sym.atom, flat0, dedup, Sym.reach, Sym.pos, Sym.sub, renO, Sym.ren, Sym.ren1, Sym.ren0, gmap, mergeOld, mergeNew, mergeO, allFresh, Sym.det, Sym.det0, Sym.canon, keepEnv, aRes, Sym.one, frzM, frz1, frz0, frzL, args0, dead0, lh_some, aCallM, if_true, if_false, ite_true, ite_false, reduceIte, reduceCtorEq, Nat.reduceEqDiff, ne_eq, Nat.reduceAdd, Nat.reduceSub, Nat.reduceMul, Nat.reduceLT, Nat.reduceLeDiff, Nat.reduceBEq, Nat.reduceBNe, Nat.reduceGT, Int.reduceEq, Int.reduceLT, Int.reduceLE, Int.reduceToNat, Int.reduceAdd, Int.reduceSub, Int.reduceMul, Int.reduceNeg, Int.reduceBEq, Int.reduceBNe, b_bus_Bus_whole, h]
def Pc.hit (p : Pc) (s : ByteArray) : Pc := { p with b := s, hurt := !decide (p.b = s) }
theorem hurt_a (k : Nat) (l : List Pc) (i : Nat) (p : Pc) (hp : l[i]? = some p) (s : ByteArray) : acall T (k + 1) 27 1 [.ptr 0 (i * 4), .v (.string s)] [⟨true, false, true, pcs l⟩] = some ⟨.tup [], [⟨true, false, true, pcs (l.set i (p.hit s))⟩], 2⟩ := by
  rw [acall_go (body := b_bus_hurt) rfl rfl (Nat.le_refl 1)]
  obtain ⟨_, g1, _, g2⟩ := cells_at hp
  have hk := (List.getElem?_eq_some_iff.1 hp).1
  have g4 : i * 4 + 3 + 1 ≤ l.length * 4 := by omega
  have g5 : i * 4 + 4 ≤ l.length * 4 := by omega
  have g6 : i * 4 + 1 ≤ l.length * 4 := by omega
  have e1 := pcs_set (j := 3) (a := .v (.bool (!decide (p.b = s)))) (q := { p with hurt := !decide (p.b = s) }) hp (by decide) rfl
  have hp2 : (l.set i { p with hurt := !decide (p.b = s) })[i]? = some { p with hurt := !decide (p.b = s) } := by rw [List.getElem?_set_self hk]
  have e2 := pcs_set (j := 0) (a := .v (.string s)) (q := p.hit s) hp2 (by decide) rfl
  rw [List.set_set, Nat.add_zero] at e2
  simp -implicitDefEqProofs only [eqs, Sym.wants, Sym.get, Sym.ev, Sym.evs, Sym.evO, Sym.evP, Sym.put, Sym.lev, Sym.aq, Sym.ae, aBin, aInt, isShift, aEqB, aEqP, aEqS, leavesEq, leafEq, aUn, Sym.rd, aLoad, aField, aFad, aNilck, asI, aIxS, aIxA, aIxV, aExt, aPick, aCvi, aCvs, aLen, aLenS, aMin2, aMax2, aFold, aFoldL, bnd, aSlStr, aSlS, fillL, newO, kill, aStore, putL, getO, cellsOf, Sym.elems, Sym.elemsS, aApp, aCpy, aClr, Sym.reps, aCall, aCallQ, finishCall, Sym.refs, Sym.refs1, Sym.refs0, okv, ok1, Sym.atom, flat0, dedup, Sym.reach, Sym.pos, Sym.sub, renO, Sym.ren, Sym.ren1, Sym.ren0, gmap, mergeOld, mergeNew, mergeO, allFresh, Sym.det, Sym.det0, Sym.canon, keepEnv, aRes, Sym.one, frzM, frz1, frz0, frzL, args0, dead0, lh_some, aCallM, if_true, if_false, ite_true, ite_false, reduceIte, reduceCtorEq, Nat.reduceEqDiff, ne_eq, Nat.reduceAdd, Nat.reduceSub, Nat.reduceMul, Nat.reduceLT, Nat.reduceLeDiff, Nat.reduceBEq, Nat.reduceBNe, Nat.reduceGT, Int.reduceEq, Int.reduceLT, Int.reduceLE, Int.reduceToNat, Int.reduceAdd, Int.reduceSub, Int.reduceMul, Int.reduceNeg, Int.reduceBEq, Int.reduceBNe, b_bus_hurt, g1, g2, g4, g5, g6, e1, e2, pcs_len, List.length_set]
  done
end Go.Proofs.Ythmmgpdniijkeaa.Bus
