/- The reference's sets. -/
import Derived.Test.YthmmgpdniijkeaaBBus
namespace Go.Proofs.Ythmmgpdniijkeaa.Bus
open Go Go.Proofs.Ythmmgpdniijkeaa.Sym Go.Proofs.Ythmmgpdniijkeaa.Tab
set_option linter.unusedVariables false
set_option linter.unusedSimpArgs false
set_option maxHeartbeats 4000000
set_option maxRecDepth 20000
theorem tm2 (q : Nat) : (q : Int).tmod 2 = ((q % 2 : Nat) : Int) := by rw [tmod_nn (by omega)]; omega
theorem td2 (q : Nat) : (q : Int).tdiv 2 = ((q / 2 : Nat) : Int) := by rw [tdiv_nn (by omega)]; omega
def rh (n : Nat) (a : Int) : Bool := decide (0 ≤ a) && decide (a ≤ 31) && n.testBit a.toNat
theorem rhas_loop (C : CT) (lf : Nat) (n : Nat) (hn : n < 4294967296) (a : Nat) (ha : a ≤ 31) : ∀ (m N i : Nat), i + m = a → m ≤ N →
    FnR [.t 4] false false (Lh C lf (some ⟨[(0, .v (.int .u32 ((n / 2 ^ i : Nat) : Int))), (1, .v (.int .i64 a)), (5, .v (.int .i64 i))], [], 0, []⟩) [0, 1, 5] l_fuglemanref05_Has_0 N [.b 0, .c l_fuglemanref05_Has_1]) = some ⟨.v (.bool (n.testBit a)), [], 0⟩
  | m, N, i, hm, hN => by
    rw [lh_as l_fuglemanref05_Has_0.eq_1]
    have hle : n / 2 ^ i ≤ n := Nat.div_le_self _ _
    cases m with
    | zero =>
      obtain rfl : i = a := by omega
      have c : ¬ (i : Int) < i := by omega
      have e1 := tm2 (n / 2 ^ i)
      have e2 : (((n / 2 ^ i % 2 : Nat) : Int) == 1) = n.testBit i := by
        rw [Nat.testBit_eq_decide_div_mod_eq]
        rw [Bool.eq_iff_iff, beq_iff_eq, decide_eq_true_eq]
        generalize n / 2 ^ i = q
        omega
      simp -implicitDefEqProofs only [eqs, Sym.wants, Sym.get, Sym.ev, Sym.evs, Sym.evO, Sym.evP, Sym.put, Sym.lev, Sym.aq, Sym.ae, aBin, aInt, isShift, aEqB, aEqP, aEqS, leavesEq, leafEq, aUn, Sym.rd, aLoad, aField, aFad, aNilck, asI, aIxS, aIxA, aIxV, aExt, aPick, aCvi, aCvs, aLen, aLenS, aMin2, aMax2, aFold, aFoldL, bnd, aSlStr, aSlS, fillL, newO, kill, aStore, putL, getO, cellsOf, Sym.elems, Sym.elemsS, aApp, aCpy, aClr, Sym.reps, aCall, aCallQ, finishCall, Sym.refs, Sym.refs1, Sym.refs0, okv, ok1, Sym.atom, flat0, dedup, Sym.reach, Sym.pos, Sym.sub, renO, Sym.ren, Sym.ren1, Sym.ren0, gmap, mergeOld, mergeNew, mergeO, allFresh, Sym.det, Sym.det0, Sym.canon, keepEnv, aRes, Sym.one, frzM, frz1, frz0, frzL, args0, dead0, aCallM, if_true, if_false, ite_true, ite_false, reduceIte, reduceCtorEq, Nat.reduceEqDiff, ne_eq, Nat.reduceAdd, Nat.reduceSub, Nat.reduceMul, Nat.reduceLT, Nat.reduceLeDiff, Nat.reduceBEq, Nat.reduceBNe, Nat.reduceGT, Int.reduceEq, Int.reduceLT, Int.reduceLE, Int.reduceToNat, Int.reduceAdd, Int.reduceSub, Int.reduceMul, Int.reduceNeg, Int.reduceBEq, Int.reduceBNe, l_fuglemanref05_Has_1, c, e1, e2]
    | succ m =>
      obtain ⟨N, rfl⟩ : ∃ n', N = n' + 1 := ⟨N - 1, by omega⟩
      have c : (i : Int) < a := by omega
      have e1 : ((n / 2 ^ i : Nat) : Int).tdiv 2 = ((n / 2 ^ (i + 1) : Nat) : Int) := by
        rw [td2, Nat.pow_succ, ← Nat.div_div_eq_div_mul]
      have hle2 : n / 2 ^ (i + 1) ≤ n := Nat.div_le_self _ _
      have e2 : IntKind.u32.wrap ((n / 2 ^ (i + 1) : Nat) : Int) = ((n / 2 ^ (i + 1) : Nat) : Int) := by
        generalize n / 2 ^ (i + 1) = q at hle2
        exact wu32 (by omega) (by omega)
      have w5 : IntKind.i64.wrap ((i : Int) + 1) = i + 1 := w64 (by omega) (by omega)
      have ih := rhas_loop C lf n hn a ha m N (i + 1) (by omega) (by omega)
      rw [Int.natCast_add, Int.natCast_one] at ih
      simp -implicitDefEqProofs only [eqs, Sym.wants, Sym.get, Sym.ev, Sym.evs, Sym.evO, Sym.evP, Sym.put, Sym.lev, Sym.aq, Sym.ae, aBin, aInt, isShift, aEqB, aEqP, aEqS, leavesEq, leafEq, aUn, Sym.rd, aLoad, aField, aFad, aNilck, asI, aIxS, aIxA, aIxV, aExt, aPick, aCvi, aCvs, aLen, aLenS, aMin2, aMax2, aFold, aFoldL, bnd, aSlStr, aSlS, fillL, newO, kill, aStore, putL, getO, cellsOf, Sym.elems, Sym.elemsS, aApp, aCpy, aClr, Sym.reps, aCall, aCallQ, finishCall, Sym.refs, Sym.refs1, Sym.refs0, okv, ok1, Sym.atom, flat0, dedup, Sym.reach, Sym.pos, Sym.sub, renO, Sym.ren, Sym.ren1, Sym.ren0, gmap, mergeOld, mergeNew, mergeO, allFresh, Sym.det, Sym.det0, Sym.canon, keepEnv, aRes, Sym.one, frzM, frz1, frz0, frzL, args0, dead0, aCallM, if_true, if_false, ite_true, ite_false, reduceIte, reduceCtorEq, Nat.reduceEqDiff, ne_eq, Nat.reduceAdd, Nat.reduceSub, Nat.reduceMul, Nat.reduceLT, Nat.reduceLeDiff, Nat.reduceBEq, Nat.reduceBNe, Nat.reduceGT, Int.reduceEq, Int.reduceLT, Int.reduceLE, Int.reduceToNat, Int.reduceAdd, Int.reduceSub, Int.reduceMul, Int.reduceNeg, Int.reduceBEq, Int.reduceBNe, c, e1, e2, w5, ih]
theorem rhas_a (k : Nat) (n : Nat) (hn : n < 4294967296) (a : Int) : acall T (k + 40) 42 0 [.v (.int .u32 n), .v (.int .i64 a)] [] = some ⟨.v (.bool (rh n a)), [], 0⟩ := by
  rw [acall_go (body := b_fuglemanref05_Has) rfl rfl (Nat.zero_le _)]
  unfold rh
  by_cases c1 : a < 0
  · have c1' : ¬ 0 ≤ a := by omega
    simp -implicitDefEqProofs only [eqs, Sym.wants, Sym.get, Sym.ev, Sym.evs, Sym.evO, Sym.evP, Sym.put, Sym.lev, Sym.aq, Sym.ae, aBin, aInt, isShift, aEqB, aEqP, aEqS, leavesEq, leafEq, aUn, Sym.rd, aLoad, aField, aFad, aNilck, asI, aIxS, aIxA, aIxV, aExt, aPick, aCvi, aCvs, aLen, aLenS, aMin2, aMax2, aFold, aFoldL, bnd, aSlStr, aSlS, fillL, newO, kill, aStore, putL, getO, cellsOf, Sym.elems, Sym.elemsS, aApp, aCpy, aClr, Sym.reps, aCall, aCallQ, finishCall, Sym.refs, Sym.refs1, Sym.refs0, okv, ok1, Sym.atom, flat0, dedup, Sym.reach, Sym.pos, Sym.sub, renO, Sym.ren, Sym.ren1, Sym.ren0, gmap, mergeOld, mergeNew, mergeO, allFresh, Sym.det, Sym.det0, Sym.canon, keepEnv, aRes, Sym.one, frzM, frz1, frz0, frzL, args0, dead0, aCallM, if_true, if_false, ite_true, ite_false, reduceIte, reduceCtorEq, Nat.reduceEqDiff, ne_eq, Nat.reduceAdd, Nat.reduceSub, Nat.reduceMul, Nat.reduceLT, Nat.reduceLeDiff, Nat.reduceBEq, Nat.reduceBNe, Nat.reduceGT, Int.reduceEq, Int.reduceLT, Int.reduceLE, Int.reduceToNat, Int.reduceAdd, Int.reduceSub, Int.reduceMul, Int.reduceNeg, Int.reduceBEq, Int.reduceBNe, b_fuglemanref05_Has, c1, c1']
  · have c1' : 0 ≤ a := by omega
    by_cases c2 : 31 < a
    · have c2' : ¬ a ≤ 31 := by omega
      simp -implicitDefEqProofs only [eqs, Sym.wants, Sym.get, Sym.ev, Sym.evs, Sym.evO, Sym.evP, Sym.put, Sym.lev, Sym.aq, Sym.ae, aBin, aInt, isShift, aEqB, aEqP, aEqS, leavesEq, leafEq, aUn, Sym.rd, aLoad, aField, aFad, aNilck, asI, aIxS, aIxA, aIxV, aExt, aPick, aCvi, aCvs, aLen, aLenS, aMin2, aMax2, aFold, aFoldL, bnd, aSlStr, aSlS, fillL, newO, kill, aStore, putL, getO, cellsOf, Sym.elems, Sym.elemsS, aApp, aCpy, aClr, Sym.reps, aCall, aCallQ, finishCall, Sym.refs, Sym.refs1, Sym.refs0, okv, ok1, Sym.atom, flat0, dedup, Sym.reach, Sym.pos, Sym.sub, renO, Sym.ren, Sym.ren1, Sym.ren0, gmap, mergeOld, mergeNew, mergeO, allFresh, Sym.det, Sym.det0, Sym.canon, keepEnv, aRes, Sym.one, frzM, frz1, frz0, frzL, args0, dead0, aCallM, if_true, if_false, ite_true, ite_false, reduceIte, reduceCtorEq, Nat.reduceEqDiff, ne_eq, Nat.reduceAdd, Nat.reduceSub, Nat.reduceMul, Nat.reduceLT, Nat.reduceLeDiff, Nat.reduceBEq, Nat.reduceBNe, Nat.reduceGT, Int.reduceEq, Int.reduceLT, Int.reduceLE, Int.reduceToNat, Int.reduceAdd, Int.reduceSub, Int.reduceMul, Int.reduceNeg, Int.reduceBEq, Int.reduceBNe, b_fuglemanref05_Has, c1, c1', c2, c2']
    · have c2' : a ≤ 31 := by omega
      obtain ⟨m, rfl⟩ : ∃ m : Nat, a = m := ⟨a.toNat, by omega⟩
      have hl := rhas_loop (acall T (k + 39)) (k + 39) n hn m (by omega) m (k + 38) 0 (by omega) (by omega)
      have lp : ∀ (ks : List It) (st : St), Lp (acall T (k + 39)) (k + 39) [0, 1, 5] l_fuglemanref05_Has_0 (k + 39) ks st = Lh (acall T (k + 39)) (k + 39) (canon [0, 1, 5] st) [0, 1, 5] l_fuglemanref05_Has_0 (k + 38) ks := fun ks st => lp_succ (n := k + 38)
      rw [Nat.pow_zero, Nat.div_one, Int.natCast_zero] at hl
      simp -implicitDefEqProofs only [eqs, Sym.wants, Sym.get, Sym.ev, Sym.evs, Sym.evO, Sym.evP, Sym.put, Sym.lev, Sym.aq, Sym.ae, aBin, aInt, isShift, aEqB, aEqP, aEqS, leavesEq, leafEq, aUn, Sym.rd, aLoad, aField, aFad, aNilck, asI, aIxS, aIxA, aIxV, aExt, aPick, aCvi, aCvs, aLen, aLenS, aMin2, aMax2, aFold, aFoldL, bnd, aSlStr, aSlS, fillL, newO, kill, aStore, putL, getO, cellsOf, Sym.elems, Sym.elemsS, aApp, aCpy, aClr, Sym.reps, aCall, aCallQ, finishCall, Sym.refs, Sym.refs1, Sym.refs0, okv, ok1, Sym.atom, flat0, dedup, Sym.reach, Sym.pos, Sym.sub, renO, Sym.ren, Sym.ren1, Sym.ren0, gmap, mergeOld, mergeNew, mergeO, allFresh, Sym.det, Sym.det0, Sym.canon, keepEnv, aRes, Sym.one, frzM, frz1, frz0, frzL, args0, dead0, aCallM, if_true, if_false, ite_true, ite_false, reduceIte, reduceCtorEq, Nat.reduceEqDiff, ne_eq, Nat.reduceAdd, Nat.reduceSub, Nat.reduceMul, Nat.reduceLT, Nat.reduceLeDiff, Nat.reduceBEq, Nat.reduceBNe, Nat.reduceGT, Int.reduceEq, Int.reduceLT, Int.reduceLE, Int.reduceToNat, Int.reduceAdd, Int.reduceSub, Int.reduceMul, Int.reduceNeg, Int.reduceBEq, Int.reduceBNe, b_fuglemanref05_Has, c1, c1', c2, c2', lp, hl]
/-- The bits of a number from a place on. -/
def bitsF (n : Nat) : Nat → Nat → List Nat
  | 0, _ => []
  | m + 1, i => if n.testBit i = true then i :: bitsF n m (i + 1) else bitsF n m (i + 1)
def ints (l : List Nat) : List AV := l.map fun x : Nat => .v (.int .i64 (x : Int))
theorem ints_len {l : List Nat} : (ints l).length = l.length := List.length_map ..
theorem ints_flat {l : List Nat} : (ints l).all flat0 = true := by simp [ints, flat0]
theorem ints_atom {l : List Nat} : (ints l).all atom = true := by simp [ints, atom]
theorem ints_one {l : List Nat} {x : Nat} : ints (l ++ [x]) = ints l ++ [.v (.int .i64 (x : Int))] := by simp [ints]
theorem ints_take {l : List Nat} : (ints l).take l.length = ints l := by rw [← ints_len, List.take_length]
theorem len_one {l : List Nat} {x : Nat} : (l ++ [x]).length = l.length + 1 := by simp
theorem rlist_loop (k lf : Nat) (n : Nat) (hn : n < 4294967296) : ∀ (m N i : Nat) (l : List Nat), i + m = 32 → m ≤ N → l.length ≤ i → l.length ≠ 0 →
    FnR [.t 2] true false (Lh (acall T (k + 40)) lf (some ⟨[(0, .v (.int .u32 n)), (3, .view 0 0 l.length 1 none), (4, .v (.int .i64 i))], [⟨true, true, true, ints l⟩], 1, []⟩) [0, 3, 4] l_fuglemanref05_List_0 N [.b 0, .c l_fuglemanref05_List_1]) = some ⟨.shr (l ++ bitsF n m i).length false (ints (l ++ bitsF n m i)), [], 1⟩
  | m, N, i, l, hm, hN, hl, hl0 => by
    rw [lh_as l_fuglemanref05_List_0.eq_1]
    cases m with
    | zero =>
      have c : ¬ (i : Int) < 32 := by omega
      have t0 : bitsF n 0 i = [] := rfl
      rw [t0, List.append_nil]
      simp -implicitDefEqProofs only [eqs, Sym.wants, Sym.get, Sym.ev, Sym.evs, Sym.evO, Sym.evP, Sym.put, Sym.lev, Sym.aq, Sym.ae, aBin, aInt, isShift, aEqB, aEqP, aEqS, leavesEq, leafEq, aUn, Sym.rd, aLoad, aField, aFad, aNilck, asI, aIxS, aIxA, aIxV, aExt, aPick, aCvi, aCvs, aLen, aLenS, aMin2, aMax2, aFold, aFoldL, bnd, aSlStr, aSlS, fillL, newO, kill, aStore, putL, getO, cellsOf, Sym.elems, Sym.elemsS, aApp, aCpy, aClr, Sym.reps, aCall, aCallQ, finishCall, Sym.refs, Sym.refs1, Sym.refs0, okv, ok1, Sym.atom, flat0, dedup, Sym.reach, Sym.pos, Sym.sub, renO, Sym.ren, Sym.ren1, Sym.ren0, gmap, mergeOld, mergeNew, mergeO, allFresh, Sym.det, Sym.det0, Sym.canon, keepEnv, aRes, Sym.one, frzM, frz1, frz0, frzL, args0, dead0, aCallM, if_true, if_false, ite_true, ite_false, reduceIte, reduceCtorEq, Nat.reduceEqDiff, ne_eq, Nat.reduceAdd, Nat.reduceSub, Nat.reduceMul, Nat.reduceLT, Nat.reduceLeDiff, Nat.reduceBEq, Nat.reduceBNe, Nat.reduceGT, Int.reduceEq, Int.reduceLT, Int.reduceLE, Int.reduceToNat, Int.reduceAdd, Int.reduceSub, Int.reduceMul, Int.reduceNeg, Int.reduceBEq, Int.reduceBNe, l_fuglemanref05_List_1, c, ints_len, ints_take, ints_flat, ints_atom]
    | succ m =>
      obtain ⟨N, rfl⟩ : ∃ n', N = n' + 1 := ⟨N - 1, by omega⟩
      have c : (i : Int) < 32 := by omega
      have h := rhas_a k n hn i
      have c1 : (0 : Int) ≤ i := by omega
      have c2 : (i : Int) ≤ 31 := by omega
      unfold rh at h
      rw [decide_eq_true c1, decide_eq_true c2, Int.toNat_natCast, Bool.true_and, Bool.true_and] at h
      have w5 : IntKind.i64.wrap ((i : Int) + 1) = i + 1 := w64 (by omega) (by omega)
      have b1 : (l.length + 1) * 8 ≤ 140737488355328 := by omega
      have b2 : l.length ≤ 9223372036854775806 := by omega
      have b3 : ¬ (l.length + 1 ≤ l.length) := by omega
      cases hb : n.testBit i
      · have e : bitsF n (m + 1) i = bitsF n m (i + 1) := by rw [bitsF, if_neg (by rw [hb]; decide)]
        have ih := rlist_loop k lf n hn m N (i + 1) l (by omega) (by omega) (by omega) hl0
        rw [e]
        rw [hb] at h
        rw [Int.natCast_add, Int.natCast_one] at ih
        simp -implicitDefEqProofs only [eqs, Sym.wants, Sym.get, Sym.ev, Sym.evs, Sym.evO, Sym.evP, Sym.put, Sym.lev, Sym.aq, Sym.ae, aBin, aInt, isShift, aEqB, aEqP, aEqS, leavesEq, leafEq, aUn, Sym.rd, aLoad, aField, aFad, aNilck, asI, aIxS, aIxA, aIxV, aExt, aPick, aCvi, aCvs, aLen, aLenS, aMin2, aMax2, aFold, aFoldL, bnd, aSlStr, aSlS, fillL, newO, kill, aStore, putL, getO, cellsOf, Sym.elems, Sym.elemsS, aApp, aCpy, aClr, Sym.reps, aCall, aCallQ, finishCall, Sym.refs, Sym.refs1, Sym.refs0, okv, ok1, Sym.atom, flat0, dedup, Sym.reach, Sym.pos, Sym.sub, renO, Sym.ren, Sym.ren1, Sym.ren0, gmap, mergeOld, mergeNew, mergeO, allFresh, Sym.det, Sym.det0, Sym.canon, keepEnv, aRes, Sym.one, frzM, frz1, frz0, frzL, args0, dead0, aCallM, if_true, if_false, ite_true, ite_false, reduceIte, reduceCtorEq, Nat.reduceEqDiff, ne_eq, Nat.reduceAdd, Nat.reduceSub, Nat.reduceMul, Nat.reduceLT, Nat.reduceLeDiff, Nat.reduceBEq, Nat.reduceBNe, Nat.reduceGT, Int.reduceEq, Int.reduceLT, Int.reduceLE, Int.reduceToNat, Int.reduceAdd, Int.reduceSub, Int.reduceMul, Int.reduceNeg, Int.reduceBEq, Int.reduceBNe, c, h, w5, ih]
      · have e : bitsF n (m + 1) i = i :: bitsF n m (i + 1) := by rw [bitsF, if_pos hb]
        have ih := rlist_loop k lf n hn m N (i + 1) (l ++ [i]) (by omega) (by omega) (by rw [len_one]; omega) (by rw [len_one]; omega)
        rw [e, List.append_cons, ← ih]
        rw [hb] at h
        simp -implicitDefEqProofs only [eqs, Sym.wants, Sym.get, Sym.ev, Sym.evs, Sym.evO, Sym.evP, Sym.put, Sym.lev, Sym.aq, Sym.ae, aBin, aInt, isShift, aEqB, aEqP, aEqS, leavesEq, leafEq, aUn, Sym.rd, aLoad, aField, aFad, aNilck, asI, aIxS, aIxA, aIxV, aExt, aPick, aCvi, aCvs, aLen, aLenS, aMin2, aMax2, aFold, aFoldL, bnd, aSlStr, aSlS, fillL, newO, kill, aStore, putL, getO, cellsOf, Sym.elems, Sym.elemsS, aApp, aCpy, aClr, Sym.reps, aCall, aCallQ, finishCall, Sym.refs, Sym.refs1, Sym.refs0, okv, ok1, Sym.atom, flat0, dedup, Sym.reach, Sym.pos, Sym.sub, renO, Sym.ren, Sym.ren1, Sym.ren0, gmap, mergeOld, mergeNew, mergeO, allFresh, Sym.det, Sym.det0, Sym.canon, keepEnv, aRes, Sym.one, frzM, frz1, frz0, frzL, args0, dead0, aCallM, if_true, if_false, ite_true, ite_false, reduceIte, reduceCtorEq, Nat.reduceEqDiff, ne_eq, Nat.reduceAdd, Nat.reduceSub, Nat.reduceMul, Nat.reduceLT, Nat.reduceLeDiff, Nat.reduceBEq, Nat.reduceBNe, Nat.reduceGT, Int.reduceEq, Int.reduceLT, Int.reduceLE, Int.reduceToNat, Int.reduceAdd, Int.reduceSub, Int.reduceMul, Int.reduceNeg, Int.reduceBEq, Int.reduceBNe, c, h, w5, b1, b2, b3, ints_len, ints_one, ints_take, ints_flat, ints_atom, len_one, Int.natCast_add, Int.natCast_one]
def rowI (l : List Nat) : AV := if l.isEmpty = true then .v (.slice none 0 0) else .shr l.length false (ints l)
theorem rlist_loop0 (k lf : Nat) (n : Nat) (hn : n < 4294967296) : ∀ (m N i : Nat), i + m = 32 → m ≤ N →
    ∃ d, d ≤ 1 ∧ FnR [.t 2] true false (Lh (acall T (k + 40)) lf (some ⟨[(0, .v (.int .u32 n)), (3, .v (.slice none 0 0)), (4, .v (.int .i64 i))], [], 0, []⟩) [0, 3, 4] l_fuglemanref05_List_0 N [.b 0, .c l_fuglemanref05_List_1]) = some ⟨rowI (bitsF n m i), [], d⟩
  | m, N, i, hm, hN => by
    rw [lh_as l_fuglemanref05_List_0.eq_1]
    cases m with
    | zero =>
      have c : ¬ (i : Int) < 32 := by omega
      have t0 : bitsF n 0 i = [] := rfl
      rw [t0]
      refine ⟨0, by decide, ?_⟩
      simp -implicitDefEqProofs only [eqs, Sym.wants, Sym.get, Sym.ev, Sym.evs, Sym.evO, Sym.evP, Sym.put, Sym.lev, Sym.aq, Sym.ae, aBin, aInt, isShift, aEqB, aEqP, aEqS, leavesEq, leafEq, aUn, Sym.rd, aLoad, aField, aFad, aNilck, asI, aIxS, aIxA, aIxV, aExt, aPick, aCvi, aCvs, aLen, aLenS, aMin2, aMax2, aFold, aFoldL, bnd, aSlStr, aSlS, fillL, newO, kill, aStore, putL, getO, cellsOf, Sym.elems, Sym.elemsS, aApp, aCpy, aClr, Sym.reps, aCall, aCallQ, finishCall, Sym.refs, Sym.refs1, Sym.refs0, okv, ok1, Sym.atom, flat0, dedup, Sym.reach, Sym.pos, Sym.sub, renO, Sym.ren, Sym.ren1, Sym.ren0, gmap, mergeOld, mergeNew, mergeO, allFresh, Sym.det, Sym.det0, Sym.canon, keepEnv, aRes, Sym.one, frzM, frz1, frz0, frzL, args0, dead0, aCallM, if_true, if_false, ite_true, ite_false, reduceIte, reduceCtorEq, Nat.reduceEqDiff, ne_eq, Nat.reduceAdd, Nat.reduceSub, Nat.reduceMul, Nat.reduceLT, Nat.reduceLeDiff, Nat.reduceBEq, Nat.reduceBNe, Nat.reduceGT, Int.reduceEq, Int.reduceLT, Int.reduceLE, Int.reduceToNat, Int.reduceAdd, Int.reduceSub, Int.reduceMul, Int.reduceNeg, Int.reduceBEq, Int.reduceBNe, l_fuglemanref05_List_1, c, rowI]
    | succ m =>
      obtain ⟨N, rfl⟩ : ∃ n', N = n' + 1 := ⟨N - 1, by omega⟩
      have c : (i : Int) < 32 := by omega
      have h := rhas_a k n hn i
      have c1 : (0 : Int) ≤ i := by omega
      have c2 : (i : Int) ≤ 31 := by omega
      unfold rh at h
      rw [decide_eq_true c1, decide_eq_true c2, Int.toNat_natCast, Bool.true_and, Bool.true_and] at h
      have w5 : IntKind.i64.wrap ((i : Int) + 1) = i + 1 := w64 (by omega) (by omega)
      cases hb : n.testBit i
      · have e : bitsF n (m + 1) i = bitsF n m (i + 1) := by rw [bitsF, if_neg (by rw [hb]; decide)]
        obtain ⟨d, hd, ih⟩ := rlist_loop0 k lf n hn m N (i + 1) (by omega) (by omega)
        refine ⟨d, hd, ?_⟩
        rw [e]
        rw [hb] at h
        rw [Int.natCast_add, Int.natCast_one] at ih
        simp -implicitDefEqProofs only [eqs, Sym.wants, Sym.get, Sym.ev, Sym.evs, Sym.evO, Sym.evP, Sym.put, Sym.lev, Sym.aq, Sym.ae, aBin, aInt, isShift, aEqB, aEqP, aEqS, leavesEq, leafEq, aUn, Sym.rd, aLoad, aField, aFad, aNilck, asI, aIxS, aIxA, aIxV, aExt, aPick, aCvi, aCvs, aLen, aLenS, aMin2, aMax2, aFold, aFoldL, bnd, aSlStr, aSlS, fillL, newO, kill, aStore, putL, getO, cellsOf, Sym.elems, Sym.elemsS, aApp, aCpy, aClr, Sym.reps, aCall, aCallQ, finishCall, Sym.refs, Sym.refs1, Sym.refs0, okv, ok1, Sym.atom, flat0, dedup, Sym.reach, Sym.pos, Sym.sub, renO, Sym.ren, Sym.ren1, Sym.ren0, gmap, mergeOld, mergeNew, mergeO, allFresh, Sym.det, Sym.det0, Sym.canon, keepEnv, aRes, Sym.one, frzM, frz1, frz0, frzL, args0, dead0, aCallM, if_true, if_false, ite_true, ite_false, reduceIte, reduceCtorEq, Nat.reduceEqDiff, ne_eq, Nat.reduceAdd, Nat.reduceSub, Nat.reduceMul, Nat.reduceLT, Nat.reduceLeDiff, Nat.reduceBEq, Nat.reduceBNe, Nat.reduceGT, Int.reduceEq, Int.reduceLT, Int.reduceLE, Int.reduceToNat, Int.reduceAdd, Int.reduceSub, Int.reduceMul, Int.reduceNeg, Int.reduceBEq, Int.reduceBNe, c, h, w5, ih]
      · have e : bitsF n (m + 1) i = i :: bitsF n m (i + 1) := by rw [bitsF, if_pos hb]
        have hi0 : i = 0 ∨ 1 ≤ i := by omega
        refine ⟨1, by decide, ?_⟩
        have er : rowI (bitsF n (m + 1) i) = .shr ([i] ++ bitsF n m (i + 1)).length false (ints ([i] ++ bitsF n m (i + 1))) := by rw [e]; rfl
        have ih := rlist_loop k lf n hn m N (i + 1) [i] (by omega) (by omega) (by simp) (by simp)
        rw [er, ← ih]
        rw [hb] at h
        simp -implicitDefEqProofs only [eqs, Sym.wants, Sym.get, Sym.ev, Sym.evs, Sym.evO, Sym.evP, Sym.put, Sym.lev, Sym.aq, Sym.ae, aBin, aInt, isShift, aEqB, aEqP, aEqS, leavesEq, leafEq, aUn, Sym.rd, aLoad, aField, aFad, aNilck, asI, aIxS, aIxA, aIxV, aExt, aPick, aCvi, aCvs, aLen, aLenS, aMin2, aMax2, aFold, aFoldL, bnd, aSlStr, aSlS, fillL, newO, kill, aStore, putL, getO, cellsOf, Sym.elems, Sym.elemsS, aApp, aCpy, aClr, Sym.reps, aCall, aCallQ, finishCall, Sym.refs, Sym.refs1, Sym.refs0, okv, ok1, Sym.atom, flat0, dedup, Sym.reach, Sym.pos, Sym.sub, renO, Sym.ren, Sym.ren1, Sym.ren0, gmap, mergeOld, mergeNew, mergeO, allFresh, Sym.det, Sym.det0, Sym.canon, keepEnv, aRes, Sym.one, frzM, frz1, frz0, frzL, args0, dead0, aCallM, if_true, if_false, ite_true, ite_false, reduceIte, reduceCtorEq, Nat.reduceEqDiff, ne_eq, Nat.reduceAdd, Nat.reduceSub, Nat.reduceMul, Nat.reduceLT, Nat.reduceLeDiff, Nat.reduceBEq, Nat.reduceBNe, Nat.reduceGT, Int.reduceEq, Int.reduceLT, Int.reduceLE, Int.reduceToNat, Int.reduceAdd, Int.reduceSub, Int.reduceMul, Int.reduceNeg, Int.reduceBEq, Int.reduceBNe, c, h, w5, ints, Int.natCast_add, Int.natCast_one]
theorem rlist_a (k : Nat) (n : Nat) (hn : n < 4294967296) : ∃ d, d ≤ 1 ∧ acall T (k + 80) 46 0 [.v (.int .u32 n)] [] = some ⟨rowI (bitsF n 32 0), [], d⟩ := by
  rw [acall_go (body := b_fuglemanref05_List) rfl rfl (Nat.zero_le _)]
  obtain ⟨d, hd, hl⟩ := rlist_loop0 (k + 39) (k + 79) n hn 32 (k + 78) 0 rfl (by omega)
  refine ⟨d, hd, ?_⟩
  have lp : ∀ (ks : List It) (st : St), Lp (acall T (k + 79)) (k + 79) [0, 3, 4] l_fuglemanref05_List_0 (k + 79) ks st = Lh (acall T (k + 79)) (k + 79) (canon [0, 3, 4] st) [0, 3, 4] l_fuglemanref05_List_0 (k + 78) ks := fun ks st => lp_succ (n := k + 78)
  rw [Int.natCast_zero] at hl
  simp -implicitDefEqProofs only [eqs, Sym.wants, Sym.get, Sym.ev, Sym.evs, Sym.evO, Sym.evP, Sym.put, Sym.lev, Sym.aq, Sym.ae, aBin, aInt, isShift, aEqB, aEqP, aEqS, leavesEq, leafEq, aUn, Sym.rd, aLoad, aField, aFad, aNilck, asI, aIxS, aIxA, aIxV, aExt, aPick, aCvi, aCvs, aLen, aLenS, aMin2, aMax2, aFold, aFoldL, bnd, aSlStr, aSlS, fillL, newO, kill, aStore, putL, getO, cellsOf, Sym.elems, Sym.elemsS, aApp, aCpy, aClr, Sym.reps, aCall, aCallQ, finishCall, Sym.refs, Sym.refs1, Sym.refs0, okv, ok1, Sym.atom, flat0, dedup, Sym.reach, Sym.pos, Sym.sub, renO, Sym.ren, Sym.ren1, Sym.ren0, gmap, mergeOld, mergeNew, mergeO, allFresh, Sym.det, Sym.det0, Sym.canon, keepEnv, aRes, Sym.one, frzM, frz1, frz0, frzL, args0, dead0, aCallM, if_true, if_false, ite_true, ite_false, reduceIte, reduceCtorEq, Nat.reduceEqDiff, ne_eq, Nat.reduceAdd, Nat.reduceSub, Nat.reduceMul, Nat.reduceLT, Nat.reduceLeDiff, Nat.reduceBEq, Nat.reduceBNe, Nat.reduceGT, Int.reduceEq, Int.reduceLT, Int.reduceLE, Int.reduceToNat, Int.reduceAdd, Int.reduceSub, Int.reduceMul, Int.reduceNeg, Int.reduceBEq, Int.reduceBNe, b_fuglemanref05_List, lp, hl]
end Go.Proofs.Ythmmgpdniijkeaa.Bus
