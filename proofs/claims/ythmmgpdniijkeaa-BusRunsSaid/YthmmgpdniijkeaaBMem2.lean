/- The reference's sets: one less. -/
import Derived.Test.YthmmgpdniijkeaaBMem
namespace Go.Proofs.Ythmmgpdniijkeaa.Bus
open Go Go.Proofs.Ythmmgpdniijkeaa.Sym Go.Proofs.Ythmmgpdniijkeaa.Tab
set_option linter.unusedVariables false
set_option linter.unusedSimpArgs false
set_option maxHeartbeats 4000000
set_option maxRecDepth 20000
theorem pow_lt32 {x : Nat} (h : x < 32) : 2 ^ x ≤ 2147483648 := by
  have : 2 ^ x ≤ 2 ^ 31 := Nat.pow_le_pow_right (by decide) (by omega)
  simpa using this
theorem rwith_loop (C : CT) (lf : Nat) (n a : Nat) (ha : a < 32) (hn : n < 2 ^ a) (d : Nat) : ∀ (m N i : Nat), i + m = a → m ≤ N →
    FnR [.t 4] false false (Lh C lf (some ⟨[(0, .v (.int .u32 n)), (1, .v (.int .i64 a)), (5, .v (.int .u32 ((2 ^ i : Nat) : Int))), (6, .v (.int .i64 i))], [], d, []⟩) [0, 1, 5, 6] l_fuglemanref05_With_0 N [.b 0, .c l_fuglemanref05_With_1]) = some ⟨.v (.int .u32 ((n + 2 ^ a : Nat) : Int)), [], d⟩
  | m, N, i, hm, hN => by
    rw [lh_as l_fuglemanref05_With_0.eq_1]
    cases m with
    | zero =>
      obtain rfl : i = a := by omega
      have c : ¬ (i : Int) < i := by omega
      have hp := pow_lt32 ha
      have e1 : IntKind.u32.wrap ((n : Int) + ((2 ^ i : Nat) : Int)) = ((n + 2 ^ i : Nat) : Int) := by
        generalize 2 ^ i = q at *
        rw [wu32 (by omega) (by omega)]
        omega
      simp -implicitDefEqProofs only [eqs, Sym.wants, Sym.get, Sym.ev, Sym.evs, Sym.evO, Sym.evP, Sym.put, Sym.lev, Sym.aq, Sym.ae, aBin, aInt, isShift, aEqB, aEqP, aEqS, leavesEq, leafEq, aUn, Sym.rd, aLoad, aField, aFad, aNilck, asI, aIxS, aIxA, aIxV, aExt, aPick, aCvi, aCvs, aLen, aLenS, aMin2, aMax2, aFold, aFoldL, bnd, aSlStr, aSlS, fillL, newO, kill, aStore, putL, getO, cellsOf, Sym.elems, Sym.elemsS, aApp, aCpy, aClr, Sym.reps, aCall, aCallQ, finishCall, Sym.refs, Sym.refs1, Sym.refs0, okv, ok1, Sym.atom, flat0, dedup, Sym.reach, Sym.pos, Sym.sub, renO, Sym.ren, Sym.ren1, Sym.ren0, gmap, mergeOld, mergeNew, mergeO, allFresh, Sym.det, Sym.det0, Sym.canon, keepEnv, aRes, Sym.one, frzM, frz1, frz0, frzL, args0, dead0, aCallM, if_true, if_false, ite_true, ite_false, reduceIte, reduceCtorEq, Nat.reduceEqDiff, ne_eq, Nat.reduceAdd, Nat.reduceSub, Nat.reduceMul, Nat.reduceLT, Nat.reduceLeDiff, Nat.reduceBEq, Nat.reduceBNe, Nat.reduceGT, Int.reduceEq, Int.reduceLT, Int.reduceLE, Int.reduceToNat, Int.reduceAdd, Int.reduceSub, Int.reduceMul, Int.reduceNeg, Int.reduceBEq, Int.reduceBNe, l_fuglemanref05_With_1, c, e1]
    | succ m =>
      obtain ⟨N, rfl⟩ : ∃ n', N = n' + 1 := ⟨N - 1, by omega⟩
      have c : (i : Int) < a := by omega
      have hp := pow_lt32 (x := i + 1) (by omega)
      have e1 : IntKind.u32.wrap (((2 ^ i : Nat) : Int) * 2) = ((2 ^ (i + 1) : Nat) : Int) := by
        rw [Nat.pow_succ] at hp ⊢
        generalize 2 ^ i = q at *
        rw [wu32 (by omega) (by omega)]
        omega
      have w5 : IntKind.i64.wrap ((i : Int) + 1) = i + 1 := w64 (by omega) (by omega)
      have ih := rwith_loop C lf n a ha hn d m N (i + 1) (by omega) (by omega)
      rw [Int.natCast_add, Int.natCast_one] at ih
      simp -implicitDefEqProofs only [eqs, Sym.wants, Sym.get, Sym.ev, Sym.evs, Sym.evO, Sym.evP, Sym.put, Sym.lev, Sym.aq, Sym.ae, aBin, aInt, isShift, aEqB, aEqP, aEqS, leavesEq, leafEq, aUn, Sym.rd, aLoad, aField, aFad, aNilck, asI, aIxS, aIxA, aIxV, aExt, aPick, aCvi, aCvs, aLen, aLenS, aMin2, aMax2, aFold, aFoldL, bnd, aSlStr, aSlS, fillL, newO, kill, aStore, putL, getO, cellsOf, Sym.elems, Sym.elemsS, aApp, aCpy, aClr, Sym.reps, aCall, aCallQ, finishCall, Sym.refs, Sym.refs1, Sym.refs0, okv, ok1, Sym.atom, flat0, dedup, Sym.reach, Sym.pos, Sym.sub, renO, Sym.ren, Sym.ren1, Sym.ren0, gmap, mergeOld, mergeNew, mergeO, allFresh, Sym.det, Sym.det0, Sym.canon, keepEnv, aRes, Sym.one, frzM, frz1, frz0, frzL, args0, dead0, aCallM, if_true, if_false, ite_true, ite_false, reduceIte, reduceCtorEq, Nat.reduceEqDiff, ne_eq, Nat.reduceAdd, Nat.reduceSub, Nat.reduceMul, Nat.reduceLT, Nat.reduceLeDiff, Nat.reduceBEq, Nat.reduceBNe, Nat.reduceGT, Int.reduceEq, Int.reduceLT, Int.reduceLE, Int.reduceToNat, Int.reduceAdd, Int.reduceSub, Int.reduceMul, Int.reduceNeg, Int.reduceBEq, Int.reduceBNe, c, e1, w5, ih]
theorem rwith_a (k : Nat) (n a : Nat) (ha : a < 32) (hn : n < 2 ^ a) : acall T (k + 41) 47 0 [.v (.int .u32 n), .v (.int .i64 a)] [] = some ⟨.v (.int .u32 ((n + 2 ^ a : Nat) : Int)), [], 0⟩ := by
  rw [acall_go (body := b_fuglemanref05_With) rfl rfl (Nat.zero_le _)]
  have hp := pow_lt32 ha
  have h := rhas_a k n (by omega) a
  have hb : rh n a = false := by
    unfold rh
    rw [Int.toNat_natCast, Nat.testBit_lt_two_pow hn, Bool.and_false]
  rw [hb] at h
  have c1 : ¬ (a : Int) < 0 := by omega
  have c2 : ¬ (31 : Int) < a := by omega
  have hl := rwith_loop (acall T (k + 40)) (k + 40) n a ha hn 0 a (k + 39) 0 (by omega) (by omega)
  have lp : ∀ (ks : List It) (st : St), Lp (acall T (k + 40)) (k + 40) [0, 1, 5, 6] l_fuglemanref05_With_0 (k + 40) ks st = Lh (acall T (k + 40)) (k + 40) (canon [0, 1, 5, 6] st) [0, 1, 5, 6] l_fuglemanref05_With_0 (k + 39) ks := fun ks st => lp_succ (n := k + 39)
  rw [Nat.pow_zero, Int.natCast_one, Int.natCast_zero] at hl
  simp -implicitDefEqProofs only [eqs, Sym.wants, Sym.get, Sym.ev, Sym.evs, Sym.evO, Sym.evP, Sym.put, Sym.lev, Sym.aq, Sym.ae, aBin, aInt, isShift, aEqB, aEqP, aEqS, leavesEq, leafEq, aUn, Sym.rd, aLoad, aField, aFad, aNilck, asI, aIxS, aIxA, aIxV, aExt, aPick, aCvi, aCvs, aLen, aLenS, aMin2, aMax2, aFold, aFoldL, bnd, aSlStr, aSlS, fillL, newO, kill, aStore, putL, getO, cellsOf, Sym.elems, Sym.elemsS, aApp, aCpy, aClr, Sym.reps, aCall, aCallQ, finishCall, Sym.refs, Sym.refs1, Sym.refs0, okv, ok1, Sym.atom, flat0, dedup, Sym.reach, Sym.pos, Sym.sub, renO, Sym.ren, Sym.ren1, Sym.ren0, gmap, mergeOld, mergeNew, mergeO, allFresh, Sym.det, Sym.det0, Sym.canon, keepEnv, aRes, Sym.one, frzM, frz1, frz0, frzL, args0, dead0, aCallM, if_true, if_false, ite_true, ite_false, reduceIte, reduceCtorEq, Nat.reduceEqDiff, ne_eq, Nat.reduceAdd, Nat.reduceSub, Nat.reduceMul, Nat.reduceLT, Nat.reduceLeDiff, Nat.reduceBEq, Nat.reduceBNe, Nat.reduceGT, Int.reduceEq, Int.reduceLT, Int.reduceLE, Int.reduceToNat, Int.reduceAdd, Int.reduceSub, Int.reduceMul, Int.reduceNeg, Int.reduceBEq, Int.reduceBNe, b_fuglemanref05_With, c1, c2, h, lp, hl]
/-- Bits that rise, below 32. -/
def Asc : Nat → List Nat → Prop
  | _, [] => True
  | b, x :: r => b ≤ x ∧ x < 32 ∧ Asc (x + 1) r
theorem Asc.up {b c : Nat} : ∀ {l : List Nat}, Asc c l → b ≤ c → Asc b l
  | [], _, _ => trivial
  | x :: r, h, hb => ⟨Nat.le_trans hb h.1, h.2⟩
theorem bitsF_asc (n : Nat) : ∀ m i, i + m = 32 → Asc i (bitsF n m i)
  | 0, _, _ => trivial
  | m + 1, i, h => by
    rw [bitsF]
    split
    · exact ⟨Nat.le_refl _, by omega, bitsF_asc n m (i + 1) (by omega)⟩
    · exact (bitsF_asc n m (i + 1) (by omega)).up (by omega)
def wfold (a : Int) : List Nat → Nat → Nat
  | [], o => o
  | x :: r, o => wfold a r (if (x : Int) = a then o else o + 2 ^ x)
theorem rwo_loop (k lf : Nat) (a : Int) (L : List Nat) (hL : L.length ≤ 32) (d : Nat) : ∀ (r : List Nat) (N i o b : Nat), L.drop i = r → i + r.length = L.length → r.length ≤ N → Asc b r → o < 2 ^ b →
    FnR [.t 4] false false (Lh (acall T (k + 41)) lf (some ⟨[(1, .v (.int .i64 a)), (5, .v (.int .u32 o)), (6, .shr L.length false (ints L)), (7, .v (.int .i64 i))], [], d, []⟩) [1, 5, 6, 7] l_fuglemanref05_Without_0 N [.b 0, .c l_fuglemanref05_Without_1]) = some ⟨.v (.int .u32 (wfold a r o : Nat)), [], d⟩
  | r, N, i, o, b, hr, hi, hN, hA, ho => by
    rw [lh_as l_fuglemanref05_Without_0.eq_1]
    cases r with
    | nil =>
      simp only [List.length_nil] at hi
      have c : ¬ (i : Int) < L.length := by omega
      simp -implicitDefEqProofs only [eqs, Sym.wants, Sym.get, Sym.ev, Sym.evs, Sym.evO, Sym.evP, Sym.put, Sym.lev, Sym.aq, Sym.ae, aBin, aInt, isShift, aEqB, aEqP, aEqS, leavesEq, leafEq, aUn, Sym.rd, aLoad, aField, aFad, aNilck, asI, aIxS, aIxA, aIxV, aExt, aPick, aCvi, aCvs, aLen, aLenS, aMin2, aMax2, aFold, aFoldL, bnd, aSlStr, aSlS, fillL, newO, kill, aStore, putL, getO, cellsOf, Sym.elems, Sym.elemsS, aApp, aCpy, aClr, Sym.reps, aCall, aCallQ, finishCall, Sym.refs, Sym.refs1, Sym.refs0, okv, ok1, Sym.atom, flat0, dedup, Sym.reach, Sym.pos, Sym.sub, renO, Sym.ren, Sym.ren1, Sym.ren0, gmap, mergeOld, mergeNew, mergeO, allFresh, Sym.det, Sym.det0, Sym.canon, keepEnv, aRes, Sym.one, frzM, frz1, frz0, frzL, args0, dead0, aCallM, if_true, if_false, ite_true, ite_false, reduceIte, reduceCtorEq, Nat.reduceEqDiff, ne_eq, Nat.reduceAdd, Nat.reduceSub, Nat.reduceMul, Nat.reduceLT, Nat.reduceLeDiff, Nat.reduceBEq, Nat.reduceBNe, Nat.reduceGT, Int.reduceEq, Int.reduceLT, Int.reduceLE, Int.reduceToNat, Int.reduceAdd, Int.reduceSub, Int.reduceMul, Int.reduceNeg, Int.reduceBEq, Int.reduceBNe, l_fuglemanref05_Without_1, c, wfold]
    | cons x r =>
      simp only [List.length_cons] at hi hN
      obtain ⟨N, rfl⟩ : ∃ n', N = n' + 1 := ⟨N - 1, by omega⟩
      obtain ⟨hA1, hA2, hA3⟩ := hA
      have c : (i : Int) < L.length := by omega
      have hx : L[i]? = some x := by
        have := List.drop_eq_getElem_cons (show i < L.length by omega)
        rw [this] at hr
        injection hr with h1 h2
        rw [List.getElem?_eq_getElem (by omega), h1]
      have hr' : L.drop (i + 1) = r := by
        have := List.drop_eq_getElem_cons (show i < L.length by omega)
        rw [this] at hr
        injection hr
      have g1 : (ints L)[i]? = some (.v (.int .i64 (x : Int))) := by simp [ints, hx]
      have w5 : IntKind.i64.wrap ((i : Int) + 1) = i + 1 := w64 (by omega) (by omega)
      have hb : 2 ^ b ≤ 2 ^ x := Nat.pow_le_pow_right (by decide) hA1
      have hb2 : 2 ^ (x + 1) = 2 ^ x * 2 := Nat.pow_succ ..
      by_cases hxa : (x : Int) = a
      · have e1 : ((x : Int) != a) = false := by rw [hxa]; simp
        have ih := rwo_loop k lf a L hL d r N (i + 1) o (x + 1) hr' (by omega) (by omega) hA3 (by omega)
        rw [Int.natCast_add, Int.natCast_one] at ih
        rw [wfold, if_pos hxa]
        simp -implicitDefEqProofs only [eqs, Sym.wants, Sym.get, Sym.ev, Sym.evs, Sym.evO, Sym.evP, Sym.put, Sym.lev, Sym.aq, Sym.ae, aBin, aInt, isShift, aEqB, aEqP, aEqS, leavesEq, leafEq, aUn, Sym.rd, aLoad, aField, aFad, aNilck, asI, aIxS, aIxA, aIxV, aExt, aPick, aCvi, aCvs, aLen, aLenS, aMin2, aMax2, aFold, aFoldL, bnd, aSlStr, aSlS, fillL, newO, kill, aStore, putL, getO, cellsOf, Sym.elems, Sym.elemsS, aApp, aCpy, aClr, Sym.reps, aCall, aCallQ, finishCall, Sym.refs, Sym.refs1, Sym.refs0, okv, ok1, Sym.atom, flat0, dedup, Sym.reach, Sym.pos, Sym.sub, renO, Sym.ren, Sym.ren1, Sym.ren0, gmap, mergeOld, mergeNew, mergeO, allFresh, Sym.det, Sym.det0, Sym.canon, keepEnv, aRes, Sym.one, frzM, frz1, frz0, frzL, args0, dead0, aCallM, if_true, if_false, ite_true, ite_false, reduceIte, reduceCtorEq, Nat.reduceEqDiff, ne_eq, Nat.reduceAdd, Nat.reduceSub, Nat.reduceMul, Nat.reduceLT, Nat.reduceLeDiff, Nat.reduceBEq, Nat.reduceBNe, Nat.reduceGT, Int.reduceEq, Int.reduceLT, Int.reduceLE, Int.reduceToNat, Int.reduceAdd, Int.reduceSub, Int.reduceMul, Int.reduceNeg, Int.reduceBEq, Int.reduceBNe, c, g1, e1, w5, ih]
      · have e1 : ((x : Int) != a) = true := by rw [bne_iff_ne]; exact hxa
        have h := rwith_a k o x hA2 (by omega)
        have ih := rwo_loop k lf a L hL d r N (i + 1) (o + 2 ^ x) (x + 1) hr' (by omega) (by omega) hA3 (by omega)
        rw [Int.natCast_add (m := 1), Int.natCast_one] at ih
        rw [wfold, if_neg hxa]
        simp -implicitDefEqProofs only [eqs, Sym.wants, Sym.get, Sym.ev, Sym.evs, Sym.evO, Sym.evP, Sym.put, Sym.lev, Sym.aq, Sym.ae, aBin, aInt, isShift, aEqB, aEqP, aEqS, leavesEq, leafEq, aUn, Sym.rd, aLoad, aField, aFad, aNilck, asI, aIxS, aIxA, aIxV, aExt, aPick, aCvi, aCvs, aLen, aLenS, aMin2, aMax2, aFold, aFoldL, bnd, aSlStr, aSlS, fillL, newO, kill, aStore, putL, getO, cellsOf, Sym.elems, Sym.elemsS, aApp, aCpy, aClr, Sym.reps, aCall, aCallQ, finishCall, Sym.refs, Sym.refs1, Sym.refs0, okv, ok1, Sym.atom, flat0, dedup, Sym.reach, Sym.pos, Sym.sub, renO, Sym.ren, Sym.ren1, Sym.ren0, gmap, mergeOld, mergeNew, mergeO, allFresh, Sym.det, Sym.det0, Sym.canon, keepEnv, aRes, Sym.one, frzM, frz1, frz0, frzL, args0, dead0, aCallM, if_true, if_false, ite_true, ite_false, reduceIte, reduceCtorEq, Nat.reduceEqDiff, ne_eq, Nat.reduceAdd, Nat.reduceSub, Nat.reduceMul, Nat.reduceLT, Nat.reduceLeDiff, Nat.reduceBEq, Nat.reduceBNe, Nat.reduceGT, Int.reduceEq, Int.reduceLT, Int.reduceLE, Int.reduceToNat, Int.reduceAdd, Int.reduceSub, Int.reduceMul, Int.reduceNeg, Int.reduceBEq, Int.reduceBNe, c, g1, e1, w5, h, ih]
theorem bitsF_len (n : Nat) : ∀ m i, (bitsF n m i).length ≤ m
  | 0, _ => Nat.le_refl _
  | m + 1, i => by
    have := bitsF_len n m (i + 1)
    rw [bitsF]
    split
    · rw [List.length_cons]; omega
    · omega
def rwo (n : Nat) (a : Int) : Nat := wfold a (bitsF n 32 0) 0
theorem rwithout_a (k : Nat) (n : Nat) (hn : n < 4294967296) (a : Int) : ∃ d, d ≤ 1 ∧ acall T (k + 81) 40 0 [.v (.int .u32 n), .v (.int .i64 a)] [] = some ⟨.v (.int .u32 (rwo n a : Nat)), [], d⟩ := by
  rw [acall_go (body := b_fuglemanref05_Without) rfl rfl (Nat.zero_le _)]
  obtain ⟨d, hd, h⟩ := rlist_a k n hn
  have lp : ∀ (ks : List It) (st : St), Lp (acall T (k + 80)) (k + 80) [1, 5, 6, 7] l_fuglemanref05_Without_0 (k + 80) ks st = Lh (acall T (k + 80)) (k + 80) (canon [1, 5, 6, 7] st) [1, 5, 6, 7] l_fuglemanref05_Without_0 (k + 79) ks := fun ks st => lp_succ (n := k + 79)
  have hA := bitsF_asc n 32 0 rfl
  have hL := bitsF_len n 32 0
  unfold rwo
  generalize bitsF n 32 0 = L at *
  refine ⟨d, hd, ?_⟩
  have hd0 : max 0 d = d := by omega
  cases hl : L with
  | nil =>
    rw [hl] at h
    simp only [rowI] at h
    simp -implicitDefEqProofs only [eqs, Sym.wants, Sym.get, Sym.ev, Sym.evs, Sym.evO, Sym.evP, Sym.put, Sym.lev, Sym.aq, Sym.ae, aBin, aInt, isShift, aEqB, aEqP, aEqS, leavesEq, leafEq, aUn, Sym.rd, aLoad, aField, aFad, aNilck, asI, aIxS, aIxA, aIxV, aExt, aPick, aCvi, aCvs, aLen, aLenS, aMin2, aMax2, aFold, aFoldL, bnd, aSlStr, aSlS, fillL, newO, kill, aStore, putL, getO, cellsOf, Sym.elems, Sym.elemsS, aApp, aCpy, aClr, Sym.reps, aCall, aCallQ, finishCall, Sym.refs, Sym.refs1, Sym.refs0, okv, ok1, Sym.atom, flat0, dedup, Sym.reach, Sym.pos, Sym.sub, renO, Sym.ren, Sym.ren1, Sym.ren0, gmap, mergeOld, mergeNew, mergeO, allFresh, Sym.det, Sym.det0, Sym.canon, keepEnv, aRes, Sym.one, frzM, frz1, frz0, frzL, args0, dead0, aCallM, if_true, if_false, ite_true, ite_false, reduceIte, reduceCtorEq, Nat.reduceEqDiff, ne_eq, Nat.reduceAdd, Nat.reduceSub, Nat.reduceMul, Nat.reduceLT, Nat.reduceLeDiff, Nat.reduceBEq, Nat.reduceBNe, Nat.reduceGT, Int.reduceEq, Int.reduceLT, Int.reduceLE, Int.reduceToNat, Int.reduceAdd, Int.reduceSub, Int.reduceMul, Int.reduceNeg, Int.reduceBEq, Int.reduceBNe, b_fuglemanref05_Without, h, lp, wfold, hd, hd0]
    rw [lh_as l_fuglemanref05_Without_0.eq_1]
    simp -implicitDefEqProofs only [eqs, Sym.wants, Sym.get, Sym.ev, Sym.evs, Sym.evO, Sym.evP, Sym.put, Sym.lev, Sym.aq, Sym.ae, aBin, aInt, isShift, aEqB, aEqP, aEqS, leavesEq, leafEq, aUn, Sym.rd, aLoad, aField, aFad, aNilck, asI, aIxS, aIxA, aIxV, aExt, aPick, aCvi, aCvs, aLen, aLenS, aMin2, aMax2, aFold, aFoldL, bnd, aSlStr, aSlS, fillL, newO, kill, aStore, putL, getO, cellsOf, Sym.elems, Sym.elemsS, aApp, aCpy, aClr, Sym.reps, aCall, aCallQ, finishCall, Sym.refs, Sym.refs1, Sym.refs0, okv, ok1, Sym.atom, flat0, dedup, Sym.reach, Sym.pos, Sym.sub, renO, Sym.ren, Sym.ren1, Sym.ren0, gmap, mergeOld, mergeNew, mergeO, allFresh, Sym.det, Sym.det0, Sym.canon, keepEnv, aRes, Sym.one, frzM, frz1, frz0, frzL, args0, dead0, aCallM, if_true, if_false, ite_true, ite_false, reduceIte, reduceCtorEq, Nat.reduceEqDiff, ne_eq, Nat.reduceAdd, Nat.reduceSub, Nat.reduceMul, Nat.reduceLT, Nat.reduceLeDiff, Nat.reduceBEq, Nat.reduceBNe, Nat.reduceGT, Int.reduceEq, Int.reduceLT, Int.reduceLE, Int.reduceToNat, Int.reduceAdd, Int.reduceSub, Int.reduceMul, Int.reduceNeg, Int.reduceBEq, Int.reduceBNe, l_fuglemanref05_Without_1]
  | cons x r =>
    have hr : rowI L = .shr L.length false (ints L) := by rw [hl]; rfl
    rw [hr] at h
    have hlo := rwo_loop (k + 39) (k + 80) a L hL d L (k + 79) 0 0 0 rfl (by omega) (by omega) hA (by decide)
    rw [Int.natCast_zero] at hlo
    rw [← hl]
    simp -implicitDefEqProofs only [eqs, Sym.wants, Sym.get, Sym.ev, Sym.evs, Sym.evO, Sym.evP, Sym.put, Sym.lev, Sym.aq, Sym.ae, aBin, aInt, isShift, aEqB, aEqP, aEqS, leavesEq, leafEq, aUn, Sym.rd, aLoad, aField, aFad, aNilck, asI, aIxS, aIxA, aIxV, aExt, aPick, aCvi, aCvs, aLen, aLenS, aMin2, aMax2, aFold, aFoldL, bnd, aSlStr, aSlS, fillL, newO, kill, aStore, putL, getO, cellsOf, Sym.elems, Sym.elemsS, aApp, aCpy, aClr, Sym.reps, aCall, aCallQ, finishCall, Sym.refs, Sym.refs1, Sym.refs0, okv, ok1, Sym.atom, flat0, dedup, Sym.reach, Sym.pos, Sym.sub, renO, Sym.ren, Sym.ren1, Sym.ren0, gmap, mergeOld, mergeNew, mergeO, allFresh, Sym.det, Sym.det0, Sym.canon, keepEnv, aRes, Sym.one, frzM, frz1, frz0, frzL, args0, dead0, aCallM, if_true, if_false, ite_true, ite_false, reduceIte, reduceCtorEq, Nat.reduceEqDiff, ne_eq, Nat.reduceAdd, Nat.reduceSub, Nat.reduceMul, Nat.reduceLT, Nat.reduceLeDiff, Nat.reduceBEq, Nat.reduceBNe, Nat.reduceGT, Int.reduceEq, Int.reduceLT, Int.reduceLE, Int.reduceToNat, Int.reduceAdd, Int.reduceSub, Int.reduceMul, Int.reduceNeg, Int.reduceBEq, Int.reduceBNe, b_fuglemanref05_Without, h, lp, hlo, hd, hd0]
theorem wfold_bit (n : Nat) (a : Int) : ∀ (m i o j : Nat), o < 2 ^ i → (wfold a (bitsF n m i) o).testBit j = if j < i then o.testBit j else decide (j < i + m) && n.testBit j && !decide ((j : Int) = a)
  | 0, i, o, j, ho => by
    rw [bitsF, wfold]
    split
    · rfl
    · rename_i h
      have : decide (j < i + 0) = false := decide_eq_false (by omega)
      rw [this, Bool.false_and, Bool.false_and]
      exact Nat.testBit_lt_two_pow (Nat.lt_of_lt_of_le ho (Nat.pow_le_pow_right (by decide) (by omega)))
  | m + 1, i, o, j, ho => by
    have hs : 2 ^ (i + 1) = 2 ^ i * 2 := Nat.pow_succ ..
    have key : ∀ o', o' < 2 ^ (i + 1) → (∀ j, j < i → o'.testBit j = o.testBit j) → o'.testBit i = (n.testBit i && !decide ((i : Int) = a)) → (wfold a (bitsF n m (i + 1)) o').testBit j = if j < i then o.testBit j else decide (j < i + (m + 1)) && n.testBit j && !decide ((j : Int) = a) := fun o' h1 h2 h3 => by
      rw [wfold_bit n a m (i + 1) o' j h1]
      by_cases c : j < i
      · rw [if_pos c, if_pos (by omega), h2 j c]
      · by_cases c2 : j = i
        · subst c2
          rw [if_pos (by omega), if_neg (by omega), h3, decide_eq_true (by omega : j < j + (m + 1)), Bool.true_and]
        · rw [if_neg (by omega), if_neg c, show i + 1 + m = i + (m + 1) by omega]
    rw [bitsF]
    cases hb : n.testBit i
    · rw [if_neg (by decide)]
      refine key o (by omega) (fun _ _ => rfl) ?_
      rw [hb, Bool.false_and]
      exact Nat.testBit_lt_two_pow ho
    · rw [if_pos rfl, wfold]
      by_cases c : (i : Int) = a
      · rw [if_pos c]
        refine key o (by omega) (fun _ _ => rfl) ?_
        rw [decide_eq_true c, Bool.not_true, Bool.and_false]
        exact Nat.testBit_lt_two_pow ho
      · have hor : 2 ^ i + o = 2 ^ i ||| o := by
          have := Nat.two_pow_add_eq_or_of_lt ho 1
          rwa [Nat.mul_one] at this
        rw [if_neg c, Nat.add_comm o, hor]
        refine key _ ?_ (fun j hj => ?_) ?_
        · rw [← hor]; omega
        · rw [Nat.testBit_or, Nat.testBit_two_pow, decide_eq_false (by omega), Bool.false_or]
        · rw [Nat.testBit_or, Nat.testBit_two_pow, decide_eq_true rfl, Bool.true_or, hb, decide_eq_false c]
          rfl
theorem one_pow (a : Nat) (h : a ≤ 31) : one32 a = ((2 ^ a : Nat) : Int) := by
  unfold one32
  have : is32 a = true := by unfold is32; rw [decide_eq_true (by omega), decide_eq_true (by omega)]; rfl
  rw [if_pos this, Int.toNat_natCast, show IntKind.u32.bits = 32 from rfl, Nat.min_eq_left (by omega), Int.one_mul]
  have hp := pow_lt32 (x := a) (by omega)
  rw [show ((2 : Int) ^ a) = ((2 ^ a : Nat) : Int) by simp]
  generalize 2 ^ a = q at *
  exact wu32 (by omega) (by omega)
theorem one_zero (a : Int) (h : ¬ (0 ≤ a ∧ a ≤ 31)) : one32 a = 0 := by
  unfold one32
  rw [if_neg]
  unfold is32
  simp
  omega
theorem and_pow (n m : Nat) : n &&& 2 ^ m = (n.testBit m).toNat * 2 ^ m := by
  apply Nat.eq_of_testBit_eq
  intro j
  rw [Nat.testBit_and, Nat.testBit_two_pow]
  cases h : n.testBit m
  · rw [Bool.toNat_false, Nat.zero_mul, Nat.zero_testBit]
    by_cases c : m = j
    · subst c; rw [h, Bool.false_and]
    · rw [decide_eq_false c, Bool.and_false]
  · rw [Bool.toNat_true, Nat.one_mul, Nat.testBit_two_pow]
    by_cases c : m = j
    · subst c; rw [h, Bool.true_and]
    · rw [decide_eq_false c, Bool.and_false]
theorem ha_eq (n : Nat) (hn : n < 4294967296) (a : Int) : ha n a = rh n a := by
  unfold ha rh
  by_cases c : 0 ≤ a ∧ a ≤ 31
  · obtain ⟨m, rfl⟩ : ∃ m : Nat, a = m := ⟨a.toNat, by omega⟩
    rw [one_pow m (by omega), decide_eq_true c.1, decide_eq_true c.2, Int.toNat_natCast, Bool.true_and, Bool.true_and]
    have hp := pow_lt32 (x := m) (by omega)
    have : bitsV .and .u32 (n : Int) ((2 ^ m : Nat) : Int) = (((n.testBit m).toNat * 2 ^ m : Nat) : Int) := by
      show IntKind.u32.wrap (((BitVec.ofInt 32 (n : Int) &&& BitVec.ofInt 32 ((2 ^ m : Nat) : Int)).toNat : Nat) : Int) = _
      rw [BitVec.ofInt_natCast, BitVec.ofInt_natCast, BitVec.toNat_and, BitVec.toNat_ofNat, BitVec.toNat_ofNat, Nat.mod_eq_of_lt (show n < 2 ^ 32 from hn), Nat.mod_eq_of_lt (show 2 ^ m < 2 ^ 32 by omega), and_pow]
      cases n.testBit m
      · rw [Bool.toNat_false, Nat.zero_mul]; rfl
      · rw [Bool.toNat_true, Nat.one_mul]
        generalize 2 ^ m = q at *
        exact wu32 (by omega) (by omega)
    rw [this]
    have h0 : 0 < 2 ^ m := Nat.pow_pos (by decide)
    cases n.testBit m
    · rw [Bool.toNat_false, Nat.zero_mul]; rfl
    · rw [Bool.toNat_true, Nat.one_mul, bne_iff_ne]
      generalize 2 ^ m = q at *
      omega
  · rw [one_zero a c]
    have : bitsV .and .u32 (n : Int) 0 = 0 := by
      show IntKind.u32.wrap (((BitVec.ofInt 32 (n : Int) &&& BitVec.ofInt 32 0).toNat : Nat) : Int) = _
      rw [show BitVec.ofInt 32 0 = 0#32 from rfl, BitVec.and_zero]
      rfl
    rw [this]
    have h0 : (decide (0 ≤ a) && decide (a ≤ 31)) = false := by
      rw [Bool.eq_false_iff, ne_eq, Bool.and_eq_true, decide_eq_true_eq, decide_eq_true_eq]
      exact c
    rw [h0, Bool.false_and]
    rfl
theorem wo_eq (n : Nat) (hn : n < 4294967296) (a : Int) : wo n a = (rwo n a : Nat) := by
  have hbit := fun j => wfold_bit n a 32 0 0 j (by decide)
  have key : ∀ x : Nat, (∀ j, (BitVec.ofInt 32 (one32 a)).getLsbD j = (decide (j < 32) && decide ((j : Int) = a))) → (BitVec.ofInt 32 (n : Int) &&& ~~~ BitVec.ofInt 32 (one32 a)).toNat = rwo n a := fun _ hone => by
    apply Nat.eq_of_testBit_eq
    intro j
    unfold rwo
    rw [hbit j, if_neg (by omega), BitVec.testBit_toNat, BitVec.getLsbD_and, BitVec.getLsbD_not, hone j, BitVec.ofInt_natCast, BitVec.getLsbD_ofNat, Nat.zero_add]
    cases decide (j < 32) <;> simp
  have hone : ∀ j, (BitVec.ofInt 32 (one32 a)).getLsbD j = (decide (j < 32) && decide ((j : Int) = a)) := fun j => by
    by_cases c : 0 ≤ a ∧ a ≤ 31
    · obtain ⟨m, rfl⟩ : ∃ m : Nat, a = m := ⟨a.toNat, by omega⟩
      rw [one_pow m (by omega), BitVec.ofInt_natCast, BitVec.getLsbD_ofNat, Nat.testBit_two_pow]
      congr 1
      rw [Bool.eq_iff_iff, decide_eq_true_eq, decide_eq_true_eq]
      omega
    · rw [one_zero a c]
      by_cases hj : j < 32
      · rw [decide_eq_false (p := (j : Int) = a) (by omega), Bool.and_false]
        simp
      · rw [decide_eq_false hj, Bool.false_and]
        simp
  show IntKind.u32.wrap (((BitVec.ofInt 32 (n : Int) &&& ~~~ BitVec.ofInt 32 (one32 a)).toNat : Nat) : Int) = _
  rw [key 0 hone]
  have hlt := (BitVec.ofInt 32 (n : Int) &&& ~~~ BitVec.ofInt 32 (one32 a)).isLt
  rw [key 0 hone] at hlt
  generalize rwo n a = q at *
  exact wu32 (by omega) (by simp at hlt; omega)
theorem rwo_lt (n : Nat) (hn : n < 4294967296) (a : Int) : rwo n a < 4294967296 := by
  have hbit := fun j => wfold_bit n a 32 0 0 j (by decide)
  have : rwo n a < 2 ^ 32 := Nat.lt_pow_two_of_testBit _ fun j hj => by
    unfold rwo
    rw [hbit j, if_neg (by omega), decide_eq_false (by omega), Bool.false_and, Bool.false_and]
  simpa using this
end Go.Proofs.Ythmmgpdniijkeaa.Bus
