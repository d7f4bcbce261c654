/- A commit, place by place: the document's. -/
import Derived.Test.YthdiljjbcaleoaaDoorMga00c6307
namespace Go.Proofs.YthdiljjbcaleoaaDoor.Ret
open Go Go.Proofs.YthdiljjbcaleoaaDoor.Sym Go.Proofs.YthdiljjbcaleoaaDoor.Tab
set_option linter.unusedVariables false
set_option linter.unusedSimpArgs false
set_option maxHeartbeats 4000000
set_option maxRecDepth 20000
def iC (l : List Nat) : List AV := l.map fun x : Nat => AV.v (.int .i64 (x : Int))
theorem iC_len (l : List Nat) : (iC l).length = l.length := List.length_map ..
theorem iC_flat (l : List Nat) : (iC l).all flat0 = true := by simp [iC, flat0]
theorem iC_app (l : List Nat) (x : Nat) : iC l ++ [.v (.int .i64 (x : Int))] = iC (l ++ [x]) := by simp [iC]
theorem iC_full (l : List Nat) : (iC l).take l.length = iC l := List.take_of_length_le (by rw [iC_len]; exact Nat.le_refl _)
theorem bytesV_set (l : List Int) (i : Nat) (x : Int) : (bytesV l).set i (.v (.int .u8 x)) = bytesV (l.set i x) := by simp [bytesV, List.map_set]
def pls (A n : Nat) : List Nat := (List.range n).map (plc A)
def bts (s : List Int) (n : Nat) : List Int := (List.range n).map (byt s)
theorem pls_len (A n : Nat) : (pls A n).length = n := by simp [pls]
theorem bts_len (s : List Int) (n : Nat) : (bts s n).length = n := by simp [bts]
theorem pls_succ (A n : Nat) : pls A (n + 1) = pls A n ++ [plc A n] := by simp [pls, List.range_succ]
theorem bts_succ (s : List Int) (n : Nat) : bts s (n + 1) = bts s n ++ [byt s n] := by simp [bts, List.range_succ]
def c1st (most : Int) (A : Nat) (b s : List Int) (i : Nat) : St := ⟨[(2, .v (.int .i64 most)), (8, .v (.int .i64 A)), (11, .view 0 0 b.length 1 none), (12, .view 1 0 (i + 1) 1 none), (13, .view 2 0 (i + 1) 1 none), (14, sv s), (15, .v (.int .i64 i))], [⟨true, true, true, bytesV b⟩, ⟨true, true, true, iC (pls A (i + 1))⟩, ⟨true, true, true, bytesV (bts s (i + 1))⟩], 1, []⟩
theorem c1_next (C : CT) (lf : Nat) (most : Int) (A : Nat) (hA : A ≤ 74) (b s : List Int) (hs : By s) (hs73 : s.length = 73) (i : Nat) (hi : i < 73) (N : Nat) (ks : List It) : Lh C lf (some (c1st most A b s i)) [2, 8, 11, 12, 13, 14, 15] l_fuglemanref07_Commit_0 (N + 1) ks = Lh C lf (some (c1st most A b s (i + 1))) [2, 8, 11, 12, 13, 14, 15] l_fuglemanref07_Commit_0 N ks := by
  have hsz := so_size s
  have c1 : (i : Int) < s.length := by omega
  have w1 : IntKind.i64.wrap ((i : Int) + 1) = ((i + 1 : Nat) : Int) := by rw [w64 (by omega) (by omega)]; omega
  have w2 : IntKind.i64.wrap ((A : Int) + 1) = ((A + 1 : Nat) : Int) := by rw [w64 (by omega) (by omega)]; omega
  have w3 : IntKind.i64.wrap (((A + 1 : Nat) : Int) + i) = ((plc A (i + 1) : Nat) : Int) := by
    rw [w64 (by omega) (by omega), plc, if_neg (by omega)]
    omega
  have hx := so_ix hs (i := i) (by omega)
  have hb : s[i]'(by omega) = byt s (i + 1) := by
    unfold byt
    rw [if_neg (by omega), if_neg (by omega), show i + 1 - 1 = i by omega, List.getD_eq_getElem?_getD, List.getElem?_eq_getElem (by omega)]
    rfl
  rw [hb] at hx
  have p1 := iC_app (pls A (i + 1)) (plc A (i + 1))
  rw [← pls_succ] at p1
  have p2 : bytesV (bts s (i + 1)) ++ [.v (.int .u8 (byt s (i + 1)))] = bytesV (bts s (i + 1 + 1)) := by
    rw [bts_succ s (i + 1), ← bytes_app]
    rfl
  have l1 : (iC (pls A (i + 1))).length = i + 1 := by rw [iC_len, pls_len]
  have l2 : (bytesV (bts s (i + 1))).length = i + 1 := by rw [bytesV_length, bts_len]
  have t1 : (iC (pls A (i + 1))).take (i + 1) = iC (pls A (i + 1)) := List.take_of_length_le (by rw [l1]; exact Nat.le_refl _)
  have t2 : (bytesV (bts s (i + 1))).take (i + 1) = bytesV (bts s (i + 1)) := List.take_of_length_le (by rw [l2]; exact Nat.le_refl _)
  have f0 : (bytesV b).all flat0 = true := all_bytesF
  have f1 := iC_flat (pls A (i + 1))
  have f2 := iC_flat (pls A (i + 1 + 1))
  have f3 : (bytesV (bts s (i + 1))).all flat0 = true := all_bytesF
  have f4 : (bytesV (bts s (i + 1 + 1))).all flat0 = true := all_bytesF
  have m1 : ¬ i + 1 + 1 ≤ i + 1 := by omega
  have m2 : (i + 1 + 1) * 8 ≤ 140737488355328 := by omega
  have m3 : i + 1 + 1 ≤ 9223372036854775807 := by omega
  have m4 : i + 1 + 1 ≤ 140737488355328 := by omega
  have m5 : i + 1 ≤ i + 1 := Nat.le_refl _
  have m6 : i + 1 ≤ 9223372036854775806 := by omega
  have m7 : i + 1 ≤ 140737488355327 := by omega
  clear hb
  unfold c1st
  rw [lh_as l_fuglemanref07_Commit_0.eq_1]
  simp only [sv] at hx ⊢
  generalize strOfNums s = y at *
  generalize s.length = q at *
  generalize iC (pls A (i + 1 + 1)) = k2 at *
  generalize iC (pls A (i + 1)) = k1 at *
  generalize bytesV (bts s (i + 1 + 1)) = k4 at *
  generalize bytesV (bts s (i + 1)) = k3 at *
  generalize bytesV b = cs at *
  generalize byt s (i + 1) = xb at *
  generalize ((plc A (i + 1) : Nat) : Int) = xp at *
  generalize hi2 : i + 1 = i1 at *
  generalize hi3 : i1 + 1 = i2 at *
  simp -implicitDefEqProofs only [eqs, eqd, aCall, Sym.reach, Sym.pos, Sym.sub, ↓reduceIte, reduceCtorEq, Nat.reduceEqDiff, Nat.reduceAdd, Nat.reduceSub, Nat.reduceMul, Nat.reduceLT, Nat.reduceLeDiff, Nat.reduceBEq, Nat.reduceBNe, Nat.reduceGT, Int.reduceEq, Int.reduceLT, Int.reduceLE, Int.reduceToNat, Int.reduceAdd, Int.reduceSub, Int.reduceMul, Int.reduceNeg, Int.reduceBEq, Int.reduceBNe, nx_nil, hsz, c1, w1, w2, w3, hx, p1, p2, l1, l2, t1, t2, f0, f1, f2, f3, f4, m1, m2, m3, m4, m5, m6, m7, hi3]
theorem c1_run (C : CT) (lf : Nat) (most : Int) (A : Nat) (hA : A ≤ 74) (b s : List Int) (hs : By s) (hs73 : s.length = 73) : ∀ (m i N : Nat) (ks : List It), i + m = 73 → m ≤ N → Lh C lf (some (c1st most A b s i)) [2, 8, 11, 12, 13, 14, 15] l_fuglemanref07_Commit_0 N ks = Lh C lf (some (c1st most A b s 73)) [2, 8, 11, 12, 13, 14, 15] l_fuglemanref07_Commit_0 (N - m) ks
  | 0, i, N, ks, hi, hN => by
    obtain rfl : i = 73 := by omega
    rfl
  | m + 1, i, N, ks, hi, hN => by
    obtain ⟨N, rfl⟩ : ∃ M, N = M + 1 := ⟨N - 1, by omega⟩
    rw [c1_next C lf most A hA b s hs hs73 i (by omega) N ks, c1_run C lf most A hA b s hs hs73 m (i + 1) N ks (by omega) (by omega), show N + 1 - (m + 1) = N - m by omega]
def c2st (most : Int) (A : Nat) (b s : List Int) (i : Nat) : St := ⟨[(2, .v (.int .i64 most)), (11, .view 0 0 b.length 1 none), (12, .view 1 0 75 1 none), (13, .view 2 0 75 1 none), (16, .v (.int .i64 i))], [⟨true, true, true, bytesV b⟩, ⟨true, true, true, iC (pls A 75)⟩, ⟨true, true, true, bytesV (bts s 75)⟩], 1, []⟩
noncomputable abbrev c2fin (C : CT) (lf : Nat) (s : St) (N : Nat) : Option Res := FnR [.t 6, .t 7] false false (Lh C lf (some s) [2, 11, 12, 13, 16] l_fuglemanref07_Commit_2 N [.b 2, .c l_fuglemanref07_Commit_3])
theorem c1_end (C : CT) (lf : Nat) (most : Int) (A : Nat) (b s : List Int) (hs73 : s.length = 73) (N : Nat) : FnR [.t 6, .t 7] false false (Lh C (lf + 1) (some (c1st most A b s 73)) [2, 8, 11, 12, 13, 14, 15] l_fuglemanref07_Commit_0 N [.b 0, .c l_fuglemanref07_Commit_1]) = c2fin C (lf + 1) (c2st most A b s 0) lf := by
  have hsz := so_size s
  rw [hs73] at hsz
  have p1 := iC_app (pls A 74) A
  have e1 : plc A 74 = A := rfl
  have e2 : byt s 74 = 165 := rfl
  have e3 : pls A 74 ++ [A] = pls A 75 := by rw [pls_succ A 74, e1]
  rw [e3] at p1
  have p2 : bytesV (bts s 74) ++ [.v (.int .u8 165)] = bytesV (bts s 75) := by
    rw [bts_succ s 74, ← bytes_app, e2]
    rfl
  have l1 : (iC (pls A 74)).length = 74 := by rw [iC_len, pls_len]
  have l2 : (bytesV (bts s 74)).length = 74 := by rw [bytesV_length, bts_len]
  have t1 : (iC (pls A 74)).take 74 = iC (pls A 74) := List.take_of_length_le (by rw [l1]; exact Nat.le_refl _)
  have t2 : (bytesV (bts s 74)).take 74 = bytesV (bts s 74) := List.take_of_length_le (by rw [l2]; exact Nat.le_refl _)
  have f0 : (bytesV b).all flat0 = true := all_bytesF
  have f1 := iC_flat (pls A 74)
  have f2 := iC_flat (pls A 75)
  have f3 : (bytesV (bts s 74)).all flat0 = true := all_bytesF
  have f4 : (bytesV (bts s 75)).all flat0 = true := all_bytesF
  have lp : ∀ (ks : List It) (s : St), Lp C (lf + 1) [2, 11, 12, 13, 16] l_fuglemanref07_Commit_2 (lf + 1) ks s = Lh C (lf + 1) (canon [2, 11, 12, 13, 16] s) [2, 11, 12, 13, 16] l_fuglemanref07_Commit_2 lf ks := fun ks s => lp_succ (n := lf)
  unfold c2fin c1st c2st
  rw [lh_as l_fuglemanref07_Commit_0.eq_1]
  simp only [sv, Nat.reduceAdd, natLit, Int.natCast_zero] at hsz ⊢
  generalize strOfNums s = y at *
  generalize iC (pls A 75) = k2 at *
  generalize iC (pls A 74) = k1 at *
  generalize bytesV (bts s 75) = k4 at *
  generalize bytesV (bts s 74) = k3 at *
  generalize bytesV b = cs at *
  simp -implicitDefEqProofs only [eqs, eqd, aCall, Sym.reach, Sym.pos, Sym.sub, ↓reduceIte, reduceCtorEq, Nat.reduceEqDiff, Nat.reduceAdd, Nat.reduceSub, Nat.reduceMul, Nat.reduceLT, Nat.reduceLeDiff, Nat.reduceBEq, Nat.reduceBNe, Nat.reduceGT, Int.reduceEq, Int.reduceLT, Int.reduceLE, Int.reduceToNat, Int.reduceAdd, Int.reduceSub, Int.reduceMul, Int.reduceNeg, Int.reduceBEq, Int.reduceBNe, nx_nil, l_fuglemanref07_Commit_1, hsz, p1, p2, l1, l2, t1, t2, f0, f1, f2, f3, f4, lp, natLit]
theorem c2_next (C : CT) (lf : Nat) (most : Int) (A : Nat) (hA : A ≤ 74) (b s : List Int) (hb : 148 ≤ b.length) (i : Nat) (hi : i < 75) (hm : most ≠ i) (N : Nat) (ks : List It) : Lh C lf (some (c2st most A b s i)) [2, 11, 12, 13, 16] l_fuglemanref07_Commit_2 (N + 1) ks = Lh C lf (some (c2st most A (b.set (plc A i) (byt s i)) s (i + 1))) [2, 11, 12, 13, 16] l_fuglemanref07_Commit_2 N ks := by
  have c0 : (0 : Int) ≤ i := by omega
  have c1 : (i : Int) < 75 := by omega
  have c2 : ((i : Int) == most) = false := by rw [beq_eq_false_iff_ne]; omega
  have w1 : IntKind.i64.wrap ((i : Int) + 1) = ((i + 1 : Nat) : Int) := by rw [w64 (by omega) (by omega)]; omega
  have h1 : (iC (pls A 75))[i]? = some (.v (.int .i64 (plc A i : Nat))) := by
    unfold iC pls
    rw [List.getElem?_map, List.getElem?_map, List.getElem?_eq_getElem (by simp; omega), List.getElem_range]
    rfl
  have h2 : (bytesV (bts s 75))[i]? = some (.v (.int .u8 (byt s i))) := by
    unfold bytesV bts
    rw [List.getElem?_map, List.getElem?_map, List.getElem?_eq_getElem (by simp; omega), List.getElem_range]
    rfl
  have hp : plc A i < b.length := by unfold plc; split <;> omega
  have c3 : (0 : Int) ≤ (plc A i : Nat) := by omega
  have c4 : ((plc A i : Nat) : Int) < b.length := by omega
  have c5 : plc A i + 1 ≤ b.length := hp
  have e1 := bytesV_set b (plc A i) (byt s i)
  have hl : (bytesV b).length = b.length := bytesV_length
  have f0 : (bytesV b).all flat0 = true := all_bytesF
  have f1 := iC_flat (pls A 75)
  have f2 : (bytesV (bts s 75)).all flat0 = true := all_bytesF
  have f3 : (bytesV (b.set (plc A i) (byt s i))).all flat0 = true := all_bytesF
  unfold c2st
  rw [lh_as l_fuglemanref07_Commit_2.eq_1]
  rw [List.length_set]
  generalize bytesV (b.set (plc A i) (byt s i)) = cs2 at *
  generalize bytesV b = cs at *
  generalize iC (pls A 75) = k1 at *
  generalize bytesV (bts s 75) = k2 at *
  generalize b.length = n at *
  generalize byt s i = xb at *
  generalize plc A i = xp at *
  simp -implicitDefEqProofs only [eqs, eqd, aCall, Sym.reach, Sym.pos, Sym.sub, ↓reduceIte, reduceCtorEq, Nat.reduceEqDiff, Nat.reduceAdd, Nat.reduceSub, Nat.reduceMul, Nat.reduceLT, Nat.reduceLeDiff, Nat.reduceBEq, Nat.reduceBNe, Nat.reduceGT, Int.reduceEq, Int.reduceLT, Int.reduceLE, Int.reduceToNat, Int.reduceAdd, Int.reduceSub, Int.reduceMul, Int.reduceNeg, Int.reduceBEq, Int.reduceBNe, nx_nil, c0, c1, c2, w1, h1, h2, c3, c4, c5, e1, hl, f0, f1, f2, f3, Int.toNat_natCast, Nat.mul_one, Nat.zero_add]
theorem c2_most (C : CT) (lf : Nat) (A : Nat) (b s : List Int) (i : Nat) (hi : i < 75) (N : Nat) : c2fin C lf (c2st (i : Int) A b s i) N = some ⟨.tup [sv b, .v (.bool false)], [], 1⟩ := by
  have c1 : (i : Int) < 75 := by omega
  have hl : (bytesV b).length = b.length := bytesV_length
  have e1 := bytes_full b
  have e2 : toNums (bytesV b) = some b := toNums_bytes
  have f0 : (bytesV b).all flat0 = true := all_bytesF
  have f1 := iC_flat (pls A 75)
  have f2 : (bytesV (bts s 75)).all flat0 = true := all_bytesF
  have c5 : b.length ≤ b.length := Nat.le_refl _
  unfold c2fin c2st
  rw [lh_as l_fuglemanref07_Commit_2.eq_1]
  simp only [sv]
  generalize iC (pls A 75) = k1 at *
  generalize bytesV (bts s 75) = k2 at *
  generalize bytesV b = cs at *
  generalize b.length = n at *
  simp -implicitDefEqProofs only [eqs, eqd, aCall, Sym.reach, Sym.pos, Sym.sub, ↓reduceIte, reduceCtorEq, Nat.reduceEqDiff, Nat.reduceAdd, Nat.reduceSub, Nat.reduceMul, Nat.reduceLT, Nat.reduceLeDiff, Nat.reduceBEq, Nat.reduceBNe, Nat.reduceGT, Int.reduceEq, Int.reduceLT, Int.reduceLE, Int.reduceToNat, Int.reduceAdd, Int.reduceSub, Int.reduceMul, Int.reduceNeg, Int.reduceBEq, Int.reduceBNe, nx_nil, c1, c5, hl, e1, e2, f0, f1, f2]
theorem c2_end (C : CT) (lf : Nat) (most : Int) (A : Nat) (b s : List Int) (N : Nat) : c2fin C lf (c2st most A b s 75) N = some ⟨.tup [sv b, .v (.bool true)], [], 1⟩ := by
  have hl : (bytesV b).length = b.length := bytesV_length
  have e1 := bytes_full b
  have e2 : toNums (bytesV b) = some b := toNums_bytes
  have f0 : (bytesV b).all flat0 = true := all_bytesF
  have f1 := iC_flat (pls A 75)
  have f2 : (bytesV (bts s 75)).all flat0 = true := all_bytesF
  have c1 : ¬ ((75 : Nat) : Int) < 75 := by decide
  unfold c2fin c2st
  rw [lh_as l_fuglemanref07_Commit_2.eq_1]
  simp only [sv]
  generalize iC (pls A 75) = k1 at *
  generalize bytesV (bts s 75) = k2 at *
  generalize bytesV b = cs at *
  generalize b.length = n at *
  simp -implicitDefEqProofs only [eqs, eqd, aCall, Sym.reach, Sym.pos, Sym.sub, ↓reduceIte, reduceCtorEq, Nat.reduceEqDiff, Nat.reduceAdd, Nat.reduceSub, Nat.reduceMul, Nat.reduceLT, Nat.reduceLeDiff, Nat.reduceBEq, Nat.reduceBNe, Nat.reduceGT, Int.reduceEq, Int.reduceLT, Int.reduceLE, Int.reduceToNat, Int.reduceAdd, Int.reduceSub, Int.reduceMul, Int.reduceNeg, Int.reduceBEq, Int.reduceBNe, nx_nil, l_fuglemanref07_Commit_3, c1, hl, e1, e2, f0, f1, f2, natLit, Nat.le_refl]
/-- All that are written, or as many as there is power for. -/
theorem c2_run (C : CT) (lf : Nat) (most : Int) (A : Nat) (hA : A ≤ 74) (s : List Int) (hs73 : s.length = 73) (b : List Int) (hb : 148 ≤ b.length) : ∀ (m i N : Nat), i + m = 75 → m ≤ N → (∀ j : Nat, j < i → most ≠ j) → c2fin C lf (c2st most A (seqB b A s i) s i) N = if 0 ≤ most ∧ most < 75 then some ⟨.tup [sv (tornB b A s most.toNat), .v (.bool false)], [], 1⟩ else some ⟨.tup [sv (tornB b A s 75), .v (.bool true)], [], 1⟩
  | 0, i, N, hi, hN, hj => by
    obtain rfl : i = 75 := by omega
    rw [if_neg (fun h => by
      obtain ⟨h1, h2⟩ := h
      exact hj most.toNat (by omega) (by omega)), c2_end, seqB_torn hs73 (Nat.le_refl _)]
  | m + 1, i, N, hi, hN, hj => by
    obtain ⟨N, rfl⟩ : ∃ M, N = M + 1 := ⟨N - 1, by omega⟩
    by_cases c : most = i
    · subst c
      rw [if_pos ⟨by omega, by omega⟩, c2_most C lf A _ s i (by omega), seqB_torn hs73 (by omega), Int.toNat_natCast]
    · have h := c2_run C lf most A hA s hs73 b hb m (i + 1) N (by omega) (by omega) (fun j hj2 => by
        by_cases z : j = i
        · subst z; exact c
        · exact hj j (by omega))
      unfold c2fin at h ⊢
      rw [c2_next C lf most A hA _ s (by rw [seqB_len]; exact hb) i (by omega) c N]
      exact h
def atD (b : List Int) : Nat := 74 * toAt (nwB b)
theorem dcommit_a (k : Nat) (hk : 2009 ≤ k) (b : List Int) (hb : By b) (h1 : 148 ≤ b.length) (h2 : b.length ≤ 1000) (r : Rec) (hr : r.In) (most : Int) : acall T (k + 8) 31 0 [sv b, .agg r.av, .v (.int .i64 most)] [] = if 0 ≤ most ∧ most < 75 then some ⟨.tup [sv (tornB b (atD b) (sealL (b0 r)) most.toNat), .v (.bool false)], [], 1⟩ else some ⟨.tup [sv (tornB b (atD b) (sealL (b0 r)) 75), .v (.bool true)], [], 1⟩ := by
  have p1 := rnewest_a k hk b hb h1 h2
  have p2 := slot_a (k + 2) (by omega) r hr
  have hs : By (sealL (b0 r)) := by_seal (by_b0 hr)
  have hs73 : (sealL (b0 r)).length = 73 := by rw [seal_len, b0_len hr]
  obtain ⟨i, e, e0, e1⟩ := was_av (nwB b)
  rw [e] at p1
  have hA : atD b ≤ 74 := by
    have : toAt (nwB b) ≤ 1 := by unfold toAt; split <;> omega
    unfold atD
    omega
  have key := c2_run (acall T (k + 7)) (k + 7) most (atD b) hA (sealL (b0 r)) hs73 b h1 75 0 (k + 6) (by omega) (by omega) (fun j hj => absurd hj (by omega))
  rw [← key]
  clear key
  have k2 := c1_end (acall T (k + 7)) (k + 6) most (atD b) b (sealL (b0 r)) hs73 (k + 6 - 73)
  have k1 := c1_run (acall T (k + 7)) (k + 7) most (atD b) hA b (sealL (b0 r)) hs hs73 73 0 (k + 6) [.b 0, .c l_fuglemanref07_Commit_1] (by omega) (by omega)
  refine Eq.trans ?_ k2
  rw [← k1]
  clear k1 k2
  have eb := bytes_cells hb
  have hsz := so_size b
  have f0 : (bytesV b).all flat0 = true := all_bytesF
  have q1 : iC (pls (atD b) (0 + 1)) = [.v (.int .i64 (atD b : Nat))] := rfl
  have q2 : bytesV (bts (sealL (b0 r)) (0 + 1)) = [.v (.int .u8 0)] := rfl
  have lp : ∀ (ks : List It) (s : St), Lp (acall T (k + 7)) (k + 7) [2, 8, 11, 12, 13, 14, 15] l_fuglemanref07_Commit_0 (k + 7) ks s = Lh (acall T (k + 7)) (k + 7) (canon [2, 8, 11, 12, 13, 14, 15] s) [2, 8, 11, 12, 13, 14, 15] l_fuglemanref07_Commit_0 (k + 6) ks := fun ks s => lp_succ (n := k + 6)
  rw [acall_go (body := b_fuglemanref07_Commit) rfl rfl (Nat.zero_le _)]
  unfold c1st
  rw [q1, q2]
  by_cases c : i = 0
  · have ea : atD b = 74 := by unfold atD; rw [e0.1 c]
    subst c
    rw [ea]
    simp only [sv, Rec.av, natLit, Int.natCast_zero, Nat.zero_add] at p1 p2 ⊢
    generalize strOfNums (sealL (b0 r)) = y2 at *
    generalize bytesV b = cs at *
    generalize strOfNums b = y at *
    generalize b.length = n at *
    simp -implicitDefEqProofs only [eqs, eqd, aCall, Sym.reach, Sym.pos, Sym.sub, ↓reduceIte, reduceCtorEq, Nat.reduceEqDiff, Nat.reduceAdd, Nat.reduceSub, Nat.reduceMul, Nat.reduceLT, Nat.reduceLeDiff, Nat.reduceBEq, Nat.reduceBNe, Nat.reduceGT, Int.reduceEq, Int.reduceLT, Int.reduceLE, Int.reduceToNat, Int.reduceAdd, Int.reduceSub, Int.reduceMul, Int.reduceNeg, Int.reduceBEq, Int.reduceBNe, b_fuglemanref07_Commit, lp, p1, p2, hsz, eb, f0]
  · have ea : atD b = 0 := by
      have : toAt (nwB b) ≠ 1 := fun h => c (e0.2 h)
      have : toAt (nwB b) ≤ 1 := by unfold toAt; split <;> omega
      unfold atD
      omega
    have c' : (i == 0) = false := by simpa using c
    rw [ea]
    simp only [sv, Rec.av, natLit, Int.natCast_zero, Nat.zero_add] at p1 p2 ⊢
    generalize strOfNums (sealL (b0 r)) = y2 at *
    generalize bytesV b = cs at *
    generalize strOfNums b = y at *
    generalize b.length = n at *
    simp -implicitDefEqProofs only [eqs, eqd, aCall, Sym.reach, Sym.pos, Sym.sub, ↓reduceIte, reduceCtorEq, Nat.reduceEqDiff, Nat.reduceAdd, Nat.reduceSub, Nat.reduceMul, Nat.reduceLT, Nat.reduceLeDiff, Nat.reduceBEq, Nat.reduceBNe, Nat.reduceGT, Int.reduceEq, Int.reduceLT, Int.reduceLE, Int.reduceToNat, Int.reduceAdd, Int.reduceSub, Int.reduceMul, Int.reduceNeg, Int.reduceBEq, Int.reduceBNe, b_fuglemanref07_Commit, lp, p1, p2, hsz, eb, f0, c']
end Go.Proofs.YthdiljjbcaleoaaDoor.Ret

/- An act of the law RetainRuns, held against the document's. -/
namespace Go.Proofs.YthdiljjbcaleoaaDoor.Ret
open Go Go.Proofs.YthdiljjbcaleoaaDoor.Sym Go.Proofs.YthdiljjbcaleoaaDoor.Tab
set_option linter.unusedVariables false
set_option linter.unusedSimpArgs false
set_option maxHeartbeats 8000000
set_option maxRecDepth 20000
theorem lload_a (k : Nat) (hk : 2009 ≤ k) (d : Sto) (hd : d.Ok none) : acall T (k + 10) 21 1 [.ptr 0 0] [so d none, ro d.b] = some ⟨.v (.bool true), [so d none, ro d.b], 1⟩ := by
  have p1 := load_a (k + 1) (by omega) d none hd
  have p2 := bytes_a (k + 5) d none hd
  have hs := so_size d.b
  have f0 : (bytesV d.b).all flat0 = true := all_bytesF
  have hx0 := deq ByteArray.empty
  rw [acall_go (body := b_fuglemanlaw07_load) rfl rfl (Nat.le_succ 1)]
  by_cases c : d.b.length < 148
  · have c1 : (d.b.length : Int) < 148 := by omega
    rw [show nwL d.b = none from if_pos c] at p1
    simp only [so, ro, lres, oav, sv, Option.map_none, Option.isSome_none] at p1 p2 ⊢
    generalize bytesV d.b = cs at *
    generalize strOfNums d.b = y at *
    generalize d.b.length = n at *
    simp -implicitDefEqProofs (maxSteps := 1000000) only [eqs, eqd, aCall, Sym.reach, Sym.pos, Sym.sub, lh_some, ↓reduceIte, reduceCtorEq, Nat.reduceEqDiff, Nat.reduceAdd, Nat.reduceSub, Nat.reduceMul, Nat.reduceLT, Nat.reduceLeDiff, Nat.reduceBEq, Nat.reduceBNe, Nat.reduceGT, Int.reduceEq, Int.reduceLT, Int.reduceLE, Int.reduceToNat, Int.reduceAdd, Int.reduceSub, Int.reduceMul, Int.reduceNeg, Int.reduceBEq, Int.reduceBNe, g_fuglemanlaw07_load_0, b_fuglemanlaw07_load, g_fuglemanlaw07_load_0, p1, p2, hs, f0, c1, hx0]
  · have c1 : ¬ (d.b.length : Int) < 148 := by omega
    have p3 := rnewest_a (k + 2) (by omega) d.b hd.by_ (by omega) hd.len
    rw [show nwL d.b = nwB d.b from if_neg c] at p1
    cases hn : nwB d.b with
    | none =>
      rw [hn] at p1 p3
      simp only [so, ro, lres, rnres, oav, sv, Option.map_none, Option.isSome_none] at p1 p2 p3 ⊢
      generalize bytesV d.b = cs at *
      generalize strOfNums d.b = y at *
      generalize d.b.length = n at *
      simp -implicitDefEqProofs (maxSteps := 1000000) only [eqs, eqd, aCall, Sym.reach, Sym.pos, Sym.sub, lh_some, ↓reduceIte, reduceCtorEq, Nat.reduceEqDiff, Nat.reduceAdd, Nat.reduceSub, Nat.reduceMul, Nat.reduceLT, Nat.reduceLeDiff, Nat.reduceBEq, Nat.reduceBNe, Nat.reduceGT, Int.reduceEq, Int.reduceLT, Int.reduceLE, Int.reduceToNat, Int.reduceAdd, Int.reduceSub, Int.reduceMul, Int.reduceNeg, Int.reduceBEq, Int.reduceBNe, g_fuglemanlaw07_load_0, b_fuglemanlaw07_load, g_fuglemanlaw07_load_0, p1, p2, p3, hs, f0, c1, hx0]
    | some p =>
      obtain ⟨i, r⟩ := p
      rw [hn] at p1 p3
      have c2 : (0 : Int) ≤ i := by omega
      have hx := deq r.data
      simp only [so, ro, lres, rnres, oav, sv, Rec.av, Option.map_some, Option.isSome_some] at p1 p2 p3 ⊢
      generalize bytesV d.b = cs at *
      generalize strOfNums d.b = y at *
      generalize d.b.length = n at *
      simp -implicitDefEqProofs (maxSteps := 1000000) only [eqs, eqd, aCall, Sym.reach, Sym.pos, Sym.sub, lh_some, ↓reduceIte, reduceCtorEq, Nat.reduceEqDiff, Nat.reduceAdd, Nat.reduceSub, Nat.reduceMul, Nat.reduceLT, Nat.reduceLeDiff, Nat.reduceBEq, Nat.reduceBNe, Nat.reduceGT, Int.reduceEq, Int.reduceLT, Int.reduceLE, Int.reduceToNat, Int.reduceAdd, Int.reduceSub, Int.reduceMul, Int.reduceNeg, Int.reduceBEq, Int.reduceBNe, g_fuglemanlaw07_load_0, b_fuglemanlaw07_load, g_fuglemanlaw07_load_0, p1, p2, p3, hs, f0, c1, c2, hx]
/-- Power for so many bytes. -/
theorem one_arm (k : Nat) (d : Sto) (hd : d.Ok none) (a0 inc n : Int) (data : ByteArray) (hw : a0.tmod 3 = 2) (hn : 0 ≤ n ∧ n ≤ 255) : acall T (k + 10) 20 1 [.ptr 0 0, .agg [.v (.int .u8 a0), .v (.int .u16 inc), .v (.string data), .v (.int .u8 n)]] [so d none, ro d.b] = some ⟨.v (.bool true), [so { d with armed := true, left := n.toNat } none, ro d.b], 2⟩ := by
  obtain ⟨m, rfl⟩ : ∃ m : Nat, n = m := ⟨n.toNat, by omega⟩
  rw [Int.toNat_natCast]
  have p1 := bytes_a (k + 5) d none hd
  have p2 := arm_a (k + 8) d none m
  have hd2 : ({ d with armed := true, left := m } : Sto).Ok none := ⟨hd.by_, hd.len, hd.cap, by show m ≤ 1000; omega⟩
  have p3 := bytes_a (k + 5) { d with armed := true, left := m } none hd2
  have w1 : IntKind.i64.wrap (m : Int) = m := w64 (by omega) (by omega)
  have f0 : (bytesV d.b).all flat0 = true := all_bytesF
  have hx := deq (strOfNums d.b)
  rw [acall_go (body := b_fuglemanlaw07_one) rfl rfl (Nat.le_succ 1)]
  simp only [so, ro, sv] at p1 p2 p3 ⊢
  generalize bytesV d.b = cs at *
  generalize strOfNums d.b = y at *
  generalize d.b.length = q at *
  simp -implicitDefEqProofs (maxSteps := 1000000) only [eqs, eqd, aCall, Sym.reach, Sym.pos, Sym.sub, lh_some, ↓reduceIte, reduceCtorEq, Nat.reduceEqDiff, Nat.reduceAdd, Nat.reduceSub, Nat.reduceMul, Nat.reduceLT, Nat.reduceLeDiff, Nat.reduceBEq, Nat.reduceBNe, Nat.reduceGT, Int.reduceEq, Int.reduceLT, Int.reduceLE, Int.reduceToNat, Int.reduceAdd, Int.reduceSub, Int.reduceMul, Int.reduceNeg, Int.reduceBEq, Int.reduceBNe, g_fuglemanlaw07_one_0, g_fuglemanlaw07_one_1, g_fuglemanlaw07_one_2, g_fuglemanlaw07_one_3, g_fuglemanlaw07_one_4, g_fuglemanlaw07_one_5, b_fuglemanlaw07_one, g_fuglemanlaw07_one_0, g_fuglemanlaw07_one_1, g_fuglemanlaw07_one_2, g_fuglemanlaw07_one_3, g_fuglemanlaw07_one_4, g_fuglemanlaw07_one_5, p1, p2, p3, f0, hx, hw, w1]
def armN (d : Sto) : Int := if d.armed = true then (d.left : Int) else -1
theorem one_fail_boot (k : Nat) (hk : 2009 ≤ k) (d : Sto) (hd : d.Ok none) (hdk : d.dark = false) (a0 n : Int) (inc : Nat) (hi : inc < 65536) (data : ByteArray) (hw : a0.tmod 3 = 1) (f : Int) (hf : f ≠ 0) (h1 : btE d = (f, d)) (h2 : nxt d.b true inc data = (f, Rec.z)) :
    acall T (k + 14) 20 1 [.ptr 0 0, .agg [.v (.int .u8 a0), .v (.int .u16 inc), .v (.string data), .v (.int .u8 n)]] [so d none, ro d.b] = some ⟨.v (.bool true), [so d none, ro d.b], 2⟩ := by
  have p1 := bytes_a (k + 9) d none hd
  have p2 := armed_a (k + 12) d none
  have p3 := power_a (k + 12) d none
  have p4 := boot_a (k + 2) (by omega) d none hd
  have p5 := next_a (k + 5) (by omega) d.b hd.by_ hd.len true inc data hi
  rw [h1] at p4
  rw [h2] at p5
  rw [hdk] at p3
  have f0 : (bytesV d.b).all flat0 = true := all_bytesF
  have hx := deq (strOfNums d.b)
  have hx0 := deq ByteArray.empty
  have hf2 : (f != 0) = true := by simpa using hf
  rw [acall_go (body := b_fuglemanlaw07_one) rfl rfl (Nat.le_succ 1)]
  cases ha : d.armed with
  | false =>
    rw [ha] at p2
    simp only [so, ro, sv, cres, if_neg hf, oav, Rec.av, Rec.z, ha, hdk, Bool.false_eq_true, if_false, if_true, Bool.not_false, Int.natCast_zero] at p1 p2 p3 p4 p5 ⊢
    generalize bytesV d.b = cs at *
    generalize strOfNums d.b = y at *
    generalize d.b.length = q at *
    simp -implicitDefEqProofs (maxSteps := 1000000) only [eqs, eqd, aCall, Sym.reach, Sym.pos, Sym.sub, lh_some, ↓reduceIte, reduceCtorEq, Nat.reduceEqDiff, Nat.reduceAdd, Nat.reduceSub, Nat.reduceMul, Nat.reduceLT, Nat.reduceLeDiff, Nat.reduceBEq, Nat.reduceBNe, Nat.reduceGT, Int.reduceEq, Int.reduceLT, Int.reduceLE, Int.reduceToNat, Int.reduceAdd, Int.reduceSub, Int.reduceMul, Int.reduceNeg, Int.reduceBEq, Int.reduceBNe, g_fuglemanlaw07_one_0, g_fuglemanlaw07_one_1, g_fuglemanlaw07_one_2, g_fuglemanlaw07_one_3, g_fuglemanlaw07_one_4, g_fuglemanlaw07_one_5, b_fuglemanlaw07_one, g_fuglemanlaw07_one_0, g_fuglemanlaw07_one_1, g_fuglemanlaw07_one_2, g_fuglemanlaw07_one_3, g_fuglemanlaw07_one_4, g_fuglemanlaw07_one_5, p1, p2, p3, p4, p5, f0, hx, hx0, hw, hf2]
  | true =>
    rw [ha] at p2
    simp only [so, ro, sv, cres, if_neg hf, oav, Rec.av, Rec.z, ha, hdk, Bool.false_eq_true, if_false, if_true, Bool.not_false, Int.natCast_zero] at p1 p2 p3 p4 p5 ⊢
    generalize bytesV d.b = cs at *
    generalize strOfNums d.b = y at *
    generalize d.b.length = q at *
    simp -implicitDefEqProofs (maxSteps := 1000000) only [eqs, eqd, aCall, Sym.reach, Sym.pos, Sym.sub, lh_some, ↓reduceIte, reduceCtorEq, Nat.reduceEqDiff, Nat.reduceAdd, Nat.reduceSub, Nat.reduceMul, Nat.reduceLT, Nat.reduceLeDiff, Nat.reduceBEq, Nat.reduceBNe, Nat.reduceGT, Int.reduceEq, Int.reduceLT, Int.reduceLE, Int.reduceToNat, Int.reduceAdd, Int.reduceSub, Int.reduceMul, Int.reduceNeg, Int.reduceBEq, Int.reduceBNe, g_fuglemanlaw07_one_0, g_fuglemanlaw07_one_1, g_fuglemanlaw07_one_2, g_fuglemanlaw07_one_3, g_fuglemanlaw07_one_4, g_fuglemanlaw07_one_5, b_fuglemanlaw07_one, g_fuglemanlaw07_one_0, g_fuglemanlaw07_one_1, g_fuglemanlaw07_one_2, g_fuglemanlaw07_one_3, g_fuglemanlaw07_one_4, g_fuglemanlaw07_one_5, p1, p2, p3, p4, p5, f0, hx, hx0, hw, hf2]
theorem one_fail_comm (k : Nat) (hk : 2009 ≤ k) (d : Sto) (hd : d.Ok none) (hdk : d.dark = false) (a0 n : Int) (inc : Nat) (hi : inc < 65536) (data : ByteArray) (hw : a0.tmod 3 = 0) (f : Int) (hf : f ≠ 0) (p4 : acall T (k + 13) 10 1 [.ptr 0 0, .v (.int .u16 inc), .v (.string data)] [so d none, ro d.b] = some ⟨.v (.int .i64 f), [so d none, ro d.b], 2⟩) (h2 : nxt d.b false inc data = (f, Rec.z)) :
    acall T (k + 14) 20 1 [.ptr 0 0, .agg [.v (.int .u8 a0), .v (.int .u16 inc), .v (.string data), .v (.int .u8 n)]] [so d none, ro d.b] = some ⟨.v (.bool true), [so d none, ro d.b], 2⟩ := by
  have p1 := bytes_a (k + 9) d none hd
  have p2 := armed_a (k + 12) d none
  have p3 := power_a (k + 12) d none
  have p5 := next_a (k + 5) (by omega) d.b hd.by_ hd.len false inc data hi
  rw [h2] at p5
  rw [hdk] at p3
  have f0 : (bytesV d.b).all flat0 = true := all_bytesF
  have hx := deq (strOfNums d.b)
  have hx0 := deq ByteArray.empty
  have hf2 : (f != 0) = true := by simpa using hf
  rw [acall_go (body := b_fuglemanlaw07_one) rfl rfl (Nat.le_succ 1)]
  cases ha : d.armed with
  | false =>
    rw [ha] at p2
    simp only [so, ro, sv, cres, if_neg hf, oav, Rec.av, Rec.z, ha, hdk, Bool.false_eq_true, if_false, if_true, Bool.not_false, Int.natCast_zero] at p1 p2 p3 p4 p5 ⊢
    generalize bytesV d.b = cs at *
    generalize strOfNums d.b = y at *
    generalize d.b.length = q at *
    simp -implicitDefEqProofs (maxSteps := 1000000) only [eqs, eqd, aCall, Sym.reach, Sym.pos, Sym.sub, lh_some, ↓reduceIte, reduceCtorEq, Nat.reduceEqDiff, Nat.reduceAdd, Nat.reduceSub, Nat.reduceMul, Nat.reduceLT, Nat.reduceLeDiff, Nat.reduceBEq, Nat.reduceBNe, Nat.reduceGT, Int.reduceEq, Int.reduceLT, Int.reduceLE, Int.reduceToNat, Int.reduceAdd, Int.reduceSub, Int.reduceMul, Int.reduceNeg, Int.reduceBEq, Int.reduceBNe, g_fuglemanlaw07_one_0, g_fuglemanlaw07_one_1, g_fuglemanlaw07_one_2, g_fuglemanlaw07_one_3, g_fuglemanlaw07_one_4, g_fuglemanlaw07_one_5, b_fuglemanlaw07_one, g_fuglemanlaw07_one_0, g_fuglemanlaw07_one_1, g_fuglemanlaw07_one_2, g_fuglemanlaw07_one_3, g_fuglemanlaw07_one_4, g_fuglemanlaw07_one_5, p1, p2, p3, p4, p5, f0, hx, hx0, hw, hf2]
  | true =>
    rw [ha] at p2
    simp only [so, ro, sv, cres, if_neg hf, oav, Rec.av, Rec.z, ha, hdk, Bool.false_eq_true, if_false, if_true, Bool.not_false, Int.natCast_zero] at p1 p2 p3 p4 p5 ⊢
    generalize bytesV d.b = cs at *
    generalize strOfNums d.b = y at *
    generalize d.b.length = q at *
    simp -implicitDefEqProofs (maxSteps := 1000000) only [eqs, eqd, aCall, Sym.reach, Sym.pos, Sym.sub, lh_some, ↓reduceIte, reduceCtorEq, Nat.reduceEqDiff, Nat.reduceAdd, Nat.reduceSub, Nat.reduceMul, Nat.reduceLT, Nat.reduceLeDiff, Nat.reduceBEq, Nat.reduceBNe, Nat.reduceGT, Int.reduceEq, Int.reduceLT, Int.reduceLE, Int.reduceToNat, Int.reduceAdd, Int.reduceSub, Int.reduceMul, Int.reduceNeg, Int.reduceBEq, Int.reduceBNe, g_fuglemanlaw07_one_0, g_fuglemanlaw07_one_1, g_fuglemanlaw07_one_2, g_fuglemanlaw07_one_3, g_fuglemanlaw07_one_4, g_fuglemanlaw07_one_5, b_fuglemanlaw07_one, g_fuglemanlaw07_one_0, g_fuglemanlaw07_one_1, g_fuglemanlaw07_one_2, g_fuglemanlaw07_one_3, g_fuglemanlaw07_one_4, g_fuglemanlaw07_one_5, p1, p2, p3, p4, p5, f0, hx, hx0, hw, hf2]
end Go.Proofs.YthdiljjbcaleoaaDoor.Ret

/- An act that commits, held against the document's. -/
namespace Go.Proofs.YthdiljjbcaleoaaDoor.Ret
open Go Go.Proofs.YthdiljjbcaleoaaDoor.Sym Go.Proofs.YthdiljjbcaleoaaDoor.Tab
set_option linter.unusedVariables false
set_option linter.unusedSimpArgs false
set_option maxHeartbeats 8000000
set_option maxRecDepth 20000
theorem wr3_ok {d : Sto} {c : Option Nat} (h : d.Ok c) (a : Nat) {s : List Int} (hs : By s) : (wr3 d a s).2.Ok c := by
  have b0 : By [0] := .cons (by decide) .nil
  have b1 : By [165] := .cons (by decide) .nil
  unfold wr3
  simp only
  split
  · exact wr_ok h a b0
  split
  · exact wr_ok (wr_ok h a b0) _ hs
  · exact wr_ok (wr_ok (wr_ok h a b0) _ hs) _ b1
theorem cmt_go {d : Sto} (hl : 148 ≤ d.b.length) {inc : Nat} {data : ByteArray} (hs : (wasR (nwB d.b)).seq < 4294967295) : cmt d inc data = wr3 d (atD d.b) (sealL (b0 ⟨(wasR (nwB d.b)).seq + 1, inc, data⟩)) := by
  have e : nwL d.b = nwB d.b := if_neg (by omega)
  unfold cmt
  rw [e, if_neg (by omega), if_neg (by omega)]
  rfl
theorem cmt_done {d : Sto} (hd : d.Ok none) (hdk : d.dark = false) (hl : 148 ≤ d.b.length) (hp : ¬ (0 ≤ armN d ∧ armN d < 75)) {inc : Nat} {data : ByteArray} (hs : (wasR (nwB d.b)).seq < 4294967295) (hi : inc < 65536) (hdt : data.size ≤ 64) : (cmt d inc data).1 = 0 ∧ (cmt d inc data).2.b = tornB d.b (atD d.b) (sealL (b0 ⟨(wasR (nwB d.b)).seq + 1, inc, data⟩)) 75 ∧ (cmt d inc data).2.dark = false ∧ (cmt d inc data).2.Ok none := by
  have hr : (⟨(wasR (nwB d.b)).seq + 1, inc, data⟩ : Rec).In := ⟨by show (wasR (nwB d.b)).seq + 1 < 4294967296; omega, hi, hdt⟩
  have h73 : (sealL (b0 ⟨(wasR (nwB d.b)).seq + 1, inc, data⟩)).length = 73 := by rw [seal_len, b0_len hr]
  have ho := wr3_ok hd (atD d.b) (by_seal (by_b0 hr))
  rw [cmt_go hl hs]
  obtain ⟨l, w, e, -⟩ := wr3_all (d := d) (at_ := atD d.b) (s := sealL (b0 ⟨(wasR (nwB d.b)).seq + 1, inc, data⟩)) hdk (by
    cases ha : d.armed
    · exact Or.inl rfl
    · refine Or.inr ?_
      unfold armN at hp
      rw [ha, if_pos rfl] at hp
      omega)
  rw [e] at ho ⊢
  rw [h73] at ho ⊢
  exact ⟨rfl, rfl, rfl, ho⟩
theorem cmt_torn2 {d : Sto} (hd : d.Ok none) (hdk : d.dark = false) (hl : 148 ≤ d.b.length) (ha : d.armed = true) (hp : d.left < 75) {inc : Nat} {data : ByteArray} (hs : (wasR (nwB d.b)).seq < 4294967295) (hi : inc < 65536) (hdt : data.size ≤ 64) : (cmt d inc data).1 = 12 ∧ (cmt d inc data).2.b = tornB d.b (atD d.b) (sealL (b0 ⟨(wasR (nwB d.b)).seq + 1, inc, data⟩)) d.left ∧ (cmt d inc data).2.dark = true ∧ (cmt d inc data).2.Ok none := by
  have hr : (⟨(wasR (nwB d.b)).seq + 1, inc, data⟩ : Rec).In := ⟨by show (wasR (nwB d.b)).seq + 1 < 4294967296; omega, hi, hdt⟩
  have h73 : (sealL (b0 ⟨(wasR (nwB d.b)).seq + 1, inc, data⟩)).length = 73 := by rw [seal_len, b0_len hr]
  have ho := wr3_ok hd (atD d.b) (by_seal (by_b0 hr))
  rw [cmt_go hl hs]
  obtain ⟨w, e⟩ := wr3_torn (d := d) (at_ := atD d.b) (s := sealL (b0 ⟨(wasR (nwB d.b)).seq + 1, inc, data⟩)) hdk ha (by rw [h73]; exact hp)
  rw [e] at ho ⊢
  exact ⟨rfl, rfl, rfl, ho⟩
theorem one_boot_torn (k : Nat) (hk : 2009 ≤ k) (d : Sto) (hd : d.Ok none) (hdk : d.dark = false) (a0 n : Int) (inc : Nat) (hi : inc < 65536) (data : ByteArray) (hw : a0.tmod 3 = 1) (hl : 148 ≤ d.b.length) (d2 : Sto) (hd2 : d2.Ok none) (r : Rec) (hr : r.In) (s : Nat) (i : Nat) (dt : ByteArray) (hs3 : r = ⟨s, i, dt⟩) (p4 : acall T (k + 13) 11 1 [.ptr 0 0] [so d none, ro d.b] = some ⟨cres 12 s i dt, [so d2 none, ro d2.b], 2⟩) (ha : d.armed = true) (hleft : d.left < 75) (h5 : nxt d.b true inc data = (0, r)) (hb : d2.b = tornB d.b (atD d.b) (sealL (b0 r)) d.left) (hdk2 : d2.dark = true) :
    acall T (k + 14) 20 1 [.ptr 0 0, .agg [.v (.int .u8 a0), .v (.int .u16 inc), .v (.string data), .v (.int .u8 n)]] [so d none, ro d.b] = some ⟨.v (.bool true), [so d2 none, ro d2.b], 2⟩ := by
  have p1 := bytes_a (k + 9) d none hd
  have p2 := armed_a (k + 12) d none
  have p3 := power_a (k + 12) d none
  have p5 := next_a (k + 5) (by omega) d.b hd.by_ hd.len true inc data hi
  rw [h5] at p5
  have p6 := dcommit_a (k + 5) (by omega) d.b hd.by_ hl hd.len r hr (armN d)
  rw [if_pos ⟨by unfold armN; rw [ha, if_pos rfl]; omega, by unfold armN; rw [ha, if_pos rfl]; omega⟩, show (armN d).toNat = d.left from by unfold armN; rw [ha, if_pos rfl]; rfl] at p6
  have p7 := bytes_a (k + 9) d2 none hd2
  have p8 := power_a (k + 12) d2 none
  rw [hdk] at p3
  rw [hdk2] at p8
  have hlen : d2.b.length = d.b.length := by rw [hb, tornB_len]
  have f0 : (bytesV d.b).all flat0 = true := all_bytesF
  have f2 : (bytesV d2.b).all flat0 = true := all_bytesF
  have hx := deq (strOfNums d2.b)
  have hx0 := deq ByteArray.empty
  have hx9 := deq r.data
  rw [← hb] at p6
  rw [acall_go (body := b_fuglemanlaw07_one) rfl rfl (Nat.le_succ 1)]
  subst hs3
  rw [ha] at p2
  simp only [so, ro, sv, cres, oav, Rec.av, armN, ha, hdk, hdk2, hlen, Bool.false_eq_true, if_false, if_true, Bool.not_false, Bool.not_true, Int.natCast_zero, Int.reduceEq] at p1 p2 p3 p4 p5 p6 p7 p8 ⊢
  generalize bytesV d.b = cs at *
  generalize bytesV d2.b = cs2 at *
  generalize strOfNums d2.b = y2 at *
  generalize strOfNums d.b = y at *
  generalize d.b.length = q at *
  simp -implicitDefEqProofs (maxSteps := 1000000) only [eqs, eqd, aCall, Sym.reach, Sym.pos, Sym.sub, lh_some, ↓reduceIte, reduceCtorEq, Nat.reduceEqDiff, Nat.reduceAdd, Nat.reduceSub, Nat.reduceMul, Nat.reduceLT, Nat.reduceLeDiff, Nat.reduceBEq, Nat.reduceBNe, Nat.reduceGT, Int.reduceEq, Int.reduceLT, Int.reduceLE, Int.reduceToNat, Int.reduceAdd, Int.reduceSub, Int.reduceMul, Int.reduceNeg, Int.reduceBEq, Int.reduceBNe, g_fuglemanlaw07_one_0, g_fuglemanlaw07_one_1, g_fuglemanlaw07_one_2, g_fuglemanlaw07_one_3, g_fuglemanlaw07_one_4, g_fuglemanlaw07_one_5, b_fuglemanlaw07_one, g_fuglemanlaw07_one_0, g_fuglemanlaw07_one_1, g_fuglemanlaw07_one_2, g_fuglemanlaw07_one_3, g_fuglemanlaw07_one_4, g_fuglemanlaw07_one_5, p1, p2, p3, p4, p5, p6, p7, p8, f0, f2, hx, hx0, hx9, hw]
theorem one_boot_done (k : Nat) (hk : 2009 ≤ k) (d : Sto) (hd : d.Ok none) (hdk : d.dark = false) (a0 n : Int) (inc : Nat) (hi : inc < 65536) (data : ByteArray) (hw : a0.tmod 3 = 1) (hl : 148 ≤ d.b.length) (d2 : Sto) (hd2 : d2.Ok none) (r : Rec) (hr : r.In) (s : Nat) (i : Nat) (dt : ByteArray) (hs3 : r = ⟨s, i, dt⟩) (p4 : acall T (k + 13) 11 1 [.ptr 0 0] [so d none, ro d.b] = some ⟨cres 0 s i dt, [so d2 none, ro d2.b], 2⟩) (hp : ¬ (0 ≤ armN d ∧ armN d < 75)) (h5 : nxt d.b true inc data = (0, r)) (hb : d2.b = tornB d.b (atD d.b) (sealL (b0 r)) 75) (hdk2 : d2.dark = false) :
    acall T (k + 14) 20 1 [.ptr 0 0, .agg [.v (.int .u8 a0), .v (.int .u16 inc), .v (.string data), .v (.int .u8 n)]] [so d none, ro d.b] = some ⟨.v (.bool true), [so d2 none, ro d2.b], 2⟩ := by
  have p1 := bytes_a (k + 9) d none hd
  have p2 := armed_a (k + 12) d none
  have p3 := power_a (k + 12) d none
  have p5 := next_a (k + 5) (by omega) d.b hd.by_ hd.len true inc data hi
  rw [h5] at p5
  have p6 := dcommit_a (k + 5) (by omega) d.b hd.by_ hl hd.len r hr (armN d)
  rw [if_neg hp] at p6
  have p7 := bytes_a (k + 9) d2 none hd2
  have p8 := power_a (k + 12) d2 none
  rw [hdk] at p3
  rw [hdk2] at p8
  have hlen : d2.b.length = d.b.length := by rw [hb, tornB_len]
  have f0 : (bytesV d.b).all flat0 = true := all_bytesF
  have f2 : (bytesV d2.b).all flat0 = true := all_bytesF
  have hx := deq (strOfNums d2.b)
  have hx0 := deq ByteArray.empty
  have hx9 := deq r.data
  rw [← hb] at p6
  rw [acall_go (body := b_fuglemanlaw07_one) rfl rfl (Nat.le_succ 1)]
  subst hs3
  cases ha : d.armed with
  | false =>
    rw [ha] at p2
    simp only [so, ro, sv, cres, oav, Rec.av, armN, ha, hdk, hdk2, hlen, Bool.false_eq_true, if_false, if_true, Bool.not_false, Bool.not_true, Int.natCast_zero, Int.reduceEq] at p1 p2 p3 p4 p5 p6 p7 p8 ⊢
    generalize bytesV d.b = cs at *
    generalize bytesV d2.b = cs2 at *
    generalize strOfNums d2.b = y2 at *
    generalize strOfNums d.b = y at *
    generalize d.b.length = q at *
    simp -implicitDefEqProofs (maxSteps := 1000000) only [eqs, eqd, aCall, Sym.reach, Sym.pos, Sym.sub, lh_some, ↓reduceIte, reduceCtorEq, Nat.reduceEqDiff, Nat.reduceAdd, Nat.reduceSub, Nat.reduceMul, Nat.reduceLT, Nat.reduceLeDiff, Nat.reduceBEq, Nat.reduceBNe, Nat.reduceGT, Int.reduceEq, Int.reduceLT, Int.reduceLE, Int.reduceToNat, Int.reduceAdd, Int.reduceSub, Int.reduceMul, Int.reduceNeg, Int.reduceBEq, Int.reduceBNe, g_fuglemanlaw07_one_0, g_fuglemanlaw07_one_1, g_fuglemanlaw07_one_2, g_fuglemanlaw07_one_3, g_fuglemanlaw07_one_4, g_fuglemanlaw07_one_5, b_fuglemanlaw07_one, g_fuglemanlaw07_one_0, g_fuglemanlaw07_one_1, g_fuglemanlaw07_one_2, g_fuglemanlaw07_one_3, g_fuglemanlaw07_one_4, g_fuglemanlaw07_one_5, p1, p2, p3, p4, p5, p6, p7, p8, f0, f2, hx, hx0, hx9, hw]
  | true =>
    rw [ha] at p2
    simp only [so, ro, sv, cres, oav, Rec.av, armN, ha, hdk, hdk2, hlen, Bool.false_eq_true, if_false, if_true, Bool.not_false, Bool.not_true, Int.natCast_zero, Int.reduceEq] at p1 p2 p3 p4 p5 p6 p7 p8 ⊢
    generalize bytesV d.b = cs at *
    generalize bytesV d2.b = cs2 at *
    generalize strOfNums d2.b = y2 at *
    generalize strOfNums d.b = y at *
    generalize d.b.length = q at *
    simp -implicitDefEqProofs (maxSteps := 1000000) only [eqs, eqd, aCall, Sym.reach, Sym.pos, Sym.sub, lh_some, ↓reduceIte, reduceCtorEq, Nat.reduceEqDiff, Nat.reduceAdd, Nat.reduceSub, Nat.reduceMul, Nat.reduceLT, Nat.reduceLeDiff, Nat.reduceBEq, Nat.reduceBNe, Nat.reduceGT, Int.reduceEq, Int.reduceLT, Int.reduceLE, Int.reduceToNat, Int.reduceAdd, Int.reduceSub, Int.reduceMul, Int.reduceNeg, Int.reduceBEq, Int.reduceBNe, g_fuglemanlaw07_one_0, g_fuglemanlaw07_one_1, g_fuglemanlaw07_one_2, g_fuglemanlaw07_one_3, g_fuglemanlaw07_one_4, g_fuglemanlaw07_one_5, b_fuglemanlaw07_one, g_fuglemanlaw07_one_0, g_fuglemanlaw07_one_1, g_fuglemanlaw07_one_2, g_fuglemanlaw07_one_3, g_fuglemanlaw07_one_4, g_fuglemanlaw07_one_5, p1, p2, p3, p4, p5, p6, p7, p8, f0, f2, hx, hx0, hx9, hw]
theorem one_comm_torn (k : Nat) (hk : 2009 ≤ k) (d : Sto) (hd : d.Ok none) (hdk : d.dark = false) (a0 n : Int) (inc : Nat) (hi : inc < 65536) (data : ByteArray) (hw : a0.tmod 3 = 0) (hl : 148 ≤ d.b.length) (d2 : Sto) (hd2 : d2.Ok none) (r : Rec) (hr : r.In) (p4 : acall T (k + 13) 10 1 [.ptr 0 0, .v (.int .u16 inc), .v (.string data)] [so d none, ro d.b] = some ⟨.v (.int .i64 12), [so d2 none, ro d2.b], 2⟩) (ha : d.armed = true) (hleft : d.left < 75) (h5 : nxt d.b false inc data = (0, r)) (hb : d2.b = tornB d.b (atD d.b) (sealL (b0 r)) d.left) (hdk2 : d2.dark = true) :
    acall T (k + 14) 20 1 [.ptr 0 0, .agg [.v (.int .u8 a0), .v (.int .u16 inc), .v (.string data), .v (.int .u8 n)]] [so d none, ro d.b] = some ⟨.v (.bool true), [so d2 none, ro d2.b], 2⟩ := by
  have p1 := bytes_a (k + 9) d none hd
  have p2 := armed_a (k + 12) d none
  have p3 := power_a (k + 12) d none
  have p5 := next_a (k + 5) (by omega) d.b hd.by_ hd.len false inc data hi
  rw [h5] at p5
  have p6 := dcommit_a (k + 5) (by omega) d.b hd.by_ hl hd.len r hr (armN d)
  rw [if_pos ⟨by unfold armN; rw [ha, if_pos rfl]; omega, by unfold armN; rw [ha, if_pos rfl]; omega⟩, show (armN d).toNat = d.left from by unfold armN; rw [ha, if_pos rfl]; rfl] at p6
  have p7 := bytes_a (k + 9) d2 none hd2
  have p8 := power_a (k + 12) d2 none
  rw [hdk] at p3
  rw [hdk2] at p8
  have hlen : d2.b.length = d.b.length := by rw [hb, tornB_len]
  have f0 : (bytesV d.b).all flat0 = true := all_bytesF
  have f2 : (bytesV d2.b).all flat0 = true := all_bytesF
  have hx := deq (strOfNums d2.b)
  have hx0 := deq ByteArray.empty
  have hx9 := deq r.data
  rw [← hb] at p6
  rw [acall_go (body := b_fuglemanlaw07_one) rfl rfl (Nat.le_succ 1)]
  rw [ha] at p2
  simp only [so, ro, sv, cres, oav, Rec.av, armN, ha, hdk, hdk2, hlen, Bool.false_eq_true, if_false, if_true, Bool.not_false, Bool.not_true, Int.natCast_zero, Int.reduceEq] at p1 p2 p3 p4 p5 p6 p7 p8 ⊢
  generalize bytesV d.b = cs at *
  generalize bytesV d2.b = cs2 at *
  generalize strOfNums d2.b = y2 at *
  generalize strOfNums d.b = y at *
  generalize d.b.length = q at *
  simp -implicitDefEqProofs (maxSteps := 1000000) only [eqs, eqd, aCall, Sym.reach, Sym.pos, Sym.sub, lh_some, ↓reduceIte, reduceCtorEq, Nat.reduceEqDiff, Nat.reduceAdd, Nat.reduceSub, Nat.reduceMul, Nat.reduceLT, Nat.reduceLeDiff, Nat.reduceBEq, Nat.reduceBNe, Nat.reduceGT, Int.reduceEq, Int.reduceLT, Int.reduceLE, Int.reduceToNat, Int.reduceAdd, Int.reduceSub, Int.reduceMul, Int.reduceNeg, Int.reduceBEq, Int.reduceBNe, g_fuglemanlaw07_one_0, g_fuglemanlaw07_one_1, g_fuglemanlaw07_one_2, g_fuglemanlaw07_one_3, g_fuglemanlaw07_one_4, g_fuglemanlaw07_one_5, b_fuglemanlaw07_one, g_fuglemanlaw07_one_0, g_fuglemanlaw07_one_1, g_fuglemanlaw07_one_2, g_fuglemanlaw07_one_3, g_fuglemanlaw07_one_4, g_fuglemanlaw07_one_5, p1, p2, p3, p4, p5, p6, p7, p8, f0, f2, hx, hx0, hx9, hw]
theorem one_comm_done (k : Nat) (hk : 2009 ≤ k) (d : Sto) (hd : d.Ok none) (hdk : d.dark = false) (a0 n : Int) (inc : Nat) (hi : inc < 65536) (data : ByteArray) (hw : a0.tmod 3 = 0) (hl : 148 ≤ d.b.length) (d2 : Sto) (hd2 : d2.Ok none) (r : Rec) (hr : r.In) (p4 : acall T (k + 13) 10 1 [.ptr 0 0, .v (.int .u16 inc), .v (.string data)] [so d none, ro d.b] = some ⟨.v (.int .i64 0), [so d2 none, ro d2.b], 2⟩) (hp : ¬ (0 ≤ armN d ∧ armN d < 75)) (h5 : nxt d.b false inc data = (0, r)) (hb : d2.b = tornB d.b (atD d.b) (sealL (b0 r)) 75) (hdk2 : d2.dark = false) :
    acall T (k + 14) 20 1 [.ptr 0 0, .agg [.v (.int .u8 a0), .v (.int .u16 inc), .v (.string data), .v (.int .u8 n)]] [so d none, ro d.b] = some ⟨.v (.bool true), [so d2 none, ro d2.b], 2⟩ := by
  have p1 := bytes_a (k + 9) d none hd
  have p2 := armed_a (k + 12) d none
  have p3 := power_a (k + 12) d none
  have p5 := next_a (k + 5) (by omega) d.b hd.by_ hd.len false inc data hi
  rw [h5] at p5
  have p6 := dcommit_a (k + 5) (by omega) d.b hd.by_ hl hd.len r hr (armN d)
  rw [if_neg hp] at p6
  have p7 := bytes_a (k + 9) d2 none hd2
  have p8 := power_a (k + 12) d2 none
  rw [hdk] at p3
  rw [hdk2] at p8
  have hlen : d2.b.length = d.b.length := by rw [hb, tornB_len]
  have f0 : (bytesV d.b).all flat0 = true := all_bytesF
  have f2 : (bytesV d2.b).all flat0 = true := all_bytesF
  have hx := deq (strOfNums d2.b)
  have hx0 := deq ByteArray.empty
  have hx9 := deq r.data
  rw [← hb] at p6
  rw [acall_go (body := b_fuglemanlaw07_one) rfl rfl (Nat.le_succ 1)]
  cases ha : d.armed with
  | false =>
    rw [ha] at p2
    simp only [so, ro, sv, cres, oav, Rec.av, armN, ha, hdk, hdk2, hlen, Bool.false_eq_true, if_false, if_true, Bool.not_false, Bool.not_true, Int.natCast_zero, Int.reduceEq] at p1 p2 p3 p4 p5 p6 p7 p8 ⊢
    generalize bytesV d.b = cs at *
    generalize bytesV d2.b = cs2 at *
    generalize strOfNums d2.b = y2 at *
    generalize strOfNums d.b = y at *
    generalize d.b.length = q at *
    simp -implicitDefEqProofs (maxSteps := 1000000) only [eqs, eqd, aCall, Sym.reach, Sym.pos, Sym.sub, lh_some, ↓reduceIte, reduceCtorEq, Nat.reduceEqDiff, Nat.reduceAdd, Nat.reduceSub, Nat.reduceMul, Nat.reduceLT, Nat.reduceLeDiff, Nat.reduceBEq, Nat.reduceBNe, Nat.reduceGT, Int.reduceEq, Int.reduceLT, Int.reduceLE, Int.reduceToNat, Int.reduceAdd, Int.reduceSub, Int.reduceMul, Int.reduceNeg, Int.reduceBEq, Int.reduceBNe, g_fuglemanlaw07_one_0, g_fuglemanlaw07_one_1, g_fuglemanlaw07_one_2, g_fuglemanlaw07_one_3, g_fuglemanlaw07_one_4, g_fuglemanlaw07_one_5, b_fuglemanlaw07_one, g_fuglemanlaw07_one_0, g_fuglemanlaw07_one_1, g_fuglemanlaw07_one_2, g_fuglemanlaw07_one_3, g_fuglemanlaw07_one_4, g_fuglemanlaw07_one_5, p1, p2, p3, p4, p5, p6, p7, p8, f0, f2, hx, hx0, hx9, hw]
  | true =>
    rw [ha] at p2
    simp only [so, ro, sv, cres, oav, Rec.av, armN, ha, hdk, hdk2, hlen, Bool.false_eq_true, if_false, if_true, Bool.not_false, Bool.not_true, Int.natCast_zero, Int.reduceEq] at p1 p2 p3 p4 p5 p6 p7 p8 ⊢
    generalize bytesV d.b = cs at *
    generalize bytesV d2.b = cs2 at *
    generalize strOfNums d2.b = y2 at *
    generalize strOfNums d.b = y at *
    generalize d.b.length = q at *
    simp -implicitDefEqProofs (maxSteps := 1000000) only [eqs, eqd, aCall, Sym.reach, Sym.pos, Sym.sub, lh_some, ↓reduceIte, reduceCtorEq, Nat.reduceEqDiff, Nat.reduceAdd, Nat.reduceSub, Nat.reduceMul, Nat.reduceLT, Nat.reduceLeDiff, Nat.reduceBEq, Nat.reduceBNe, Nat.reduceGT, Int.reduceEq, Int.reduceLT, Int.reduceLE, Int.reduceToNat, Int.reduceAdd, Int.reduceSub, Int.reduceMul, Int.reduceNeg, Int.reduceBEq, Int.reduceBNe, g_fuglemanlaw07_one_0, g_fuglemanlaw07_one_1, g_fuglemanlaw07_one_2, g_fuglemanlaw07_one_3, g_fuglemanlaw07_one_4, g_fuglemanlaw07_one_5, b_fuglemanlaw07_one, g_fuglemanlaw07_one_0, g_fuglemanlaw07_one_1, g_fuglemanlaw07_one_2, g_fuglemanlaw07_one_3, g_fuglemanlaw07_one_4, g_fuglemanlaw07_one_5, p1, p2, p3, p4, p5, p6, p7, p8, f0, f2, hx, hx0, hx9, hw]
end Go.Proofs.YthdiljjbcaleoaaDoor.Ret

/- The law RetainRuns. -/
namespace Go.Proofs.YthdiljjbcaleoaaDoor.Said
open Go Go.Proofs.YthdiljjbcaleoaaDoor.Sym Go.Proofs.YthdiljjbcaleoaaDoor.Tab Go.Proofs.YthdiljjbcaleoaaDoor.Args Go.Proofs.YthdiljjbcaleoaaDoor.Ret
set_option linter.unusedVariables false
set_option linter.unusedSimpArgs false
set_option maxHeartbeats 8000000
set_option maxRecDepth 20000
abbrev Act := S47
theorem nxt_err {b : List Int} {boot : Bool} {inc : Nat} {data : ByteArray} (h : (nxt b boot inc data).1 ≠ 0) : nxt b boot inc data = ((nxt b boot inc data).1, Rec.z) := by
  unfold nxt at h ⊢
  split
  · rfl
  split
  · rfl
  split
  · rfl
  split
  · rfl
  · exfalso
    rename_i h1 h2 h3 h4
    rw [if_neg h1, if_neg h2, if_neg h3, if_neg h4] at h
    exact h rfl
/-- Any act: both agree. -/
theorem one_all (k : Nat) (hk : 2009 ≤ k) (d : Sto) (hd : d.Ok none) (hdk : d.dark = false) (a : Act) (ha : a.In) : ∃ d' : Sto, d'.Ok none ∧ acall T (k + 14) 20 1 [.ptr 0 0, .agg a.av] [so d none, ro d.b] = some ⟨.v (.bool true), [so d' none, ro d'.b], 2⟩ := by
  obtain ⟨a0, ai, data, n⟩ := a
  obtain ⟨h0, h1, h2, h3⟩ := ha
  simp only at h0 h1 h2 h3
  obtain ⟨inc, rfl⟩ : ∃ inc : Nat, ai = inc := ⟨ai.toNat, by omega⟩
  have hi : inc < 65536 := by omega
  simp only [S47.av]
  have ht1 := Int.tmod_nonneg 3 h0.1
  have ht2 := Int.tmod_lt_of_pos a0 (show (0 : Int) < 3 by decide)
  have hw : a0.tmod 3 = 0 ∨ a0.tmod 3 = 1 ∨ a0.tmod 3 = 2 := by omega
  have hwas := was_in hd.by_
  rcases hw with hw | hw | hw
  · -- a commit
    by_cases hlong : 64 < data.size
    · have p4 := comm_long (k + 12) d none inc data hlong
      exact ⟨d, hd, one_fail_comm k hk d hd hdk a0 n inc hi data hw 2 (by decide) p4 (if_pos ⟨rfl, hlong⟩)⟩
    have p4 := comm_a (k + 2) (by omega) d none hd inc data hi (by omega)
    by_cases hl : d.b.length < 148
    · have e : cmt d inc data = (1, d) := by
        unfold cmt
        rw [show nwL d.b = none from if_pos hl, if_neg (by decide), if_pos hl]
      rw [e] at p4
      exact ⟨d, hd, one_fail_comm k hk d hd hdk a0 n inc hi data hw 1 (by decide) p4 (by unfold nxt; rw [if_neg (fun h => hlong h.2), if_pos hl])⟩
    rw [show nwL d.b = nwB d.b from if_neg hl] at hwas
    have hseq := hwas.seq
    by_cases hm : (wasR (nwB d.b)).seq = 4294967295
    · have e : cmt d inc data = (13, d) := by
        unfold cmt
        rw [show nwL d.b = nwB d.b from if_neg hl, if_pos hm]
      rw [e] at p4
      exact ⟨d, hd, one_fail_comm k hk d hd hdk a0 n inc hi data hw 13 (by decide) p4 (by unfold nxt; rw [if_neg (fun h => hlong h.2), if_neg hl, if_neg (by simp), if_pos hm])⟩
    have h5 : nxt d.b false inc data = (0, ⟨(wasR (nwB d.b)).seq + 1, inc, data⟩) := by
      unfold nxt
      rw [if_neg (fun h => hlong h.2), if_neg hl, if_neg (by simp), if_neg hm]
      rfl
    have hr : (⟨(wasR (nwB d.b)).seq + 1, inc, data⟩ : Rec).In := ⟨by show (wasR (nwB d.b)).seq + 1 < 4294967296; omega, hi, by show data.size ≤ 64; omega⟩
    by_cases hp : 0 ≤ armN d ∧ armN d < 75
    · have har : d.armed = true := by
        cases hx : d.armed
        · unfold armN at hp
          rw [hx, if_neg (by decide)] at hp
          omega
        · rfl
      have hlf : d.left < 75 := by
        unfold armN at hp
        rw [har, if_pos rfl] at hp
        omega
      obtain ⟨e1, e2, e3, e4⟩ := cmt_torn2 hd hdk (by omega) har hlf (inc := inc) (data := data) (by omega) hi (by omega)
      rw [e1] at p4
      exact ⟨_, e4, one_comm_torn k hk d hd hdk a0 n inc hi data hw (by omega) _ e4 _ hr p4 har hlf h5 e2 e3⟩
    · obtain ⟨e1, e2, e3, e4⟩ := cmt_done hd hdk (by omega) hp (inc := inc) (data := data) (by omega) hi (by omega)
      rw [e1] at p4
      exact ⟨_, e4, one_comm_done k hk d hd hdk a0 n inc hi data hw (by omega) _ e4 _ hr p4 hp h5 e2 e3⟩
  · -- a boot
    have p4 := boot_a (k + 2) (by omega) d none hd
    by_cases hl : d.b.length < 148
    · have e : btE d = (1, d) := by
        unfold btE cmt
        rw [show nwL d.b = none from if_pos hl, if_neg (by decide), if_neg (by decide), if_pos hl]
      exact ⟨d, hd, one_fail_boot k hk d hd hdk a0 n inc hi data hw 1 (by decide) e (by unfold nxt; rw [if_neg (by simp), if_pos hl])⟩
    have el : nwL d.b = nwB d.b := if_neg hl
    rw [el] at hwas
    have hseq := hwas.seq
    have hinc := hwas.inc
    have hdt := hwas.data
    by_cases hmi : (wasR (nwB d.b)).inc = 65535
    · have e : btE d = (13, d) := by
        unfold btE
        rw [el, if_pos hmi]
      exact ⟨d, hd, one_fail_boot k hk d hd hdk a0 n inc hi data hw 13 (by decide) e (by unfold nxt; rw [if_neg (by simp), if_neg hl, if_pos ⟨rfl, hmi⟩])⟩
    have eb : btE d = cmt d ((wasR (nwB d.b)).inc + 1) (wasR (nwB d.b)).data := by
      unfold btE
      rw [el, if_neg hmi]
    by_cases hm : (wasR (nwB d.b)).seq = 4294967295
    · have e : btE d = (13, d) := by
        rw [eb]
        unfold cmt
        rw [el, if_pos hm]
      exact ⟨d, hd, one_fail_boot k hk d hd hdk a0 n inc hi data hw 13 (by decide) e (by unfold nxt; rw [if_neg (by simp), if_neg hl, if_neg (fun h => hmi h.2), if_pos hm])⟩
    rw [eb, el] at p4
    have h5 : nxt d.b true inc data = (0, ⟨(wasR (nwB d.b)).seq + 1, (wasR (nwB d.b)).inc + 1, (wasR (nwB d.b)).data⟩) := by
      unfold nxt
      rw [if_neg (by simp), if_neg hl, if_neg (fun h => hmi h.2), if_neg hm]
      rfl
    have hr : (⟨(wasR (nwB d.b)).seq + 1, (wasR (nwB d.b)).inc + 1, (wasR (nwB d.b)).data⟩ : Rec).In := ⟨by show (wasR (nwB d.b)).seq + 1 < 4294967296; omega, by show (wasR (nwB d.b)).inc + 1 < 65536; omega, hdt⟩
    by_cases hp : 0 ≤ armN d ∧ armN d < 75
    · have har : d.armed = true := by
        cases hx : d.armed
        · unfold armN at hp
          rw [hx, if_neg (by decide)] at hp
          omega
        · rfl
      have hlf : d.left < 75 := by
        unfold armN at hp
        rw [har, if_pos rfl] at hp
        omega
      obtain ⟨e1, e2, e3, e4⟩ := cmt_torn2 hd hdk (by omega) har hlf (inc := (wasR (nwB d.b)).inc + 1) (data := (wasR (nwB d.b)).data) (by omega) (by omega) hdt
      rw [e1] at p4
      exact ⟨_, e4, one_boot_torn k hk d hd hdk a0 n inc hi data hw (by omega) _ e4 _ hr _ _ _ rfl p4 har hlf h5 e2 e3⟩
    · obtain ⟨e1, e2, e3, e4⟩ := cmt_done hd hdk (by omega) hp (inc := (wasR (nwB d.b)).inc + 1) (data := (wasR (nwB d.b)).data) (by omega) (by omega) hdt
      rw [e1] at p4
      exact ⟨_, e4, one_boot_done k hk d hd hdk a0 n inc hi data hw (by omega) _ e4 _ hr _ _ _ rfl p4 hp h5 e2 e3⟩
  · exact ⟨{ d with armed := true, left := n.toNat }, ⟨hd.by_, hd.len, hd.cap, by show n.toNat ≤ 1000; omega⟩, one_arm (k + 4) d hd a0 inc n data hw h3⟩
theorem act_len (x : Act) : x.av.length = 4 := rfl
theorem chunk {α : Type} (f : α → List AV) (w : Nat) (hw : ∀ x, (f x).length = w) : ∀ (L : List α) (i : Nat) (h : i < L.length), ((L.flatMap f).drop (i * w)).take w = f L[i]
  | [], i, h => by simp at h
  | x :: L, 0, h => by
    rw [Nat.zero_mul, List.drop_zero, List.flatMap_cons, List.take_append_of_le_length (by rw [hw]; exact Nat.le_refl _), ← hw x, List.take_length]
    rfl
  | x :: L, i + 1, h => by
    have hl : (f x).length ≤ (i + 1) * w := by rw [hw, Nat.add_mul]; omega
    rw [List.flatMap_cons, List.drop_append, List.drop_of_length_le hl, List.nil_append, show (i + 1) * w - (f x).length = i * w by rw [hw, Nat.add_mul]; omega]
    exact chunk f w hw L i (by simpa using h)
theorem chunk_len {α : Type} (f : α → List AV) (w : Nat) (hw : ∀ x, (f x).length = w) (L : List α) : (L.flatMap f).length = L.length * w := by
  induction L with
  | nil => simp
  | cons x L ih => rw [List.flatMap_cons, List.length_append, ih, hw, List.length_cons, Nat.add_mul]; omega
def vst (L : List Act) (d : Sto) (i : Nat) : St := ⟨[(5, .ptr 0 0), (20, .shr L.length false (L.flatMap S47.av)), (21, .v (.int .i64 L.length)), (22, .v (.int .i64 i))], [soF d none, roF d.b], 1, []⟩
noncomputable abbrev vfin (C : CT) (lf : Nat) (s : St) (N : Nat) : Option Res := FnR [.t 4] false false (Lh C lf (some s) [5, 20, 21, 22] l_fuglemanlaw07_RetainRuns_0 N [.b 0, .c l_fuglemanlaw07_RetainRuns_1])
theorem runs_next (k lf : Nat) (hk : 2009 ≤ k) (L : List Act) (hL : L.length ≤ 20) (d : Sto) (hd : d.Ok none) (hdk : d.dark = false) (i : Nat) (hi : i < L.length) (ha : L[i].In) (h100 : L[i].f2.size ≤ 100) (N : Nat) (ks : List It) : ∃ d' : Sto, d'.Ok none ∧ d'.dark = false ∧
    Lh (acall T (k + 14)) lf (some (vst L d i)) [5, 20, 21, 22] l_fuglemanlaw07_RetainRuns_0 (N + 1) ks = Lh (acall T (k + 14)) lf (some (vst L d' (i + 1))) [5, 20, 21, 22] l_fuglemanlaw07_RetainRuns_0 N ks := by
  obtain ⟨d1, o1, p1⟩ := one_all k hk d hd hdk L[i] ha
  have p2 := lload_a (k + 4) (by omega) d1 o1
  have p3 := on_a (k + 13) d1 none
  refine ⟨{ d1 with dark := false }, ⟨o1.by_, o1.len, o1.cap, o1.left⟩, rfl, ?_⟩
  have c0 : (0 : Int) ≤ i := by omega
  have c1 : (i : Int) < L.length := by omega
  have w1 : IntKind.i64.wrap ((i : Int) + 1) = ((i + 1 : Nat) : Int) := by rw [w64 (by omega) (by omega)]; omega
  have h5 := chunk S47.av 4 act_len L i hi
  have l5 : i * 4 + 4 ≤ L.length * 4 := by omega
  have hl := chunk_len S47.av 4 act_len L
  have f0 : (bytesV d.b).all flat0 = true := all_bytesF
  have f1 : (bytesV d1.b).all flat0 = true := all_bytesF
  have c2 : ¬ (100 : Int) < L[i].f2.size := by omega
  unfold vst
  rw [lh_as l_fuglemanlaw07_RetainRuns_0.eq_1]
  clear ha h100
  generalize L[i] = x at *
  simp only [soF, roF, so, ro, S47.av] at p1 p2 p3 h5 ⊢
  generalize L.flatMap S47.av = cl at *
  generalize bytesV d.b = cs at *
  generalize bytesV d1.b = cs1 at *
  generalize L.length = m at *
  generalize d.b.length = q at *
  generalize d1.b.length = q1 at *
  simp -implicitDefEqProofs (maxSteps := 1000000) only [eqs, eqd, aCall, Sym.reach, Sym.pos, Sym.sub, ↓reduceIte, reduceCtorEq, Nat.reduceEqDiff, Nat.reduceAdd, Nat.reduceSub, Nat.reduceMul, Nat.reduceLT, Nat.reduceLeDiff, Nat.reduceBEq, Nat.reduceBNe, Nat.reduceGT, Int.reduceEq, Int.reduceLT, Int.reduceLE, Int.reduceToNat, Int.reduceAdd, Int.reduceSub, Int.reduceMul, Int.reduceNeg, Int.reduceBEq, Int.reduceBNe, nx_nil, c0, c1, c2, w1, h5, l5, hl, p1, p2, p3, f0, f1, Int.toNat_natCast]
theorem runs_big (C : CT) (lf : Nat) (L : List Act) (d : Sto) (i : Nat) (hi : i < L.length) (h100 : 100 < L[i].f2.size) (N : Nat) : vfin C lf (vst L d i) (N + 1) = some ⟨.v (.bool true), [], 1⟩ := by
  have c0 : (0 : Int) ≤ i := by omega
  have c1 : (i : Int) < L.length := by omega
  have h5 := chunk S47.av 4 act_len L i hi
  have l5 : i * 4 + 4 ≤ L.length * 4 := by omega
  have hl := chunk_len S47.av 4 act_len L
  have f0 : (bytesV d.b).all flat0 = true := all_bytesF
  have c2 : (100 : Int) < L[i].f2.size := by omega
  unfold vfin vst
  rw [lh_as l_fuglemanlaw07_RetainRuns_0.eq_1]
  generalize L[i] = x at *
  simp only [soF, roF, S47.av] at h5 ⊢
  generalize L.flatMap S47.av = cl at *
  generalize bytesV d.b = cs at *
  generalize L.length = m at *
  generalize d.b.length = q at *
  simp -implicitDefEqProofs (maxSteps := 1000000) only [eqs, eqd, aCall, Sym.reach, Sym.pos, Sym.sub, ↓reduceIte, reduceCtorEq, Nat.reduceEqDiff, Nat.reduceAdd, Nat.reduceSub, Nat.reduceMul, Nat.reduceLT, Nat.reduceLeDiff, Nat.reduceBEq, Nat.reduceBNe, Nat.reduceGT, Int.reduceEq, Int.reduceLT, Int.reduceLE, Int.reduceToNat, Int.reduceAdd, Int.reduceSub, Int.reduceMul, Int.reduceNeg, Int.reduceBEq, Int.reduceBNe, nx_nil, c0, c1, c2, h5, l5, hl, f0, Int.toNat_natCast]
theorem runs_end (k lf : Nat) (hk : 2009 ≤ k) (L : List Act) (d : Sto) (hd : d.Ok none) (N : Nat) : vfin (acall T (k + 14)) lf (vst L d L.length) N = some ⟨.v (.bool true), [], 1⟩ := by
  have c1 : ¬ (L.length : Int) < L.length := by omega
  have p2 := lload_a (k + 4) (by omega) d hd
  have f0 : (bytesV d.b).all flat0 = true := all_bytesF
  unfold vfin vst
  rw [lh_as l_fuglemanlaw07_RetainRuns_0.eq_1]
  simp only [soF, roF, so, ro] at p2 ⊢
  generalize L.flatMap S47.av = cl at *
  generalize bytesV d.b = cs at *
  generalize L.length = m at *
  generalize d.b.length = q at *
  simp -implicitDefEqProofs (maxSteps := 1000000) only [eqs, eqd, aCall, Sym.reach, Sym.pos, Sym.sub, ↓reduceIte, reduceCtorEq, Nat.reduceEqDiff, Nat.reduceAdd, Nat.reduceSub, Nat.reduceMul, Nat.reduceLT, Nat.reduceLeDiff, Nat.reduceBEq, Nat.reduceBNe, Nat.reduceGT, Int.reduceEq, Int.reduceLT, Int.reduceLE, Int.reduceToNat, Int.reduceAdd, Int.reduceSub, Int.reduceMul, Int.reduceNeg, Int.reduceBEq, Int.reduceBNe, nx_nil, l_fuglemanlaw07_RetainRuns_1, c1, p2, f0]
theorem runs_run (k lf : Nat) (hk : 2009 ≤ k) (L : List Act) (hL : L.length ≤ 20) (ha : ∀ (i : Nat) (h : i < L.length), L[i].In) : ∀ (m i : Nat) (d : Sto) (N : Nat), i + m = L.length → m < N → d.Ok none → d.dark = false → vfin (acall T (k + 14)) lf (vst L d i) N = some ⟨.v (.bool true), [], 1⟩
  | 0, i, d, N, hi, hN, hd, hdk => by
    obtain rfl : i = L.length := by omega
    exact runs_end k lf hk L d hd N
  | m + 1, i, d, N, hi, hN, hd, hdk => by
    obtain ⟨N, rfl⟩ : ∃ M, N = M + 1 := ⟨N - 1, by omega⟩
    have hlt : i < L.length := by omega
    by_cases hx : L[i].f2.size ≤ 100
    · obtain ⟨d', e1, e2, e3⟩ := runs_next k lf hk L hL d hd hdk i hlt (ha i hlt) hx N [.b 0, .c l_fuglemanlaw07_RetainRuns_1]
      have h := runs_run k lf hk L hL ha m (i + 1) d' N (by omega) (by omega) e1 e2
      unfold vfin at h ⊢
      rw [e3, h]
    · exact runs_big _ lf L d i hlt (by omega) N
theorem RetainRuns : ∀ (a0 : ByteArray) (a1 : List (Act)), a0.size ≤ 140737488351232 → (a1.length ≤ 140737488351232 ∧ ∀ (i0 : Nat) x0, a1[i0]? = some x0 → S47.In x0) → ∃ ob d, acall T 3000 6 0 [.v (.string a0), .shr a1.length false (a1.flatMap S47.av)] [] = some ⟨.v (.bool true), ob, d⟩ := fun s L hs hL => by
  refine ⟨[], 1, ?_⟩
  have h0 := awake_a 2979 (by decide)
  rw [acall_go (body := b_fuglemanlaw07_RetainRuns) rfl rfl (Nat.zero_le _)]
  by_cases c3 : 400 < s.size
  · have c4 : (400 : Int) < s.size := by omega
    generalize L.flatMap S47.av = cl at *
    generalize L.length = m at *
    simp -implicitDefEqProofs only [eqs, eqd, aCall, Sym.reach, Sym.pos, Sym.sub, ↓reduceIte, reduceCtorEq, Nat.reduceEqDiff, Nat.reduceAdd, Nat.reduceSub, Nat.reduceMul, Nat.reduceLT, Nat.reduceLeDiff, Nat.reduceBEq, Nat.reduceBNe, Nat.reduceGT, Int.reduceEq, Int.reduceLT, Int.reduceLE, Int.reduceToNat, Int.reduceAdd, Int.reduceSub, Int.reduceMul, Int.reduceNeg, Int.reduceBEq, Int.reduceBNe, b_fuglemanlaw07_RetainRuns, h0, c4]
  have c4 : ¬ (400 : Int) < s.size := by omega
  by_cases c1 : 20 < L.length
  · have c2 : (20 : Int) < L.length := by omega
    generalize L.flatMap S47.av = cl at *
    generalize L.length = m at *
    simp -implicitDefEqProofs only [eqs, eqd, aCall, Sym.reach, Sym.pos, Sym.sub, ↓reduceIte, reduceCtorEq, Nat.reduceEqDiff, Nat.reduceAdd, Nat.reduceSub, Nat.reduceMul, Nat.reduceLT, Nat.reduceLeDiff, Nat.reduceBEq, Nat.reduceBNe, Nat.reduceGT, Int.reduceEq, Int.reduceLT, Int.reduceLE, Int.reduceToNat, Int.reduceAdd, Int.reduceSub, Int.reduceMul, Int.reduceNeg, Int.reduceBEq, Int.reduceBNe, b_fuglemanlaw07_RetainRuns, h0, c2, c4]
  have c2 : ¬ (20 : Int) < L.length := by omega
  have hb := by_nums s
  have hl : (numsOf s).length = s.size := nums_len s
  have p2 := of_a 2998 (numsOf s) hb (by omega)
  have hok : (ofS (numsOf s)).Ok none := ⟨hb, by show (numsOf s).length ≤ 1000; omega, rfl, Nat.zero_le _⟩
  have key := runs_run 2985 2999 (by decide) L (by omega) (fun i h => hL.2 i _ (List.getElem?_eq_getElem h)) L.length 0 (ofS (numsOf s)) 2998 (by omega) (by omega) hok rfl
  rw [← key]
  clear key
  have lp : ∀ (ks : List It) (s : St), Lp (acall T 2999) 2999 [5, 20, 21, 22] l_fuglemanlaw07_RetainRuns_0 2999 ks s = Lh (acall T 2999) 2999 (canon [5, 20, 21, 22] s) [5, 20, 21, 22] l_fuglemanlaw07_RetainRuns_0 2998 ks := fun ks s => lp_succ (n := 2998)
  have f0 : (bytesV (numsOf s)).all flat0 = true := all_bytesF
  have nb : (ofS (numsOf s)).b = numsOf s := rfl
  unfold vfin vst
  simp only [soF, roF, sv, nums_so, nb, Int.natCast_zero] at p2 ⊢
  generalize bytesV (numsOf s) = cs at *
  generalize (numsOf s).length = q at *
  generalize L.flatMap S47.av = cl at *
  generalize L.length = m at *
  simp -implicitDefEqProofs only [eqs, eqd, aCall, Sym.reach, Sym.pos, Sym.sub, ↓reduceIte, reduceCtorEq, Nat.reduceEqDiff, Nat.reduceAdd, Nat.reduceSub, Nat.reduceMul, Nat.reduceLT, Nat.reduceLeDiff, Nat.reduceBEq, Nat.reduceBNe, Nat.reduceGT, Int.reduceEq, Int.reduceLT, Int.reduceLE, Int.reduceToNat, Int.reduceAdd, Int.reduceSub, Int.reduceMul, Int.reduceNeg, Int.reduceBEq, Int.reduceBNe, b_fuglemanlaw07_RetainRuns, h0, c2, c4, lp, p2, f0]
end Go.Proofs.YthdiljjbcaleoaaDoor.Said
