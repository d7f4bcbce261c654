/- Instructions that may be: package il's answer. Written by a program for this claim. -/
import Derived.Test.YtlefnekfeeihaaaMg3c743b61
namespace Go.Proofs.Ytlefnekfeeihaaa.Ver
open Go Go.Proofs.Ytlefnekfeeihaaa.Sym Go.Proofs.Ytlefnekfeeihaaa.Tab
set_option linter.unusedVariables false
set_option linter.unusedSimpArgs false
set_option maxHeartbeats 4000000
set_option maxRecDepth 20000
structure Ins where
  op : Int
  k : Int
  ar : Int
  at_ : Int
  n : Int
def Ins.c (i : Ins) : List AV := [.v (.int .i64 i.op), .v (.int .i64 i.k), .v (.int .i64 i.ar), .v (.int .i64 i.at_), .v (.int .i64 i.n)]
def stands (i : Ins) (l : Int) : Bool := decide (0 < ksz i.k) && (decide (l ≤ i.ar) && (decide (i.ar ≤ 4) && (decide (0 ≤ i.at_) && (decide (i.at_ ≤ 64 - ksz i.k) && (i.n == 0)))))
theorem ksz_in (k : Int) : 0 ≤ ksz k ∧ ksz k ≤ 4 := by unfold ksz; split; omega; split; omega; split <;> omega
theorem stands_a (k : Nat) (i : Ins) (l : Int) : acall T (k + 4) 38 0 [.agg i.c, .v (.int .i64 l)] [] = some ⟨.v (.bool (stands i l)), [], 1⟩ := by
  rw [acall_go (body := b_il_stands) rfl rfl (Nat.zero_le _)]
  have h := ksize_a k i.k
  have hk := ksz_in i.k
  have e : IntKind.i64.wrap (64 - ksz i.k) = 64 - ksz i.k := w64 (by omega) (by omega)
  unfold stands
  try simp -implicitDefEqProofs only [eqs, eqd, aCall, Sym.reach, Sym.pos, Sym.sub, lh_some, ↓reduceIte, reduceCtorEq, Nat.reduceEqDiff, Nat.reduceAdd, Nat.reduceSub, Nat.reduceMul, Nat.reduceLT, Nat.reduceLeDiff, Nat.reduceBEq, Nat.reduceBNe, Nat.reduceGT, Int.reduceEq, Int.reduceLT, Int.reduceLE, Int.reduceToNat, Int.reduceAdd, Int.reduceSub, Int.reduceMul, Int.reduceNeg, Int.reduceBEq, Int.reduceBNe, b_il_stands, h, e, Ins.c]
  cases h0 : decide (0 < ksz i.k)
  · simp -implicitDefEqProofs only [eqs, eqd, aCall, Sym.reach, Sym.pos, Sym.sub, lh_some, ↓reduceIte, reduceCtorEq, Nat.reduceEqDiff, Nat.reduceAdd, Nat.reduceSub, Nat.reduceMul, Nat.reduceLT, Nat.reduceLeDiff, Nat.reduceBEq, Nat.reduceBNe, Nat.reduceGT, Int.reduceEq, Int.reduceLT, Int.reduceLE, Int.reduceToNat, Int.reduceAdd, Int.reduceSub, Int.reduceMul, Int.reduceNeg, Int.reduceBEq, Int.reduceBNe, b_il_stands, h, e, Ins.c, h0]
  try simp -implicitDefEqProofs only [eqs, eqd, aCall, Sym.reach, Sym.pos, Sym.sub, lh_some, ↓reduceIte, reduceCtorEq, Nat.reduceEqDiff, Nat.reduceAdd, Nat.reduceSub, Nat.reduceMul, Nat.reduceLT, Nat.reduceLeDiff, Nat.reduceBEq, Nat.reduceBNe, Nat.reduceGT, Int.reduceEq, Int.reduceLT, Int.reduceLE, Int.reduceToNat, Int.reduceAdd, Int.reduceSub, Int.reduceMul, Int.reduceNeg, Int.reduceBEq, Int.reduceBNe, b_il_stands, h, e, Ins.c, h0]
  cases h1 : decide (l ≤ i.ar)
  · simp -implicitDefEqProofs only [eqs, eqd, aCall, Sym.reach, Sym.pos, Sym.sub, lh_some, ↓reduceIte, reduceCtorEq, Nat.reduceEqDiff, Nat.reduceAdd, Nat.reduceSub, Nat.reduceMul, Nat.reduceLT, Nat.reduceLeDiff, Nat.reduceBEq, Nat.reduceBNe, Nat.reduceGT, Int.reduceEq, Int.reduceLT, Int.reduceLE, Int.reduceToNat, Int.reduceAdd, Int.reduceSub, Int.reduceMul, Int.reduceNeg, Int.reduceBEq, Int.reduceBNe, b_il_stands, h, e, Ins.c, h0, h1]
  try simp -implicitDefEqProofs only [eqs, eqd, aCall, Sym.reach, Sym.pos, Sym.sub, lh_some, ↓reduceIte, reduceCtorEq, Nat.reduceEqDiff, Nat.reduceAdd, Nat.reduceSub, Nat.reduceMul, Nat.reduceLT, Nat.reduceLeDiff, Nat.reduceBEq, Nat.reduceBNe, Nat.reduceGT, Int.reduceEq, Int.reduceLT, Int.reduceLE, Int.reduceToNat, Int.reduceAdd, Int.reduceSub, Int.reduceMul, Int.reduceNeg, Int.reduceBEq, Int.reduceBNe, b_il_stands, h, e, Ins.c, h0, h1]
  cases h2 : decide (i.ar ≤ 4)
  · simp -implicitDefEqProofs only [eqs, eqd, aCall, Sym.reach, Sym.pos, Sym.sub, lh_some, ↓reduceIte, reduceCtorEq, Nat.reduceEqDiff, Nat.reduceAdd, Nat.reduceSub, Nat.reduceMul, Nat.reduceLT, Nat.reduceLeDiff, Nat.reduceBEq, Nat.reduceBNe, Nat.reduceGT, Int.reduceEq, Int.reduceLT, Int.reduceLE, Int.reduceToNat, Int.reduceAdd, Int.reduceSub, Int.reduceMul, Int.reduceNeg, Int.reduceBEq, Int.reduceBNe, b_il_stands, h, e, Ins.c, h0, h1, h2]
  try simp -implicitDefEqProofs only [eqs, eqd, aCall, Sym.reach, Sym.pos, Sym.sub, lh_some, ↓reduceIte, reduceCtorEq, Nat.reduceEqDiff, Nat.reduceAdd, Nat.reduceSub, Nat.reduceMul, Nat.reduceLT, Nat.reduceLeDiff, Nat.reduceBEq, Nat.reduceBNe, Nat.reduceGT, Int.reduceEq, Int.reduceLT, Int.reduceLE, Int.reduceToNat, Int.reduceAdd, Int.reduceSub, Int.reduceMul, Int.reduceNeg, Int.reduceBEq, Int.reduceBNe, b_il_stands, h, e, Ins.c, h0, h1, h2]
  cases h3 : decide (0 ≤ i.at_)
  · simp -implicitDefEqProofs only [eqs, eqd, aCall, Sym.reach, Sym.pos, Sym.sub, lh_some, ↓reduceIte, reduceCtorEq, Nat.reduceEqDiff, Nat.reduceAdd, Nat.reduceSub, Nat.reduceMul, Nat.reduceLT, Nat.reduceLeDiff, Nat.reduceBEq, Nat.reduceBNe, Nat.reduceGT, Int.reduceEq, Int.reduceLT, Int.reduceLE, Int.reduceToNat, Int.reduceAdd, Int.reduceSub, Int.reduceMul, Int.reduceNeg, Int.reduceBEq, Int.reduceBNe, b_il_stands, h, e, Ins.c, h0, h1, h2, h3]
  try simp -implicitDefEqProofs only [eqs, eqd, aCall, Sym.reach, Sym.pos, Sym.sub, lh_some, ↓reduceIte, reduceCtorEq, Nat.reduceEqDiff, Nat.reduceAdd, Nat.reduceSub, Nat.reduceMul, Nat.reduceLT, Nat.reduceLeDiff, Nat.reduceBEq, Nat.reduceBNe, Nat.reduceGT, Int.reduceEq, Int.reduceLT, Int.reduceLE, Int.reduceToNat, Int.reduceAdd, Int.reduceSub, Int.reduceMul, Int.reduceNeg, Int.reduceBEq, Int.reduceBNe, b_il_stands, h, e, Ins.c, h0, h1, h2, h3]
  cases h4 : decide (i.at_ ≤ 64 - ksz i.k)
  · simp -implicitDefEqProofs only [eqs, eqd, aCall, Sym.reach, Sym.pos, Sym.sub, lh_some, ↓reduceIte, reduceCtorEq, Nat.reduceEqDiff, Nat.reduceAdd, Nat.reduceSub, Nat.reduceMul, Nat.reduceLT, Nat.reduceLeDiff, Nat.reduceBEq, Nat.reduceBNe, Nat.reduceGT, Int.reduceEq, Int.reduceLT, Int.reduceLE, Int.reduceToNat, Int.reduceAdd, Int.reduceSub, Int.reduceMul, Int.reduceNeg, Int.reduceBEq, Int.reduceBNe, b_il_stands, h, e, Ins.c, h0, h1, h2, h3, h4]
  simp -implicitDefEqProofs only [eqs, eqd, aCall, Sym.reach, Sym.pos, Sym.sub, lh_some, ↓reduceIte, reduceCtorEq, Nat.reduceEqDiff, Nat.reduceAdd, Nat.reduceSub, Nat.reduceMul, Nat.reduceLT, Nat.reduceLeDiff, Nat.reduceBEq, Nat.reduceBNe, Nat.reduceGT, Int.reduceEq, Int.reduceLT, Int.reduceLE, Int.reduceToNat, Int.reduceAdd, Int.reduceSub, Int.reduceMul, Int.reduceNeg, Int.reduceBEq, Int.reduceBNe, b_il_stands, h, e, Ins.c, h0, h1, h2, h3, h4]
/-- May an instruction be? -/
def right (i : Ins) : Bool :=
  if cl i.op = 1 then (if i.ar = 0 then (i.at_ == 0) && isK i.k i.n else stands i 1)
  else if cl i.op = 2 then stands i 2
  else if cl i.op = 3 then (i.ar == 0) && ((i.n == 0) && ((i.k == 0) && (decide (0 ≤ i.at_) && decide (i.at_ ≤ 200))))
  else if cl i.op = 4 then (i.ar == 0) && ((i.n == 0) && ((i.k == 0) && (i.at_ == 0)))
  else if cl i.op = 5 then (i.ar == 0) && ((i.n == 0) && ((i.at_ == 0) && decide (0 < ksz i.k)))
  else if cl i.op = 6 then (i.ar == 0) && ((i.n == 0) && ((i.k == 0) && ((cl i.at_ == 1) && decide (7 ≤ i.at_))))
  else if cl i.op = 7 then (i.k == 0) && ((i.ar == 3 || i.ar == 4) && (decide (0 ≤ i.at_) && (decide (i.at_ ≤ 59) && (decide (1 ≤ i.n) && decide (i.n ≤ 9999)))))
  else if cl i.op = 8 then (i.k == 0) && ((i.ar == 3 || i.ar == 4) && (decide (0 ≤ i.at_) && (decide (i.at_ < 64) && (i.n == 0))))
  else false
theorem right_1 (k : Nat) (i : Ins) (hc : cl i.op = 1) : acall T (k + 5) 26 0 [.agg i.c] [] = some ⟨.v (.bool (right i)), [], 1⟩ := by
  rw [acall_go (body := b_il_Right) rfl rfl (Nat.zero_le _)]
  obtain ⟨s, h⟩ := ilof_a (k + 2) i.op
  rw [hc] at h
  unfold right
  rw [hc]
  simp only [Int.reduceEq, if_true, if_false]
  have hs := stands_a k i 1
  have hi := is_a k i.k i.n
  simp only [Ins.c] at hs
  by_cases c0 : i.ar = 0
  · rw [if_pos c0]
    have c0' : (i.ar == 0) = true := by rw [c0]; rfl
    cases c1 : (i.n == 0) <;> cases c2 : (i.at_ == 0) <;> simp -implicitDefEqProofs only [eqs, eqd, aCall, Sym.reach, Sym.pos, Sym.sub, lh_some, ↓reduceIte, reduceCtorEq, Nat.reduceEqDiff, Nat.reduceAdd, Nat.reduceSub, Nat.reduceMul, Nat.reduceLT, Nat.reduceLeDiff, Nat.reduceBEq, Nat.reduceBNe, Nat.reduceGT, Int.reduceEq, Int.reduceLT, Int.reduceLE, Int.reduceToNat, Int.reduceAdd, Int.reduceSub, Int.reduceMul, Int.reduceNeg, Int.reduceBEq, Int.reduceBNe, b_il_Right, g_il_Right_0, g_il_Right_1, g_il_Right_2, g_il_Right_3, g_il_Right_4, g_il_Right_5, g_il_Right_6, g_il_Right_7, g_il_Right_8, g_il_Right_9, g_il_Right_10, g_il_Right_11, h, Ins.c, hi, c0', c1, c2]
  · rw [if_neg c0]
    have c0' : (i.ar == 0) = false := by simpa using c0
    simp -implicitDefEqProofs only [eqs, eqd, aCall, Sym.reach, Sym.pos, Sym.sub, lh_some, ↓reduceIte, reduceCtorEq, Nat.reduceEqDiff, Nat.reduceAdd, Nat.reduceSub, Nat.reduceMul, Nat.reduceLT, Nat.reduceLeDiff, Nat.reduceBEq, Nat.reduceBNe, Nat.reduceGT, Int.reduceEq, Int.reduceLT, Int.reduceLE, Int.reduceToNat, Int.reduceAdd, Int.reduceSub, Int.reduceMul, Int.reduceNeg, Int.reduceBEq, Int.reduceBNe, b_il_Right, g_il_Right_0, g_il_Right_1, g_il_Right_2, g_il_Right_3, g_il_Right_4, g_il_Right_5, g_il_Right_6, g_il_Right_7, g_il_Right_8, g_il_Right_9, g_il_Right_10, g_il_Right_11, h, Ins.c, hs, c0']
theorem right_2 (k : Nat) (i : Ins) (hc : cl i.op = 2) : acall T (k + 5) 26 0 [.agg i.c] [] = some ⟨.v (.bool (right i)), [], 1⟩ := by
  rw [acall_go (body := b_il_Right) rfl rfl (Nat.zero_le _)]
  obtain ⟨s, h⟩ := ilof_a (k + 2) i.op
  rw [hc] at h
  unfold right
  rw [hc]
  simp only [Int.reduceEq, if_true, if_false]
  have hs := stands_a k i 2
  simp only [Ins.c] at hs
  cases c0 : (i.ar == 0) <;> cases c1 : (i.n == 0) <;> simp -implicitDefEqProofs only [eqs, eqd, aCall, Sym.reach, Sym.pos, Sym.sub, lh_some, ↓reduceIte, reduceCtorEq, Nat.reduceEqDiff, Nat.reduceAdd, Nat.reduceSub, Nat.reduceMul, Nat.reduceLT, Nat.reduceLeDiff, Nat.reduceBEq, Nat.reduceBNe, Nat.reduceGT, Int.reduceEq, Int.reduceLT, Int.reduceLE, Int.reduceToNat, Int.reduceAdd, Int.reduceSub, Int.reduceMul, Int.reduceNeg, Int.reduceBEq, Int.reduceBNe, b_il_Right, g_il_Right_0, g_il_Right_1, g_il_Right_2, g_il_Right_3, g_il_Right_4, g_il_Right_5, g_il_Right_6, g_il_Right_7, g_il_Right_8, g_il_Right_9, g_il_Right_10, g_il_Right_11, h, Ins.c, hs, c0, c1]
theorem right_3 (k : Nat) (i : Ins) (hc : cl i.op = 3) : acall T (k + 5) 26 0 [.agg i.c] [] = some ⟨.v (.bool (right i)), [], 1⟩ := by
  rw [acall_go (body := b_il_Right) rfl rfl (Nat.zero_le _)]
  obtain ⟨s, h⟩ := ilof_a (k + 2) i.op
  rw [hc] at h
  unfold right
  rw [hc]
  simp only [Int.reduceEq, if_true, if_false]
  try simp -implicitDefEqProofs only [eqs, eqd, aCall, Sym.reach, Sym.pos, Sym.sub, lh_some, ↓reduceIte, reduceCtorEq, Nat.reduceEqDiff, Nat.reduceAdd, Nat.reduceSub, Nat.reduceMul, Nat.reduceLT, Nat.reduceLeDiff, Nat.reduceBEq, Nat.reduceBNe, Nat.reduceGT, Int.reduceEq, Int.reduceLT, Int.reduceLE, Int.reduceToNat, Int.reduceAdd, Int.reduceSub, Int.reduceMul, Int.reduceNeg, Int.reduceBEq, Int.reduceBNe, b_il_Right, g_il_Right_0, g_il_Right_1, g_il_Right_2, g_il_Right_3, g_il_Right_4, g_il_Right_5, g_il_Right_6, g_il_Right_7, g_il_Right_8, g_il_Right_9, g_il_Right_10, g_il_Right_11, h, Ins.c]
  cases h0 : (i.ar == 0)
  · simp -implicitDefEqProofs only [eqs, eqd, aCall, Sym.reach, Sym.pos, Sym.sub, lh_some, ↓reduceIte, reduceCtorEq, Nat.reduceEqDiff, Nat.reduceAdd, Nat.reduceSub, Nat.reduceMul, Nat.reduceLT, Nat.reduceLeDiff, Nat.reduceBEq, Nat.reduceBNe, Nat.reduceGT, Int.reduceEq, Int.reduceLT, Int.reduceLE, Int.reduceToNat, Int.reduceAdd, Int.reduceSub, Int.reduceMul, Int.reduceNeg, Int.reduceBEq, Int.reduceBNe, b_il_Right, g_il_Right_0, g_il_Right_1, g_il_Right_2, g_il_Right_3, g_il_Right_4, g_il_Right_5, g_il_Right_6, g_il_Right_7, g_il_Right_8, g_il_Right_9, g_il_Right_10, g_il_Right_11, h, Ins.c, h0]
  try simp -implicitDefEqProofs only [eqs, eqd, aCall, Sym.reach, Sym.pos, Sym.sub, lh_some, ↓reduceIte, reduceCtorEq, Nat.reduceEqDiff, Nat.reduceAdd, Nat.reduceSub, Nat.reduceMul, Nat.reduceLT, Nat.reduceLeDiff, Nat.reduceBEq, Nat.reduceBNe, Nat.reduceGT, Int.reduceEq, Int.reduceLT, Int.reduceLE, Int.reduceToNat, Int.reduceAdd, Int.reduceSub, Int.reduceMul, Int.reduceNeg, Int.reduceBEq, Int.reduceBNe, b_il_Right, g_il_Right_0, g_il_Right_1, g_il_Right_2, g_il_Right_3, g_il_Right_4, g_il_Right_5, g_il_Right_6, g_il_Right_7, g_il_Right_8, g_il_Right_9, g_il_Right_10, g_il_Right_11, h, Ins.c, h0]
  cases h1 : (i.n == 0)
  · simp -implicitDefEqProofs only [eqs, eqd, aCall, Sym.reach, Sym.pos, Sym.sub, lh_some, ↓reduceIte, reduceCtorEq, Nat.reduceEqDiff, Nat.reduceAdd, Nat.reduceSub, Nat.reduceMul, Nat.reduceLT, Nat.reduceLeDiff, Nat.reduceBEq, Nat.reduceBNe, Nat.reduceGT, Int.reduceEq, Int.reduceLT, Int.reduceLE, Int.reduceToNat, Int.reduceAdd, Int.reduceSub, Int.reduceMul, Int.reduceNeg, Int.reduceBEq, Int.reduceBNe, b_il_Right, g_il_Right_0, g_il_Right_1, g_il_Right_2, g_il_Right_3, g_il_Right_4, g_il_Right_5, g_il_Right_6, g_il_Right_7, g_il_Right_8, g_il_Right_9, g_il_Right_10, g_il_Right_11, h, Ins.c, h0, h1]
  try simp -implicitDefEqProofs only [eqs, eqd, aCall, Sym.reach, Sym.pos, Sym.sub, lh_some, ↓reduceIte, reduceCtorEq, Nat.reduceEqDiff, Nat.reduceAdd, Nat.reduceSub, Nat.reduceMul, Nat.reduceLT, Nat.reduceLeDiff, Nat.reduceBEq, Nat.reduceBNe, Nat.reduceGT, Int.reduceEq, Int.reduceLT, Int.reduceLE, Int.reduceToNat, Int.reduceAdd, Int.reduceSub, Int.reduceMul, Int.reduceNeg, Int.reduceBEq, Int.reduceBNe, b_il_Right, g_il_Right_0, g_il_Right_1, g_il_Right_2, g_il_Right_3, g_il_Right_4, g_il_Right_5, g_il_Right_6, g_il_Right_7, g_il_Right_8, g_il_Right_9, g_il_Right_10, g_il_Right_11, h, Ins.c, h0, h1]
  cases h2 : (i.k == 0)
  · simp -implicitDefEqProofs only [eqs, eqd, aCall, Sym.reach, Sym.pos, Sym.sub, lh_some, ↓reduceIte, reduceCtorEq, Nat.reduceEqDiff, Nat.reduceAdd, Nat.reduceSub, Nat.reduceMul, Nat.reduceLT, Nat.reduceLeDiff, Nat.reduceBEq, Nat.reduceBNe, Nat.reduceGT, Int.reduceEq, Int.reduceLT, Int.reduceLE, Int.reduceToNat, Int.reduceAdd, Int.reduceSub, Int.reduceMul, Int.reduceNeg, Int.reduceBEq, Int.reduceBNe, b_il_Right, g_il_Right_0, g_il_Right_1, g_il_Right_2, g_il_Right_3, g_il_Right_4, g_il_Right_5, g_il_Right_6, g_il_Right_7, g_il_Right_8, g_il_Right_9, g_il_Right_10, g_il_Right_11, h, Ins.c, h0, h1, h2]
  try simp -implicitDefEqProofs only [eqs, eqd, aCall, Sym.reach, Sym.pos, Sym.sub, lh_some, ↓reduceIte, reduceCtorEq, Nat.reduceEqDiff, Nat.reduceAdd, Nat.reduceSub, Nat.reduceMul, Nat.reduceLT, Nat.reduceLeDiff, Nat.reduceBEq, Nat.reduceBNe, Nat.reduceGT, Int.reduceEq, Int.reduceLT, Int.reduceLE, Int.reduceToNat, Int.reduceAdd, Int.reduceSub, Int.reduceMul, Int.reduceNeg, Int.reduceBEq, Int.reduceBNe, b_il_Right, g_il_Right_0, g_il_Right_1, g_il_Right_2, g_il_Right_3, g_il_Right_4, g_il_Right_5, g_il_Right_6, g_il_Right_7, g_il_Right_8, g_il_Right_9, g_il_Right_10, g_il_Right_11, h, Ins.c, h0, h1, h2]
  cases h3 : decide (0 ≤ i.at_)
  · simp -implicitDefEqProofs only [eqs, eqd, aCall, Sym.reach, Sym.pos, Sym.sub, lh_some, ↓reduceIte, reduceCtorEq, Nat.reduceEqDiff, Nat.reduceAdd, Nat.reduceSub, Nat.reduceMul, Nat.reduceLT, Nat.reduceLeDiff, Nat.reduceBEq, Nat.reduceBNe, Nat.reduceGT, Int.reduceEq, Int.reduceLT, Int.reduceLE, Int.reduceToNat, Int.reduceAdd, Int.reduceSub, Int.reduceMul, Int.reduceNeg, Int.reduceBEq, Int.reduceBNe, b_il_Right, g_il_Right_0, g_il_Right_1, g_il_Right_2, g_il_Right_3, g_il_Right_4, g_il_Right_5, g_il_Right_6, g_il_Right_7, g_il_Right_8, g_il_Right_9, g_il_Right_10, g_il_Right_11, h, Ins.c, h0, h1, h2, h3]
  simp -implicitDefEqProofs only [eqs, eqd, aCall, Sym.reach, Sym.pos, Sym.sub, lh_some, ↓reduceIte, reduceCtorEq, Nat.reduceEqDiff, Nat.reduceAdd, Nat.reduceSub, Nat.reduceMul, Nat.reduceLT, Nat.reduceLeDiff, Nat.reduceBEq, Nat.reduceBNe, Nat.reduceGT, Int.reduceEq, Int.reduceLT, Int.reduceLE, Int.reduceToNat, Int.reduceAdd, Int.reduceSub, Int.reduceMul, Int.reduceNeg, Int.reduceBEq, Int.reduceBNe, b_il_Right, g_il_Right_0, g_il_Right_1, g_il_Right_2, g_il_Right_3, g_il_Right_4, g_il_Right_5, g_il_Right_6, g_il_Right_7, g_il_Right_8, g_il_Right_9, g_il_Right_10, g_il_Right_11, h, Ins.c, h0, h1, h2, h3]
theorem right_4 (k : Nat) (i : Ins) (hc : cl i.op = 4) : acall T (k + 5) 26 0 [.agg i.c] [] = some ⟨.v (.bool (right i)), [], 1⟩ := by
  rw [acall_go (body := b_il_Right) rfl rfl (Nat.zero_le _)]
  obtain ⟨s, h⟩ := ilof_a (k + 2) i.op
  rw [hc] at h
  unfold right
  rw [hc]
  simp only [Int.reduceEq, if_true, if_false]
  try simp -implicitDefEqProofs only [eqs, eqd, aCall, Sym.reach, Sym.pos, Sym.sub, lh_some, ↓reduceIte, reduceCtorEq, Nat.reduceEqDiff, Nat.reduceAdd, Nat.reduceSub, Nat.reduceMul, Nat.reduceLT, Nat.reduceLeDiff, Nat.reduceBEq, Nat.reduceBNe, Nat.reduceGT, Int.reduceEq, Int.reduceLT, Int.reduceLE, Int.reduceToNat, Int.reduceAdd, Int.reduceSub, Int.reduceMul, Int.reduceNeg, Int.reduceBEq, Int.reduceBNe, b_il_Right, g_il_Right_0, g_il_Right_1, g_il_Right_2, g_il_Right_3, g_il_Right_4, g_il_Right_5, g_il_Right_6, g_il_Right_7, g_il_Right_8, g_il_Right_9, g_il_Right_10, g_il_Right_11, h, Ins.c]
  cases h0 : (i.ar == 0)
  · simp -implicitDefEqProofs only [eqs, eqd, aCall, Sym.reach, Sym.pos, Sym.sub, lh_some, ↓reduceIte, reduceCtorEq, Nat.reduceEqDiff, Nat.reduceAdd, Nat.reduceSub, Nat.reduceMul, Nat.reduceLT, Nat.reduceLeDiff, Nat.reduceBEq, Nat.reduceBNe, Nat.reduceGT, Int.reduceEq, Int.reduceLT, Int.reduceLE, Int.reduceToNat, Int.reduceAdd, Int.reduceSub, Int.reduceMul, Int.reduceNeg, Int.reduceBEq, Int.reduceBNe, b_il_Right, g_il_Right_0, g_il_Right_1, g_il_Right_2, g_il_Right_3, g_il_Right_4, g_il_Right_5, g_il_Right_6, g_il_Right_7, g_il_Right_8, g_il_Right_9, g_il_Right_10, g_il_Right_11, h, Ins.c, h0]
  try simp -implicitDefEqProofs only [eqs, eqd, aCall, Sym.reach, Sym.pos, Sym.sub, lh_some, ↓reduceIte, reduceCtorEq, Nat.reduceEqDiff, Nat.reduceAdd, Nat.reduceSub, Nat.reduceMul, Nat.reduceLT, Nat.reduceLeDiff, Nat.reduceBEq, Nat.reduceBNe, Nat.reduceGT, Int.reduceEq, Int.reduceLT, Int.reduceLE, Int.reduceToNat, Int.reduceAdd, Int.reduceSub, Int.reduceMul, Int.reduceNeg, Int.reduceBEq, Int.reduceBNe, b_il_Right, g_il_Right_0, g_il_Right_1, g_il_Right_2, g_il_Right_3, g_il_Right_4, g_il_Right_5, g_il_Right_6, g_il_Right_7, g_il_Right_8, g_il_Right_9, g_il_Right_10, g_il_Right_11, h, Ins.c, h0]
  cases h1 : (i.n == 0)
  · simp -implicitDefEqProofs only [eqs, eqd, aCall, Sym.reach, Sym.pos, Sym.sub, lh_some, ↓reduceIte, reduceCtorEq, Nat.reduceEqDiff, Nat.reduceAdd, Nat.reduceSub, Nat.reduceMul, Nat.reduceLT, Nat.reduceLeDiff, Nat.reduceBEq, Nat.reduceBNe, Nat.reduceGT, Int.reduceEq, Int.reduceLT, Int.reduceLE, Int.reduceToNat, Int.reduceAdd, Int.reduceSub, Int.reduceMul, Int.reduceNeg, Int.reduceBEq, Int.reduceBNe, b_il_Right, g_il_Right_0, g_il_Right_1, g_il_Right_2, g_il_Right_3, g_il_Right_4, g_il_Right_5, g_il_Right_6, g_il_Right_7, g_il_Right_8, g_il_Right_9, g_il_Right_10, g_il_Right_11, h, Ins.c, h0, h1]
  try simp -implicitDefEqProofs only [eqs, eqd, aCall, Sym.reach, Sym.pos, Sym.sub, lh_some, ↓reduceIte, reduceCtorEq, Nat.reduceEqDiff, Nat.reduceAdd, Nat.reduceSub, Nat.reduceMul, Nat.reduceLT, Nat.reduceLeDiff, Nat.reduceBEq, Nat.reduceBNe, Nat.reduceGT, Int.reduceEq, Int.reduceLT, Int.reduceLE, Int.reduceToNat, Int.reduceAdd, Int.reduceSub, Int.reduceMul, Int.reduceNeg, Int.reduceBEq, Int.reduceBNe, b_il_Right, g_il_Right_0, g_il_Right_1, g_il_Right_2, g_il_Right_3, g_il_Right_4, g_il_Right_5, g_il_Right_6, g_il_Right_7, g_il_Right_8, g_il_Right_9, g_il_Right_10, g_il_Right_11, h, Ins.c, h0, h1]
  cases h2 : (i.k == 0)
  · simp -implicitDefEqProofs only [eqs, eqd, aCall, Sym.reach, Sym.pos, Sym.sub, lh_some, ↓reduceIte, reduceCtorEq, Nat.reduceEqDiff, Nat.reduceAdd, Nat.reduceSub, Nat.reduceMul, Nat.reduceLT, Nat.reduceLeDiff, Nat.reduceBEq, Nat.reduceBNe, Nat.reduceGT, Int.reduceEq, Int.reduceLT, Int.reduceLE, Int.reduceToNat, Int.reduceAdd, Int.reduceSub, Int.reduceMul, Int.reduceNeg, Int.reduceBEq, Int.reduceBNe, b_il_Right, g_il_Right_0, g_il_Right_1, g_il_Right_2, g_il_Right_3, g_il_Right_4, g_il_Right_5, g_il_Right_6, g_il_Right_7, g_il_Right_8, g_il_Right_9, g_il_Right_10, g_il_Right_11, h, Ins.c, h0, h1, h2]
  simp -implicitDefEqProofs only [eqs, eqd, aCall, Sym.reach, Sym.pos, Sym.sub, lh_some, ↓reduceIte, reduceCtorEq, Nat.reduceEqDiff, Nat.reduceAdd, Nat.reduceSub, Nat.reduceMul, Nat.reduceLT, Nat.reduceLeDiff, Nat.reduceBEq, Nat.reduceBNe, Nat.reduceGT, Int.reduceEq, Int.reduceLT, Int.reduceLE, Int.reduceToNat, Int.reduceAdd, Int.reduceSub, Int.reduceMul, Int.reduceNeg, Int.reduceBEq, Int.reduceBNe, b_il_Right, g_il_Right_0, g_il_Right_1, g_il_Right_2, g_il_Right_3, g_il_Right_4, g_il_Right_5, g_il_Right_6, g_il_Right_7, g_il_Right_8, g_il_Right_9, g_il_Right_10, g_il_Right_11, h, Ins.c, h0, h1, h2]
theorem right_5 (k : Nat) (i : Ins) (hc : cl i.op = 5) : acall T (k + 5) 26 0 [.agg i.c] [] = some ⟨.v (.bool (right i)), [], 1⟩ := by
  rw [acall_go (body := b_il_Right) rfl rfl (Nat.zero_le _)]
  obtain ⟨s, h⟩ := ilof_a (k + 2) i.op
  rw [hc] at h
  unfold right
  rw [hc]
  simp only [Int.reduceEq, if_true, if_false]
  have hz := ksize_a (k + 1) i.k
  try simp -implicitDefEqProofs only [eqs, eqd, aCall, Sym.reach, Sym.pos, Sym.sub, lh_some, ↓reduceIte, reduceCtorEq, Nat.reduceEqDiff, Nat.reduceAdd, Nat.reduceSub, Nat.reduceMul, Nat.reduceLT, Nat.reduceLeDiff, Nat.reduceBEq, Nat.reduceBNe, Nat.reduceGT, Int.reduceEq, Int.reduceLT, Int.reduceLE, Int.reduceToNat, Int.reduceAdd, Int.reduceSub, Int.reduceMul, Int.reduceNeg, Int.reduceBEq, Int.reduceBNe, b_il_Right, g_il_Right_0, g_il_Right_1, g_il_Right_2, g_il_Right_3, g_il_Right_4, g_il_Right_5, g_il_Right_6, g_il_Right_7, g_il_Right_8, g_il_Right_9, g_il_Right_10, g_il_Right_11, h, Ins.c, hz]
  cases h0 : (i.ar == 0)
  · simp -implicitDefEqProofs only [eqs, eqd, aCall, Sym.reach, Sym.pos, Sym.sub, lh_some, ↓reduceIte, reduceCtorEq, Nat.reduceEqDiff, Nat.reduceAdd, Nat.reduceSub, Nat.reduceMul, Nat.reduceLT, Nat.reduceLeDiff, Nat.reduceBEq, Nat.reduceBNe, Nat.reduceGT, Int.reduceEq, Int.reduceLT, Int.reduceLE, Int.reduceToNat, Int.reduceAdd, Int.reduceSub, Int.reduceMul, Int.reduceNeg, Int.reduceBEq, Int.reduceBNe, b_il_Right, g_il_Right_0, g_il_Right_1, g_il_Right_2, g_il_Right_3, g_il_Right_4, g_il_Right_5, g_il_Right_6, g_il_Right_7, g_il_Right_8, g_il_Right_9, g_il_Right_10, g_il_Right_11, h, Ins.c, hz, h0]
  try simp -implicitDefEqProofs only [eqs, eqd, aCall, Sym.reach, Sym.pos, Sym.sub, lh_some, ↓reduceIte, reduceCtorEq, Nat.reduceEqDiff, Nat.reduceAdd, Nat.reduceSub, Nat.reduceMul, Nat.reduceLT, Nat.reduceLeDiff, Nat.reduceBEq, Nat.reduceBNe, Nat.reduceGT, Int.reduceEq, Int.reduceLT, Int.reduceLE, Int.reduceToNat, Int.reduceAdd, Int.reduceSub, Int.reduceMul, Int.reduceNeg, Int.reduceBEq, Int.reduceBNe, b_il_Right, g_il_Right_0, g_il_Right_1, g_il_Right_2, g_il_Right_3, g_il_Right_4, g_il_Right_5, g_il_Right_6, g_il_Right_7, g_il_Right_8, g_il_Right_9, g_il_Right_10, g_il_Right_11, h, Ins.c, hz, h0]
  cases h1 : (i.n == 0)
  · simp -implicitDefEqProofs only [eqs, eqd, aCall, Sym.reach, Sym.pos, Sym.sub, lh_some, ↓reduceIte, reduceCtorEq, Nat.reduceEqDiff, Nat.reduceAdd, Nat.reduceSub, Nat.reduceMul, Nat.reduceLT, Nat.reduceLeDiff, Nat.reduceBEq, Nat.reduceBNe, Nat.reduceGT, Int.reduceEq, Int.reduceLT, Int.reduceLE, Int.reduceToNat, Int.reduceAdd, Int.reduceSub, Int.reduceMul, Int.reduceNeg, Int.reduceBEq, Int.reduceBNe, b_il_Right, g_il_Right_0, g_il_Right_1, g_il_Right_2, g_il_Right_3, g_il_Right_4, g_il_Right_5, g_il_Right_6, g_il_Right_7, g_il_Right_8, g_il_Right_9, g_il_Right_10, g_il_Right_11, h, Ins.c, hz, h0, h1]
  try simp -implicitDefEqProofs only [eqs, eqd, aCall, Sym.reach, Sym.pos, Sym.sub, lh_some, ↓reduceIte, reduceCtorEq, Nat.reduceEqDiff, Nat.reduceAdd, Nat.reduceSub, Nat.reduceMul, Nat.reduceLT, Nat.reduceLeDiff, Nat.reduceBEq, Nat.reduceBNe, Nat.reduceGT, Int.reduceEq, Int.reduceLT, Int.reduceLE, Int.reduceToNat, Int.reduceAdd, Int.reduceSub, Int.reduceMul, Int.reduceNeg, Int.reduceBEq, Int.reduceBNe, b_il_Right, g_il_Right_0, g_il_Right_1, g_il_Right_2, g_il_Right_3, g_il_Right_4, g_il_Right_5, g_il_Right_6, g_il_Right_7, g_il_Right_8, g_il_Right_9, g_il_Right_10, g_il_Right_11, h, Ins.c, hz, h0, h1]
  cases h2 : (i.at_ == 0)
  · simp -implicitDefEqProofs only [eqs, eqd, aCall, Sym.reach, Sym.pos, Sym.sub, lh_some, ↓reduceIte, reduceCtorEq, Nat.reduceEqDiff, Nat.reduceAdd, Nat.reduceSub, Nat.reduceMul, Nat.reduceLT, Nat.reduceLeDiff, Nat.reduceBEq, Nat.reduceBNe, Nat.reduceGT, Int.reduceEq, Int.reduceLT, Int.reduceLE, Int.reduceToNat, Int.reduceAdd, Int.reduceSub, Int.reduceMul, Int.reduceNeg, Int.reduceBEq, Int.reduceBNe, b_il_Right, g_il_Right_0, g_il_Right_1, g_il_Right_2, g_il_Right_3, g_il_Right_4, g_il_Right_5, g_il_Right_6, g_il_Right_7, g_il_Right_8, g_il_Right_9, g_il_Right_10, g_il_Right_11, h, Ins.c, hz, h0, h1, h2]
  simp -implicitDefEqProofs only [eqs, eqd, aCall, Sym.reach, Sym.pos, Sym.sub, lh_some, ↓reduceIte, reduceCtorEq, Nat.reduceEqDiff, Nat.reduceAdd, Nat.reduceSub, Nat.reduceMul, Nat.reduceLT, Nat.reduceLeDiff, Nat.reduceBEq, Nat.reduceBNe, Nat.reduceGT, Int.reduceEq, Int.reduceLT, Int.reduceLE, Int.reduceToNat, Int.reduceAdd, Int.reduceSub, Int.reduceMul, Int.reduceNeg, Int.reduceBEq, Int.reduceBNe, b_il_Right, g_il_Right_0, g_il_Right_1, g_il_Right_2, g_il_Right_3, g_il_Right_4, g_il_Right_5, g_il_Right_6, g_il_Right_7, g_il_Right_8, g_il_Right_9, g_il_Right_10, g_il_Right_11, h, Ins.c, hz, h0, h1, h2]
theorem right_6 (k : Nat) (i : Ins) (hc : cl i.op = 6) : acall T (k + 5) 26 0 [.agg i.c] [] = some ⟨.v (.bool (right i)), [], 1⟩ := by
  rw [acall_go (body := b_il_Right) rfl rfl (Nat.zero_le _)]
  obtain ⟨s, h⟩ := ilof_a (k + 2) i.op
  rw [hc] at h
  unfold right
  rw [hc]
  simp only [Int.reduceEq, if_true, if_false]
  have hz := within_a (k + 1) i.at_
  try simp -implicitDefEqProofs only [eqs, eqd, aCall, Sym.reach, Sym.pos, Sym.sub, lh_some, ↓reduceIte, reduceCtorEq, Nat.reduceEqDiff, Nat.reduceAdd, Nat.reduceSub, Nat.reduceMul, Nat.reduceLT, Nat.reduceLeDiff, Nat.reduceBEq, Nat.reduceBNe, Nat.reduceGT, Int.reduceEq, Int.reduceLT, Int.reduceLE, Int.reduceToNat, Int.reduceAdd, Int.reduceSub, Int.reduceMul, Int.reduceNeg, Int.reduceBEq, Int.reduceBNe, b_il_Right, g_il_Right_0, g_il_Right_1, g_il_Right_2, g_il_Right_3, g_il_Right_4, g_il_Right_5, g_il_Right_6, g_il_Right_7, g_il_Right_8, g_il_Right_9, g_il_Right_10, g_il_Right_11, h, Ins.c, hz]
  cases h0 : (i.ar == 0)
  · simp -implicitDefEqProofs only [eqs, eqd, aCall, Sym.reach, Sym.pos, Sym.sub, lh_some, ↓reduceIte, reduceCtorEq, Nat.reduceEqDiff, Nat.reduceAdd, Nat.reduceSub, Nat.reduceMul, Nat.reduceLT, Nat.reduceLeDiff, Nat.reduceBEq, Nat.reduceBNe, Nat.reduceGT, Int.reduceEq, Int.reduceLT, Int.reduceLE, Int.reduceToNat, Int.reduceAdd, Int.reduceSub, Int.reduceMul, Int.reduceNeg, Int.reduceBEq, Int.reduceBNe, b_il_Right, g_il_Right_0, g_il_Right_1, g_il_Right_2, g_il_Right_3, g_il_Right_4, g_il_Right_5, g_il_Right_6, g_il_Right_7, g_il_Right_8, g_il_Right_9, g_il_Right_10, g_il_Right_11, h, Ins.c, hz, h0]
  try simp -implicitDefEqProofs only [eqs, eqd, aCall, Sym.reach, Sym.pos, Sym.sub, lh_some, ↓reduceIte, reduceCtorEq, Nat.reduceEqDiff, Nat.reduceAdd, Nat.reduceSub, Nat.reduceMul, Nat.reduceLT, Nat.reduceLeDiff, Nat.reduceBEq, Nat.reduceBNe, Nat.reduceGT, Int.reduceEq, Int.reduceLT, Int.reduceLE, Int.reduceToNat, Int.reduceAdd, Int.reduceSub, Int.reduceMul, Int.reduceNeg, Int.reduceBEq, Int.reduceBNe, b_il_Right, g_il_Right_0, g_il_Right_1, g_il_Right_2, g_il_Right_3, g_il_Right_4, g_il_Right_5, g_il_Right_6, g_il_Right_7, g_il_Right_8, g_il_Right_9, g_il_Right_10, g_il_Right_11, h, Ins.c, hz, h0]
  cases h1 : (i.n == 0)
  · simp -implicitDefEqProofs only [eqs, eqd, aCall, Sym.reach, Sym.pos, Sym.sub, lh_some, ↓reduceIte, reduceCtorEq, Nat.reduceEqDiff, Nat.reduceAdd, Nat.reduceSub, Nat.reduceMul, Nat.reduceLT, Nat.reduceLeDiff, Nat.reduceBEq, Nat.reduceBNe, Nat.reduceGT, Int.reduceEq, Int.reduceLT, Int.reduceLE, Int.reduceToNat, Int.reduceAdd, Int.reduceSub, Int.reduceMul, Int.reduceNeg, Int.reduceBEq, Int.reduceBNe, b_il_Right, g_il_Right_0, g_il_Right_1, g_il_Right_2, g_il_Right_3, g_il_Right_4, g_il_Right_5, g_il_Right_6, g_il_Right_7, g_il_Right_8, g_il_Right_9, g_il_Right_10, g_il_Right_11, h, Ins.c, hz, h0, h1]
  try simp -implicitDefEqProofs only [eqs, eqd, aCall, Sym.reach, Sym.pos, Sym.sub, lh_some, ↓reduceIte, reduceCtorEq, Nat.reduceEqDiff, Nat.reduceAdd, Nat.reduceSub, Nat.reduceMul, Nat.reduceLT, Nat.reduceLeDiff, Nat.reduceBEq, Nat.reduceBNe, Nat.reduceGT, Int.reduceEq, Int.reduceLT, Int.reduceLE, Int.reduceToNat, Int.reduceAdd, Int.reduceSub, Int.reduceMul, Int.reduceNeg, Int.reduceBEq, Int.reduceBNe, b_il_Right, g_il_Right_0, g_il_Right_1, g_il_Right_2, g_il_Right_3, g_il_Right_4, g_il_Right_5, g_il_Right_6, g_il_Right_7, g_il_Right_8, g_il_Right_9, g_il_Right_10, g_il_Right_11, h, Ins.c, hz, h0, h1]
  cases h2 : (i.k == 0)
  · simp -implicitDefEqProofs only [eqs, eqd, aCall, Sym.reach, Sym.pos, Sym.sub, lh_some, ↓reduceIte, reduceCtorEq, Nat.reduceEqDiff, Nat.reduceAdd, Nat.reduceSub, Nat.reduceMul, Nat.reduceLT, Nat.reduceLeDiff, Nat.reduceBEq, Nat.reduceBNe, Nat.reduceGT, Int.reduceEq, Int.reduceLT, Int.reduceLE, Int.reduceToNat, Int.reduceAdd, Int.reduceSub, Int.reduceMul, Int.reduceNeg, Int.reduceBEq, Int.reduceBNe, b_il_Right, g_il_Right_0, g_il_Right_1, g_il_Right_2, g_il_Right_3, g_il_Right_4, g_il_Right_5, g_il_Right_6, g_il_Right_7, g_il_Right_8, g_il_Right_9, g_il_Right_10, g_il_Right_11, h, Ins.c, hz, h0, h1, h2]
  simp -implicitDefEqProofs only [eqs, eqd, aCall, Sym.reach, Sym.pos, Sym.sub, lh_some, ↓reduceIte, reduceCtorEq, Nat.reduceEqDiff, Nat.reduceAdd, Nat.reduceSub, Nat.reduceMul, Nat.reduceLT, Nat.reduceLeDiff, Nat.reduceBEq, Nat.reduceBNe, Nat.reduceGT, Int.reduceEq, Int.reduceLT, Int.reduceLE, Int.reduceToNat, Int.reduceAdd, Int.reduceSub, Int.reduceMul, Int.reduceNeg, Int.reduceBEq, Int.reduceBNe, b_il_Right, g_il_Right_0, g_il_Right_1, g_il_Right_2, g_il_Right_3, g_il_Right_4, g_il_Right_5, g_il_Right_6, g_il_Right_7, g_il_Right_8, g_il_Right_9, g_il_Right_10, g_il_Right_11, h, Ins.c, hz, h0, h1, h2]
theorem right_7 (k : Nat) (i : Ins) (hc : cl i.op = 7) : acall T (k + 5) 26 0 [.agg i.c] [] = some ⟨.v (.bool (right i)), [], 1⟩ := by
  rw [acall_go (body := b_il_Right) rfl rfl (Nat.zero_le _)]
  obtain ⟨s, h⟩ := ilof_a (k + 2) i.op
  rw [hc] at h
  unfold right
  rw [hc]
  simp only [Int.reduceEq, if_true, if_false]
  have hz := keeps_a (k + 3) i.ar
  generalize (i.ar == 3 || i.ar == 4) = kp at *
  cases p0 : (i.ar == 0) <;> cases p1 : (i.n == 0) <;> (
    try simp -implicitDefEqProofs only [eqs, eqd, aCall, Sym.reach, Sym.pos, Sym.sub, lh_some, ↓reduceIte, reduceCtorEq, Nat.reduceEqDiff, Nat.reduceAdd, Nat.reduceSub, Nat.reduceMul, Nat.reduceLT, Nat.reduceLeDiff, Nat.reduceBEq, Nat.reduceBNe, Nat.reduceGT, Int.reduceEq, Int.reduceLT, Int.reduceLE, Int.reduceToNat, Int.reduceAdd, Int.reduceSub, Int.reduceMul, Int.reduceNeg, Int.reduceBEq, Int.reduceBNe, b_il_Right, g_il_Right_0, g_il_Right_1, g_il_Right_2, g_il_Right_3, g_il_Right_4, g_il_Right_5, g_il_Right_6, g_il_Right_7, g_il_Right_8, g_il_Right_9, g_il_Right_10, g_il_Right_11, h, Ins.c, hz, p0, p1]
    cases h0 : (i.k == 0)
    · simp -implicitDefEqProofs only [eqs, eqd, aCall, Sym.reach, Sym.pos, Sym.sub, lh_some, ↓reduceIte, reduceCtorEq, Nat.reduceEqDiff, Nat.reduceAdd, Nat.reduceSub, Nat.reduceMul, Nat.reduceLT, Nat.reduceLeDiff, Nat.reduceBEq, Nat.reduceBNe, Nat.reduceGT, Int.reduceEq, Int.reduceLT, Int.reduceLE, Int.reduceToNat, Int.reduceAdd, Int.reduceSub, Int.reduceMul, Int.reduceNeg, Int.reduceBEq, Int.reduceBNe, b_il_Right, g_il_Right_0, g_il_Right_1, g_il_Right_2, g_il_Right_3, g_il_Right_4, g_il_Right_5, g_il_Right_6, g_il_Right_7, g_il_Right_8, g_il_Right_9, g_il_Right_10, g_il_Right_11, h, Ins.c, hz, p0, p1, h0]
    try simp -implicitDefEqProofs only [eqs, eqd, aCall, Sym.reach, Sym.pos, Sym.sub, lh_some, ↓reduceIte, reduceCtorEq, Nat.reduceEqDiff, Nat.reduceAdd, Nat.reduceSub, Nat.reduceMul, Nat.reduceLT, Nat.reduceLeDiff, Nat.reduceBEq, Nat.reduceBNe, Nat.reduceGT, Int.reduceEq, Int.reduceLT, Int.reduceLE, Int.reduceToNat, Int.reduceAdd, Int.reduceSub, Int.reduceMul, Int.reduceNeg, Int.reduceBEq, Int.reduceBNe, b_il_Right, g_il_Right_0, g_il_Right_1, g_il_Right_2, g_il_Right_3, g_il_Right_4, g_il_Right_5, g_il_Right_6, g_il_Right_7, g_il_Right_8, g_il_Right_9, g_il_Right_10, g_il_Right_11, h, Ins.c, hz, p0, p1, h0]
    cases kp
    · simp -implicitDefEqProofs only [eqs, eqd, aCall, Sym.reach, Sym.pos, Sym.sub, lh_some, ↓reduceIte, reduceCtorEq, Nat.reduceEqDiff, Nat.reduceAdd, Nat.reduceSub, Nat.reduceMul, Nat.reduceLT, Nat.reduceLeDiff, Nat.reduceBEq, Nat.reduceBNe, Nat.reduceGT, Int.reduceEq, Int.reduceLT, Int.reduceLE, Int.reduceToNat, Int.reduceAdd, Int.reduceSub, Int.reduceMul, Int.reduceNeg, Int.reduceBEq, Int.reduceBNe, b_il_Right, g_il_Right_0, g_il_Right_1, g_il_Right_2, g_il_Right_3, g_il_Right_4, g_il_Right_5, g_il_Right_6, g_il_Right_7, g_il_Right_8, g_il_Right_9, g_il_Right_10, g_il_Right_11, h, Ins.c, hz, p0, p1, h0]
    try simp -implicitDefEqProofs only [eqs, eqd, aCall, Sym.reach, Sym.pos, Sym.sub, lh_some, ↓reduceIte, reduceCtorEq, Nat.reduceEqDiff, Nat.reduceAdd, Nat.reduceSub, Nat.reduceMul, Nat.reduceLT, Nat.reduceLeDiff, Nat.reduceBEq, Nat.reduceBNe, Nat.reduceGT, Int.reduceEq, Int.reduceLT, Int.reduceLE, Int.reduceToNat, Int.reduceAdd, Int.reduceSub, Int.reduceMul, Int.reduceNeg, Int.reduceBEq, Int.reduceBNe, b_il_Right, g_il_Right_0, g_il_Right_1, g_il_Right_2, g_il_Right_3, g_il_Right_4, g_il_Right_5, g_il_Right_6, g_il_Right_7, g_il_Right_8, g_il_Right_9, g_il_Right_10, g_il_Right_11, h, Ins.c, hz, p0, p1, h0]
    cases h2 : decide (0 ≤ i.at_)
    · simp -implicitDefEqProofs only [eqs, eqd, aCall, Sym.reach, Sym.pos, Sym.sub, lh_some, ↓reduceIte, reduceCtorEq, Nat.reduceEqDiff, Nat.reduceAdd, Nat.reduceSub, Nat.reduceMul, Nat.reduceLT, Nat.reduceLeDiff, Nat.reduceBEq, Nat.reduceBNe, Nat.reduceGT, Int.reduceEq, Int.reduceLT, Int.reduceLE, Int.reduceToNat, Int.reduceAdd, Int.reduceSub, Int.reduceMul, Int.reduceNeg, Int.reduceBEq, Int.reduceBNe, b_il_Right, g_il_Right_0, g_il_Right_1, g_il_Right_2, g_il_Right_3, g_il_Right_4, g_il_Right_5, g_il_Right_6, g_il_Right_7, g_il_Right_8, g_il_Right_9, g_il_Right_10, g_il_Right_11, h, Ins.c, hz, p0, p1, h0, h2]
    try simp -implicitDefEqProofs only [eqs, eqd, aCall, Sym.reach, Sym.pos, Sym.sub, lh_some, ↓reduceIte, reduceCtorEq, Nat.reduceEqDiff, Nat.reduceAdd, Nat.reduceSub, Nat.reduceMul, Nat.reduceLT, Nat.reduceLeDiff, Nat.reduceBEq, Nat.reduceBNe, Nat.reduceGT, Int.reduceEq, Int.reduceLT, Int.reduceLE, Int.reduceToNat, Int.reduceAdd, Int.reduceSub, Int.reduceMul, Int.reduceNeg, Int.reduceBEq, Int.reduceBNe, b_il_Right, g_il_Right_0, g_il_Right_1, g_il_Right_2, g_il_Right_3, g_il_Right_4, g_il_Right_5, g_il_Right_6, g_il_Right_7, g_il_Right_8, g_il_Right_9, g_il_Right_10, g_il_Right_11, h, Ins.c, hz, p0, p1, h0, h2]
    cases h3 : decide (i.at_ ≤ 59)
    · simp -implicitDefEqProofs only [eqs, eqd, aCall, Sym.reach, Sym.pos, Sym.sub, lh_some, ↓reduceIte, reduceCtorEq, Nat.reduceEqDiff, Nat.reduceAdd, Nat.reduceSub, Nat.reduceMul, Nat.reduceLT, Nat.reduceLeDiff, Nat.reduceBEq, Nat.reduceBNe, Nat.reduceGT, Int.reduceEq, Int.reduceLT, Int.reduceLE, Int.reduceToNat, Int.reduceAdd, Int.reduceSub, Int.reduceMul, Int.reduceNeg, Int.reduceBEq, Int.reduceBNe, b_il_Right, g_il_Right_0, g_il_Right_1, g_il_Right_2, g_il_Right_3, g_il_Right_4, g_il_Right_5, g_il_Right_6, g_il_Right_7, g_il_Right_8, g_il_Right_9, g_il_Right_10, g_il_Right_11, h, Ins.c, hz, p0, p1, h0, h2, h3]
    try simp -implicitDefEqProofs only [eqs, eqd, aCall, Sym.reach, Sym.pos, Sym.sub, lh_some, ↓reduceIte, reduceCtorEq, Nat.reduceEqDiff, Nat.reduceAdd, Nat.reduceSub, Nat.reduceMul, Nat.reduceLT, Nat.reduceLeDiff, Nat.reduceBEq, Nat.reduceBNe, Nat.reduceGT, Int.reduceEq, Int.reduceLT, Int.reduceLE, Int.reduceToNat, Int.reduceAdd, Int.reduceSub, Int.reduceMul, Int.reduceNeg, Int.reduceBEq, Int.reduceBNe, b_il_Right, g_il_Right_0, g_il_Right_1, g_il_Right_2, g_il_Right_3, g_il_Right_4, g_il_Right_5, g_il_Right_6, g_il_Right_7, g_il_Right_8, g_il_Right_9, g_il_Right_10, g_il_Right_11, h, Ins.c, hz, p0, p1, h0, h2, h3]
    cases h4 : decide (1 ≤ i.n)
    · simp -implicitDefEqProofs only [eqs, eqd, aCall, Sym.reach, Sym.pos, Sym.sub, lh_some, ↓reduceIte, reduceCtorEq, Nat.reduceEqDiff, Nat.reduceAdd, Nat.reduceSub, Nat.reduceMul, Nat.reduceLT, Nat.reduceLeDiff, Nat.reduceBEq, Nat.reduceBNe, Nat.reduceGT, Int.reduceEq, Int.reduceLT, Int.reduceLE, Int.reduceToNat, Int.reduceAdd, Int.reduceSub, Int.reduceMul, Int.reduceNeg, Int.reduceBEq, Int.reduceBNe, b_il_Right, g_il_Right_0, g_il_Right_1, g_il_Right_2, g_il_Right_3, g_il_Right_4, g_il_Right_5, g_il_Right_6, g_il_Right_7, g_il_Right_8, g_il_Right_9, g_il_Right_10, g_il_Right_11, h, Ins.c, hz, p0, p1, h0, h2, h3, h4]
    simp -implicitDefEqProofs only [eqs, eqd, aCall, Sym.reach, Sym.pos, Sym.sub, lh_some, ↓reduceIte, reduceCtorEq, Nat.reduceEqDiff, Nat.reduceAdd, Nat.reduceSub, Nat.reduceMul, Nat.reduceLT, Nat.reduceLeDiff, Nat.reduceBEq, Nat.reduceBNe, Nat.reduceGT, Int.reduceEq, Int.reduceLT, Int.reduceLE, Int.reduceToNat, Int.reduceAdd, Int.reduceSub, Int.reduceMul, Int.reduceNeg, Int.reduceBEq, Int.reduceBNe, b_il_Right, g_il_Right_0, g_il_Right_1, g_il_Right_2, g_il_Right_3, g_il_Right_4, g_il_Right_5, g_il_Right_6, g_il_Right_7, g_il_Right_8, g_il_Right_9, g_il_Right_10, g_il_Right_11, h, Ins.c, hz, p0, p1, h0, h2, h3, h4])
theorem right_8 (k : Nat) (i : Ins) (hc : cl i.op = 8) : acall T (k + 5) 26 0 [.agg i.c] [] = some ⟨.v (.bool (right i)), [], 1⟩ := by
  rw [acall_go (body := b_il_Right) rfl rfl (Nat.zero_le _)]
  obtain ⟨s, h⟩ := ilof_a (k + 2) i.op
  rw [hc] at h
  unfold right
  rw [hc]
  simp only [Int.reduceEq, if_true, if_false]
  have hz := keeps_a (k + 3) i.ar
  generalize (i.ar == 3 || i.ar == 4) = kp at *
  cases p0 : (i.ar == 0) <;> cases p1 : (i.n == 0) <;> (
    try simp -implicitDefEqProofs only [eqs, eqd, aCall, Sym.reach, Sym.pos, Sym.sub, lh_some, ↓reduceIte, reduceCtorEq, Nat.reduceEqDiff, Nat.reduceAdd, Nat.reduceSub, Nat.reduceMul, Nat.reduceLT, Nat.reduceLeDiff, Nat.reduceBEq, Nat.reduceBNe, Nat.reduceGT, Int.reduceEq, Int.reduceLT, Int.reduceLE, Int.reduceToNat, Int.reduceAdd, Int.reduceSub, Int.reduceMul, Int.reduceNeg, Int.reduceBEq, Int.reduceBNe, b_il_Right, g_il_Right_0, g_il_Right_1, g_il_Right_2, g_il_Right_3, g_il_Right_4, g_il_Right_5, g_il_Right_6, g_il_Right_7, g_il_Right_8, g_il_Right_9, g_il_Right_10, g_il_Right_11, h, Ins.c, hz, p0, p1]
    cases h0 : (i.k == 0)
    · simp -implicitDefEqProofs only [eqs, eqd, aCall, Sym.reach, Sym.pos, Sym.sub, lh_some, ↓reduceIte, reduceCtorEq, Nat.reduceEqDiff, Nat.reduceAdd, Nat.reduceSub, Nat.reduceMul, Nat.reduceLT, Nat.reduceLeDiff, Nat.reduceBEq, Nat.reduceBNe, Nat.reduceGT, Int.reduceEq, Int.reduceLT, Int.reduceLE, Int.reduceToNat, Int.reduceAdd, Int.reduceSub, Int.reduceMul, Int.reduceNeg, Int.reduceBEq, Int.reduceBNe, b_il_Right, g_il_Right_0, g_il_Right_1, g_il_Right_2, g_il_Right_3, g_il_Right_4, g_il_Right_5, g_il_Right_6, g_il_Right_7, g_il_Right_8, g_il_Right_9, g_il_Right_10, g_il_Right_11, h, Ins.c, hz, p0, p1, h0]
    try simp -implicitDefEqProofs only [eqs, eqd, aCall, Sym.reach, Sym.pos, Sym.sub, lh_some, ↓reduceIte, reduceCtorEq, Nat.reduceEqDiff, Nat.reduceAdd, Nat.reduceSub, Nat.reduceMul, Nat.reduceLT, Nat.reduceLeDiff, Nat.reduceBEq, Nat.reduceBNe, Nat.reduceGT, Int.reduceEq, Int.reduceLT, Int.reduceLE, Int.reduceToNat, Int.reduceAdd, Int.reduceSub, Int.reduceMul, Int.reduceNeg, Int.reduceBEq, Int.reduceBNe, b_il_Right, g_il_Right_0, g_il_Right_1, g_il_Right_2, g_il_Right_3, g_il_Right_4, g_il_Right_5, g_il_Right_6, g_il_Right_7, g_il_Right_8, g_il_Right_9, g_il_Right_10, g_il_Right_11, h, Ins.c, hz, p0, p1, h0]
    cases kp
    · simp -implicitDefEqProofs only [eqs, eqd, aCall, Sym.reach, Sym.pos, Sym.sub, lh_some, ↓reduceIte, reduceCtorEq, Nat.reduceEqDiff, Nat.reduceAdd, Nat.reduceSub, Nat.reduceMul, Nat.reduceLT, Nat.reduceLeDiff, Nat.reduceBEq, Nat.reduceBNe, Nat.reduceGT, Int.reduceEq, Int.reduceLT, Int.reduceLE, Int.reduceToNat, Int.reduceAdd, Int.reduceSub, Int.reduceMul, Int.reduceNeg, Int.reduceBEq, Int.reduceBNe, b_il_Right, g_il_Right_0, g_il_Right_1, g_il_Right_2, g_il_Right_3, g_il_Right_4, g_il_Right_5, g_il_Right_6, g_il_Right_7, g_il_Right_8, g_il_Right_9, g_il_Right_10, g_il_Right_11, h, Ins.c, hz, p0, p1, h0]
    try simp -implicitDefEqProofs only [eqs, eqd, aCall, Sym.reach, Sym.pos, Sym.sub, lh_some, ↓reduceIte, reduceCtorEq, Nat.reduceEqDiff, Nat.reduceAdd, Nat.reduceSub, Nat.reduceMul, Nat.reduceLT, Nat.reduceLeDiff, Nat.reduceBEq, Nat.reduceBNe, Nat.reduceGT, Int.reduceEq, Int.reduceLT, Int.reduceLE, Int.reduceToNat, Int.reduceAdd, Int.reduceSub, Int.reduceMul, Int.reduceNeg, Int.reduceBEq, Int.reduceBNe, b_il_Right, g_il_Right_0, g_il_Right_1, g_il_Right_2, g_il_Right_3, g_il_Right_4, g_il_Right_5, g_il_Right_6, g_il_Right_7, g_il_Right_8, g_il_Right_9, g_il_Right_10, g_il_Right_11, h, Ins.c, hz, p0, p1, h0]
    cases h2 : decide (0 ≤ i.at_)
    · simp -implicitDefEqProofs only [eqs, eqd, aCall, Sym.reach, Sym.pos, Sym.sub, lh_some, ↓reduceIte, reduceCtorEq, Nat.reduceEqDiff, Nat.reduceAdd, Nat.reduceSub, Nat.reduceMul, Nat.reduceLT, Nat.reduceLeDiff, Nat.reduceBEq, Nat.reduceBNe, Nat.reduceGT, Int.reduceEq, Int.reduceLT, Int.reduceLE, Int.reduceToNat, Int.reduceAdd, Int.reduceSub, Int.reduceMul, Int.reduceNeg, Int.reduceBEq, Int.reduceBNe, b_il_Right, g_il_Right_0, g_il_Right_1, g_il_Right_2, g_il_Right_3, g_il_Right_4, g_il_Right_5, g_il_Right_6, g_il_Right_7, g_il_Right_8, g_il_Right_9, g_il_Right_10, g_il_Right_11, h, Ins.c, hz, p0, p1, h0, h2]
    try simp -implicitDefEqProofs only [eqs, eqd, aCall, Sym.reach, Sym.pos, Sym.sub, lh_some, ↓reduceIte, reduceCtorEq, Nat.reduceEqDiff, Nat.reduceAdd, Nat.reduceSub, Nat.reduceMul, Nat.reduceLT, Nat.reduceLeDiff, Nat.reduceBEq, Nat.reduceBNe, Nat.reduceGT, Int.reduceEq, Int.reduceLT, Int.reduceLE, Int.reduceToNat, Int.reduceAdd, Int.reduceSub, Int.reduceMul, Int.reduceNeg, Int.reduceBEq, Int.reduceBNe, b_il_Right, g_il_Right_0, g_il_Right_1, g_il_Right_2, g_il_Right_3, g_il_Right_4, g_il_Right_5, g_il_Right_6, g_il_Right_7, g_il_Right_8, g_il_Right_9, g_il_Right_10, g_il_Right_11, h, Ins.c, hz, p0, p1, h0, h2]
    cases h3 : decide (i.at_ < 64)
    · simp -implicitDefEqProofs only [eqs, eqd, aCall, Sym.reach, Sym.pos, Sym.sub, lh_some, ↓reduceIte, reduceCtorEq, Nat.reduceEqDiff, Nat.reduceAdd, Nat.reduceSub, Nat.reduceMul, Nat.reduceLT, Nat.reduceLeDiff, Nat.reduceBEq, Nat.reduceBNe, Nat.reduceGT, Int.reduceEq, Int.reduceLT, Int.reduceLE, Int.reduceToNat, Int.reduceAdd, Int.reduceSub, Int.reduceMul, Int.reduceNeg, Int.reduceBEq, Int.reduceBNe, b_il_Right, g_il_Right_0, g_il_Right_1, g_il_Right_2, g_il_Right_3, g_il_Right_4, g_il_Right_5, g_il_Right_6, g_il_Right_7, g_il_Right_8, g_il_Right_9, g_il_Right_10, g_il_Right_11, h, Ins.c, hz, p0, p1, h0, h2, h3]
    simp -implicitDefEqProofs only [eqs, eqd, aCall, Sym.reach, Sym.pos, Sym.sub, lh_some, ↓reduceIte, reduceCtorEq, Nat.reduceEqDiff, Nat.reduceAdd, Nat.reduceSub, Nat.reduceMul, Nat.reduceLT, Nat.reduceLeDiff, Nat.reduceBEq, Nat.reduceBNe, Nat.reduceGT, Int.reduceEq, Int.reduceLT, Int.reduceLE, Int.reduceToNat, Int.reduceAdd, Int.reduceSub, Int.reduceMul, Int.reduceNeg, Int.reduceBEq, Int.reduceBNe, b_il_Right, g_il_Right_0, g_il_Right_1, g_il_Right_2, g_il_Right_3, g_il_Right_4, g_il_Right_5, g_il_Right_6, g_il_Right_7, g_il_Right_8, g_il_Right_9, g_il_Right_10, g_il_Right_11, h, Ins.c, hz, p0, p1, h0, h2, h3])
theorem right_0 (k : Nat) (i : Ins) (hc : cl i.op = 0) : acall T (k + 5) 26 0 [.agg i.c] [] = some ⟨.v (.bool (right i)), [], 1⟩ := by
  rw [acall_go (body := b_il_Right) rfl rfl (Nat.zero_le _)]
  obtain ⟨s, h⟩ := ilof_a (k + 2) i.op
  rw [hc] at h
  unfold right
  rw [hc]
  simp only [Int.reduceEq, if_true, if_false]
  cases p0 : (i.ar == 0) <;> cases p1 : (i.n == 0) <;> simp -implicitDefEqProofs only [eqs, eqd, aCall, Sym.reach, Sym.pos, Sym.sub, lh_some, ↓reduceIte, reduceCtorEq, Nat.reduceEqDiff, Nat.reduceAdd, Nat.reduceSub, Nat.reduceMul, Nat.reduceLT, Nat.reduceLeDiff, Nat.reduceBEq, Nat.reduceBNe, Nat.reduceGT, Int.reduceEq, Int.reduceLT, Int.reduceLE, Int.reduceToNat, Int.reduceAdd, Int.reduceSub, Int.reduceMul, Int.reduceNeg, Int.reduceBEq, Int.reduceBNe, b_il_Right, g_il_Right_0, g_il_Right_1, g_il_Right_2, g_il_Right_3, g_il_Right_4, g_il_Right_5, g_il_Right_6, g_il_Right_7, g_il_Right_8, g_il_Right_9, g_il_Right_10, g_il_Right_11, h, Ins.c, p0, p1]
theorem right_a (k : Nat) (i : Ins) : acall T (k + 5) 26 0 [.agg i.c] [] = some ⟨.v (.bool (right i)), [], 1⟩ := by
  have h : cl i.op = 0 ∨ cl i.op = 1 ∨ cl i.op = 2 ∨ cl i.op = 3 ∨ cl i.op = 4 ∨ cl i.op = 5 ∨ cl i.op = 6 ∨ cl i.op = 7 ∨ cl i.op = 8 := by
    unfold cl
    repeat' split
    all_goals omega
  rcases h with h | h | h | h | h | h | h | h | h
  · exact right_0 k i h
  · exact right_1 k i h
  · exact right_2 k i h
  · exact right_3 k i h
  · exact right_4 k i h
  · exact right_5 k i h
  · exact right_6 k i h
  · exact right_7 k i h
  · exact right_8 k i h
end Go.Proofs.Ytlefnekfeeihaaa.Ver

/- Instructions that may be: the document's answer. Written by a program for this claim. -/
namespace Go.Proofs.Ytlefnekfeeihaaa.Ver
open Go Go.Proofs.Ytlefnekfeeihaaa.Sym Go.Proofs.Ytlefnekfeeihaaa.Tab
set_option linter.unusedVariables false
set_option linter.unusedSimpArgs false
set_option maxHeartbeats 4000000
set_option maxRecDepth 20000
def rd1 (op : Int) : Bool := op == 1 || (op == 2 || ((decide (7 ≤ op) && decide (op ≤ 12)) || (decide (14 ≤ op) && decide (op ≤ 24))))
theorem reads_a (k : Nat) (op : Int) : acall T (k + 1) 17 0 [.v (.int .i64 op)] [] = some ⟨.v (.bool (rd1 op)), [], 0⟩ := by
  rw [acall_go (body := b_fuglemanref12_reads) rfl rfl (Nat.zero_le _)]
  unfold rd1
  cases h1 : (op == 1)
  case true => simp -implicitDefEqProofs only [eqs, eqd, aCall, Sym.reach, Sym.pos, Sym.sub, lh_some, ↓reduceIte, reduceCtorEq, Nat.reduceEqDiff, Nat.reduceAdd, Nat.reduceSub, Nat.reduceMul, Nat.reduceLT, Nat.reduceLeDiff, Nat.reduceBEq, Nat.reduceBNe, Nat.reduceGT, Int.reduceEq, Int.reduceLT, Int.reduceLE, Int.reduceToNat, Int.reduceAdd, Int.reduceSub, Int.reduceMul, Int.reduceNeg, Int.reduceBEq, Int.reduceBNe, b_fuglemanref12_reads, h1]
  cases h2 : (op == 2)
  case true => simp -implicitDefEqProofs only [eqs, eqd, aCall, Sym.reach, Sym.pos, Sym.sub, lh_some, ↓reduceIte, reduceCtorEq, Nat.reduceEqDiff, Nat.reduceAdd, Nat.reduceSub, Nat.reduceMul, Nat.reduceLT, Nat.reduceLeDiff, Nat.reduceBEq, Nat.reduceBNe, Nat.reduceGT, Int.reduceEq, Int.reduceLT, Int.reduceLE, Int.reduceToNat, Int.reduceAdd, Int.reduceSub, Int.reduceMul, Int.reduceNeg, Int.reduceBEq, Int.reduceBNe, b_fuglemanref12_reads, h1, h2]
  cases h3 : decide (7 ≤ op) <;> cases h4 : decide (op ≤ 12) <;> cases h5 : decide (14 ≤ op) <;> cases h6 : decide (op ≤ 24) <;> simp -implicitDefEqProofs only [eqs, eqd, aCall, Sym.reach, Sym.pos, Sym.sub, lh_some, ↓reduceIte, reduceCtorEq, Nat.reduceEqDiff, Nat.reduceAdd, Nat.reduceSub, Nat.reduceMul, Nat.reduceLT, Nat.reduceLeDiff, Nat.reduceBEq, Nat.reduceBNe, Nat.reduceGT, Int.reduceEq, Int.reduceLT, Int.reduceLE, Int.reduceToNat, Int.reduceAdd, Int.reduceSub, Int.reduceMul, Int.reduceNeg, Int.reduceBEq, Int.reduceBNe, b_fuglemanref12_reads, h1, h2, h3, h4, h5, h6]
theorem rd1_cl (op : Int) : rd1 op = (cl op == 1) := by
  have key : rd1 op = true ↔ cl op = 1 := by
    unfold rd1 cl
    simp only [Bool.or_eq_true, Bool.and_eq_true, beq_iff_eq, decide_eq_true_eq]
    repeat' split
    all_goals omega
  cases h : rd1 op
  · rw [eq_comm, beq_eq_false_iff_ne]; intro e; rw [key.2 e] at h; cases h
  · rw [eq_comm, beq_iff_eq]; exact key.1 h
theorem writes_a (k : Nat) (op : Int) : acall T (k + 1) 19 0 [.v (.int .i64 op)] [] = some ⟨.v (.bool (decide (3 ≤ op) && decide (op ≤ 6))), [], 0⟩ := by
  rw [acall_go (body := b_fuglemanref12_writes) rfl rfl (Nat.zero_le _)]
  try simp -implicitDefEqProofs only [eqs, eqd, aCall, Sym.reach, Sym.pos, Sym.sub, lh_some, ↓reduceIte, reduceCtorEq, Nat.reduceEqDiff, Nat.reduceAdd, Nat.reduceSub, Nat.reduceMul, Nat.reduceLT, Nat.reduceLeDiff, Nat.reduceBEq, Nat.reduceBNe, Nat.reduceGT, Int.reduceEq, Int.reduceLT, Int.reduceLE, Int.reduceToNat, Int.reduceAdd, Int.reduceSub, Int.reduceMul, Int.reduceNeg, Int.reduceBEq, Int.reduceBNe, b_fuglemanref12_writes]
  cases h0 : decide (3 ≤ op)
  · simp -implicitDefEqProofs only [eqs, eqd, aCall, Sym.reach, Sym.pos, Sym.sub, lh_some, ↓reduceIte, reduceCtorEq, Nat.reduceEqDiff, Nat.reduceAdd, Nat.reduceSub, Nat.reduceMul, Nat.reduceLT, Nat.reduceLeDiff, Nat.reduceBEq, Nat.reduceBNe, Nat.reduceGT, Int.reduceEq, Int.reduceLT, Int.reduceLE, Int.reduceToNat, Int.reduceAdd, Int.reduceSub, Int.reduceMul, Int.reduceNeg, Int.reduceBEq, Int.reduceBNe, b_fuglemanref12_writes, h0]
  simp -implicitDefEqProofs only [eqs, eqd, aCall, Sym.reach, Sym.pos, Sym.sub, lh_some, ↓reduceIte, reduceCtorEq, Nat.reduceEqDiff, Nat.reduceAdd, Nat.reduceSub, Nat.reduceMul, Nat.reduceLT, Nat.reduceLeDiff, Nat.reduceBEq, Nat.reduceBNe, Nat.reduceGT, Int.reduceEq, Int.reduceLT, Int.reduceLE, Int.reduceToNat, Int.reduceAdd, Int.reduceSub, Int.reduceMul, Int.reduceNeg, Int.reduceBEq, Int.reduceBNe, b_fuglemanref12_writes, h0]
theorem there_a (k : Nat) (at_ n : Int) (hat : -9223372036854775808 ≤ at_ ∧ at_ ≤ 9223372036854775807) : acall T (k + 3) 20 0 [.v (.int .i64 64), .v (.int .i64 at_), .v (.int .i64 n)] [] = some ⟨.v (.bool (decide (0 < ksz n) && (decide (0 ≤ at_) && decide (at_ ≤ 64 - ksz n)))), [], 1⟩ := by
  rw [acall_go (body := b_fuglemanref11_There) rfl rfl (Nat.zero_le _)]
  have h := rsize_a k n
  have hk := ksz_in n
  by_cases h1 : 0 < ksz n
  · by_cases h2 : 0 ≤ at_
    · have e : IntKind.i64.wrap (64 - at_) = 64 - at_ := w64 (by omega) (by omega)
      by_cases h3 : at_ ≤ 64 - ksz n
      · have h4 : at_ ≤ 64 := by omega
        have h5 : ksz n ≤ 64 - at_ := by omega
        simp -implicitDefEqProofs only [eqs, eqd, aCall, Sym.reach, Sym.pos, Sym.sub, lh_some, ↓reduceIte, reduceCtorEq, Nat.reduceEqDiff, Nat.reduceAdd, Nat.reduceSub, Nat.reduceMul, Nat.reduceLT, Nat.reduceLeDiff, Nat.reduceBEq, Nat.reduceBNe, Nat.reduceGT, Int.reduceEq, Int.reduceLT, Int.reduceLE, Int.reduceToNat, Int.reduceAdd, Int.reduceSub, Int.reduceMul, Int.reduceNeg, Int.reduceBEq, Int.reduceBNe, b_fuglemanref11_There, h, h1, h2, h3, h4, h5, e]
      · by_cases h4 : at_ ≤ 64
        · have h5 : ¬ ksz n ≤ 64 - at_ := by omega
          simp -implicitDefEqProofs only [eqs, eqd, aCall, Sym.reach, Sym.pos, Sym.sub, lh_some, ↓reduceIte, reduceCtorEq, Nat.reduceEqDiff, Nat.reduceAdd, Nat.reduceSub, Nat.reduceMul, Nat.reduceLT, Nat.reduceLeDiff, Nat.reduceBEq, Nat.reduceBNe, Nat.reduceGT, Int.reduceEq, Int.reduceLT, Int.reduceLE, Int.reduceToNat, Int.reduceAdd, Int.reduceSub, Int.reduceMul, Int.reduceNeg, Int.reduceBEq, Int.reduceBNe, b_fuglemanref11_There, h, h1, h2, h3, h4, h5, e]
        · have h5 : ¬ ksz n ≤ 64 - at_ := by omega
          simp -implicitDefEqProofs only [eqs, eqd, aCall, Sym.reach, Sym.pos, Sym.sub, lh_some, ↓reduceIte, reduceCtorEq, Nat.reduceEqDiff, Nat.reduceAdd, Nat.reduceSub, Nat.reduceMul, Nat.reduceLT, Nat.reduceLeDiff, Nat.reduceBEq, Nat.reduceBNe, Nat.reduceGT, Int.reduceEq, Int.reduceLT, Int.reduceLE, Int.reduceToNat, Int.reduceAdd, Int.reduceSub, Int.reduceMul, Int.reduceNeg, Int.reduceBEq, Int.reduceBNe, b_fuglemanref11_There, h, h1, h2, h3, h4, h5, e]
    · have e : IntKind.i64.wrap (64 - at_) = IntKind.i64.wrap (64 - at_) := rfl
      simp -implicitDefEqProofs only [eqs, eqd, aCall, Sym.reach, Sym.pos, Sym.sub, lh_some, ↓reduceIte, reduceCtorEq, Nat.reduceEqDiff, Nat.reduceAdd, Nat.reduceSub, Nat.reduceMul, Nat.reduceLT, Nat.reduceLeDiff, Nat.reduceBEq, Nat.reduceBNe, Nat.reduceGT, Int.reduceEq, Int.reduceLT, Int.reduceLE, Int.reduceToNat, Int.reduceAdd, Int.reduceSub, Int.reduceMul, Int.reduceNeg, Int.reduceBEq, Int.reduceBNe, b_fuglemanref11_There, h, h1, h2]
  · simp -implicitDefEqProofs only [eqs, eqd, aCall, Sym.reach, Sym.pos, Sym.sub, lh_some, ↓reduceIte, reduceCtorEq, Nat.reduceEqDiff, Nat.reduceAdd, Nat.reduceSub, Nat.reduceMul, Nat.reduceLT, Nat.reduceLeDiff, Nat.reduceBEq, Nat.reduceBNe, Nat.reduceGT, Int.reduceEq, Int.reduceLT, Int.reduceLE, Int.reduceToNat, Int.reduceAdd, Int.reduceSub, Int.reduceMul, Int.reduceNeg, Int.reduceBEq, Int.reduceBNe, b_fuglemanref11_There, h, h1]
structure Ins.In (i : Ins) : Prop where
  op : -9223372036854775808 ≤ i.op ∧ i.op ≤ 9223372036854775807
  k : -9223372036854775808 ≤ i.k ∧ i.k ≤ 9223372036854775807
  ar : -9223372036854775808 ≤ i.ar ∧ i.ar ≤ 9223372036854775807
  at_ : -9223372036854775808 ≤ i.at_ ∧ i.at_ ≤ 9223372036854775807
  n : -9223372036854775808 ≤ i.n ∧ i.n ≤ 9223372036854775807
theorem rright_1 (k : Nat) (i : Ins) (hi : i.In) (hcl : cl i.op = 1) : acall T (k + 11) 10 0 [.agg i.c] [] = some ⟨.v (.bool (right i)), [], 1⟩ := by
  rw [acall_go (body := b_fuglemanref12_Right) rfl rfl (Nat.zero_le _)]
  have hr := reads_a (k + 9) i.op
  have hw := writes_a (k + 9) i.op
  have w0 : (decide (3 ≤ i.op) && decide (i.op ≤ 6)) = false := by
    unfold cl at hcl
    by_cases c1 : 3 ≤ i.op <;> by_cases c2 : i.op ≤ 6 <;> simp [c1, c2]
    split at hcl
    · omega
    · split at hcl <;> omega
  rw [w0] at hw
  rw [rd1_cl, hcl, show ((1 : Int) == 1) = true from rfl] at hr
  unfold right stands
  rw [hcl, if_pos rfl]
  by_cases c0 : i.ar = 0
  · have hs := ris_a k i.k i.n
    rw [if_pos c0]
    have c0' : (i.ar == 0) = true := by rw [c0]; rfl
    cases h1 : isK i.k i.n <;> rw [h1] at hs <;> cases h2 : (i.at_ == 0) <;> simp -implicitDefEqProofs only [eqs, eqd, aCall, Sym.reach, Sym.pos, Sym.sub, lh_some, ↓reduceIte, reduceCtorEq, Nat.reduceEqDiff, Nat.reduceAdd, Nat.reduceSub, Nat.reduceMul, Nat.reduceLT, Nat.reduceLeDiff, Nat.reduceBEq, Nat.reduceBNe, Nat.reduceGT, Int.reduceEq, Int.reduceLT, Int.reduceLE, Int.reduceToNat, Int.reduceAdd, Int.reduceSub, Int.reduceMul, Int.reduceNeg, Int.reduceBEq, Int.reduceBNe, b_fuglemanref12_Right, g_fuglemanref12_Right_0, g_fuglemanref12_Right_1, g_fuglemanref12_Right_2, g_fuglemanref12_Right_3, g_fuglemanref12_Right_4, g_fuglemanref12_Right_5, g_fuglemanref12_Right_6, g_fuglemanref12_Right_7, g_fuglemanref12_Right_8, g_fuglemanref12_Right_9, g_fuglemanref12_Right_10, g_fuglemanref12_Right_11, g_fuglemanref12_Right_12, g_fuglemanref12_Right_13, hr, hw, Ins.c, hs, c0', h2]
  · have c0' : (i.ar == 0) = false := by simpa using c0
    have hs := there_a (k + 7) i.at_ i.k hi.at_
    rw [if_neg c0]
    cases h1 : decide (0 < ksz i.k) <;> rw [h1] at hs
    case false => simp -implicitDefEqProofs only [eqs, eqd, aCall, Sym.reach, Sym.pos, Sym.sub, lh_some, ↓reduceIte, reduceCtorEq, Nat.reduceEqDiff, Nat.reduceAdd, Nat.reduceSub, Nat.reduceMul, Nat.reduceLT, Nat.reduceLeDiff, Nat.reduceBEq, Nat.reduceBNe, Nat.reduceGT, Int.reduceEq, Int.reduceLT, Int.reduceLE, Int.reduceToNat, Int.reduceAdd, Int.reduceSub, Int.reduceMul, Int.reduceNeg, Int.reduceBEq, Int.reduceBNe, b_fuglemanref12_Right, g_fuglemanref12_Right_0, g_fuglemanref12_Right_1, g_fuglemanref12_Right_2, g_fuglemanref12_Right_3, g_fuglemanref12_Right_4, g_fuglemanref12_Right_5, g_fuglemanref12_Right_6, g_fuglemanref12_Right_7, g_fuglemanref12_Right_8, g_fuglemanref12_Right_9, g_fuglemanref12_Right_10, g_fuglemanref12_Right_11, g_fuglemanref12_Right_12, g_fuglemanref12_Right_13, hr, hw, Ins.c, hs, c0']
    cases h2 : decide (0 ≤ i.at_) <;> rw [h2] at hs
    case false => cases h3 : decide (1 ≤ i.ar) <;> cases h4 : decide (i.ar ≤ 4) <;> simp -implicitDefEqProofs only [eqs, eqd, aCall, Sym.reach, Sym.pos, Sym.sub, lh_some, ↓reduceIte, reduceCtorEq, Nat.reduceEqDiff, Nat.reduceAdd, Nat.reduceSub, Nat.reduceMul, Nat.reduceLT, Nat.reduceLeDiff, Nat.reduceBEq, Nat.reduceBNe, Nat.reduceGT, Int.reduceEq, Int.reduceLT, Int.reduceLE, Int.reduceToNat, Int.reduceAdd, Int.reduceSub, Int.reduceMul, Int.reduceNeg, Int.reduceBEq, Int.reduceBNe, b_fuglemanref12_Right, g_fuglemanref12_Right_0, g_fuglemanref12_Right_1, g_fuglemanref12_Right_2, g_fuglemanref12_Right_3, g_fuglemanref12_Right_4, g_fuglemanref12_Right_5, g_fuglemanref12_Right_6, g_fuglemanref12_Right_7, g_fuglemanref12_Right_8, g_fuglemanref12_Right_9, g_fuglemanref12_Right_10, g_fuglemanref12_Right_11, g_fuglemanref12_Right_12, g_fuglemanref12_Right_13, hr, hw, Ins.c, hs, c0', h3, h4]
    cases h5 : decide (i.at_ ≤ 64 - ksz i.k) <;> rw [h5] at hs
    case false => cases h3 : decide (1 ≤ i.ar) <;> cases h4 : decide (i.ar ≤ 4) <;> simp -implicitDefEqProofs only [eqs, eqd, aCall, Sym.reach, Sym.pos, Sym.sub, lh_some, ↓reduceIte, reduceCtorEq, Nat.reduceEqDiff, Nat.reduceAdd, Nat.reduceSub, Nat.reduceMul, Nat.reduceLT, Nat.reduceLeDiff, Nat.reduceBEq, Nat.reduceBNe, Nat.reduceGT, Int.reduceEq, Int.reduceLT, Int.reduceLE, Int.reduceToNat, Int.reduceAdd, Int.reduceSub, Int.reduceMul, Int.reduceNeg, Int.reduceBEq, Int.reduceBNe, b_fuglemanref12_Right, g_fuglemanref12_Right_0, g_fuglemanref12_Right_1, g_fuglemanref12_Right_2, g_fuglemanref12_Right_3, g_fuglemanref12_Right_4, g_fuglemanref12_Right_5, g_fuglemanref12_Right_6, g_fuglemanref12_Right_7, g_fuglemanref12_Right_8, g_fuglemanref12_Right_9, g_fuglemanref12_Right_10, g_fuglemanref12_Right_11, g_fuglemanref12_Right_12, g_fuglemanref12_Right_13, hr, hw, Ins.c, hs, c0', h3, h4]
    cases h3 : decide (1 ≤ i.ar)
    case false => simp -implicitDefEqProofs only [eqs, eqd, aCall, Sym.reach, Sym.pos, Sym.sub, lh_some, ↓reduceIte, reduceCtorEq, Nat.reduceEqDiff, Nat.reduceAdd, Nat.reduceSub, Nat.reduceMul, Nat.reduceLT, Nat.reduceLeDiff, Nat.reduceBEq, Nat.reduceBNe, Nat.reduceGT, Int.reduceEq, Int.reduceLT, Int.reduceLE, Int.reduceToNat, Int.reduceAdd, Int.reduceSub, Int.reduceMul, Int.reduceNeg, Int.reduceBEq, Int.reduceBNe, b_fuglemanref12_Right, g_fuglemanref12_Right_0, g_fuglemanref12_Right_1, g_fuglemanref12_Right_2, g_fuglemanref12_Right_3, g_fuglemanref12_Right_4, g_fuglemanref12_Right_5, g_fuglemanref12_Right_6, g_fuglemanref12_Right_7, g_fuglemanref12_Right_8, g_fuglemanref12_Right_9, g_fuglemanref12_Right_10, g_fuglemanref12_Right_11, g_fuglemanref12_Right_12, g_fuglemanref12_Right_13, hr, hw, Ins.c, hs, c0', h3]
    cases h4 : decide (i.ar ≤ 4) <;> cases h6 : (i.n == 0) <;> simp -implicitDefEqProofs only [eqs, eqd, aCall, Sym.reach, Sym.pos, Sym.sub, lh_some, ↓reduceIte, reduceCtorEq, Nat.reduceEqDiff, Nat.reduceAdd, Nat.reduceSub, Nat.reduceMul, Nat.reduceLT, Nat.reduceLeDiff, Nat.reduceBEq, Nat.reduceBNe, Nat.reduceGT, Int.reduceEq, Int.reduceLT, Int.reduceLE, Int.reduceToNat, Int.reduceAdd, Int.reduceSub, Int.reduceMul, Int.reduceNeg, Int.reduceBEq, Int.reduceBNe, b_fuglemanref12_Right, g_fuglemanref12_Right_0, g_fuglemanref12_Right_1, g_fuglemanref12_Right_2, g_fuglemanref12_Right_3, g_fuglemanref12_Right_4, g_fuglemanref12_Right_5, g_fuglemanref12_Right_6, g_fuglemanref12_Right_7, g_fuglemanref12_Right_8, g_fuglemanref12_Right_9, g_fuglemanref12_Right_10, g_fuglemanref12_Right_11, g_fuglemanref12_Right_12, g_fuglemanref12_Right_13, hr, hw, Ins.c, hs, c0', h3, h4, h6]
theorem rright_2 (k : Nat) (i : Ins) (hi : i.In) (hcl : cl i.op = 2) : acall T (k + 11) 10 0 [.agg i.c] [] = some ⟨.v (.bool (right i)), [], 1⟩ := by
  rw [acall_go (body := b_fuglemanref12_Right) rfl rfl (Nat.zero_le _)]
  have hr := reads_a (k + 9) i.op
  have hw := writes_a (k + 9) i.op
  have w0 : (decide (3 ≤ i.op) && decide (i.op ≤ 6)) = true := by
    unfold cl at hcl
    split at hcl
    · omega
    · split at hcl
      · rename_i h
        simp [h.1, h.2]
      · repeat' split at hcl
        all_goals omega
  rw [w0] at hw
  rw [rd1_cl, hcl, show ((2 : Int) == 1) = false from rfl] at hr
  unfold right stands
  rw [hcl, if_neg (by decide), if_pos rfl]
  have hs := there_a (k + 7) i.at_ i.k hi.at_
  cases h1 : decide (0 < ksz i.k) <;> rw [h1] at hs
  case false => simp -implicitDefEqProofs only [eqs, eqd, aCall, Sym.reach, Sym.pos, Sym.sub, lh_some, ↓reduceIte, reduceCtorEq, Nat.reduceEqDiff, Nat.reduceAdd, Nat.reduceSub, Nat.reduceMul, Nat.reduceLT, Nat.reduceLeDiff, Nat.reduceBEq, Nat.reduceBNe, Nat.reduceGT, Int.reduceEq, Int.reduceLT, Int.reduceLE, Int.reduceToNat, Int.reduceAdd, Int.reduceSub, Int.reduceMul, Int.reduceNeg, Int.reduceBEq, Int.reduceBNe, b_fuglemanref12_Right, g_fuglemanref12_Right_0, g_fuglemanref12_Right_1, g_fuglemanref12_Right_2, g_fuglemanref12_Right_3, g_fuglemanref12_Right_4, g_fuglemanref12_Right_5, g_fuglemanref12_Right_6, g_fuglemanref12_Right_7, g_fuglemanref12_Right_8, g_fuglemanref12_Right_9, g_fuglemanref12_Right_10, g_fuglemanref12_Right_11, g_fuglemanref12_Right_12, g_fuglemanref12_Right_13, hr, hw, Ins.c, hs]
  by_cases a1 : 2 ≤ i.ar
  · have a2 : 1 ≤ i.ar := by omega
    have a3 : (i.ar == 1) = false := by rw [beq_eq_false_iff_ne]; omega
    cases h2 : decide (0 ≤ i.at_) <;> rw [h2] at hs
    case false => cases h4 : decide (i.ar ≤ 4) <;> simp -implicitDefEqProofs only [eqs, eqd, aCall, Sym.reach, Sym.pos, Sym.sub, lh_some, ↓reduceIte, reduceCtorEq, Nat.reduceEqDiff, Nat.reduceAdd, Nat.reduceSub, Nat.reduceMul, Nat.reduceLT, Nat.reduceLeDiff, Nat.reduceBEq, Nat.reduceBNe, Nat.reduceGT, Int.reduceEq, Int.reduceLT, Int.reduceLE, Int.reduceToNat, Int.reduceAdd, Int.reduceSub, Int.reduceMul, Int.reduceNeg, Int.reduceBEq, Int.reduceBNe, b_fuglemanref12_Right, g_fuglemanref12_Right_0, g_fuglemanref12_Right_1, g_fuglemanref12_Right_2, g_fuglemanref12_Right_3, g_fuglemanref12_Right_4, g_fuglemanref12_Right_5, g_fuglemanref12_Right_6, g_fuglemanref12_Right_7, g_fuglemanref12_Right_8, g_fuglemanref12_Right_9, g_fuglemanref12_Right_10, g_fuglemanref12_Right_11, g_fuglemanref12_Right_12, g_fuglemanref12_Right_13, hr, hw, Ins.c, hs, a1, a2, a3, h4]
    cases h5 : decide (i.at_ ≤ 64 - ksz i.k) <;> rw [h5] at hs
    case false => cases h4 : decide (i.ar ≤ 4) <;> simp -implicitDefEqProofs only [eqs, eqd, aCall, Sym.reach, Sym.pos, Sym.sub, lh_some, ↓reduceIte, reduceCtorEq, Nat.reduceEqDiff, Nat.reduceAdd, Nat.reduceSub, Nat.reduceMul, Nat.reduceLT, Nat.reduceLeDiff, Nat.reduceBEq, Nat.reduceBNe, Nat.reduceGT, Int.reduceEq, Int.reduceLT, Int.reduceLE, Int.reduceToNat, Int.reduceAdd, Int.reduceSub, Int.reduceMul, Int.reduceNeg, Int.reduceBEq, Int.reduceBNe, b_fuglemanref12_Right, g_fuglemanref12_Right_0, g_fuglemanref12_Right_1, g_fuglemanref12_Right_2, g_fuglemanref12_Right_3, g_fuglemanref12_Right_4, g_fuglemanref12_Right_5, g_fuglemanref12_Right_6, g_fuglemanref12_Right_7, g_fuglemanref12_Right_8, g_fuglemanref12_Right_9, g_fuglemanref12_Right_10, g_fuglemanref12_Right_11, g_fuglemanref12_Right_12, g_fuglemanref12_Right_13, hr, hw, Ins.c, hs, a1, a2, a3, h4]
    cases h4 : decide (i.ar ≤ 4) <;> cases h6 : (i.n == 0) <;> simp -implicitDefEqProofs only [eqs, eqd, aCall, Sym.reach, Sym.pos, Sym.sub, lh_some, ↓reduceIte, reduceCtorEq, Nat.reduceEqDiff, Nat.reduceAdd, Nat.reduceSub, Nat.reduceMul, Nat.reduceLT, Nat.reduceLeDiff, Nat.reduceBEq, Nat.reduceBNe, Nat.reduceGT, Int.reduceEq, Int.reduceLT, Int.reduceLE, Int.reduceToNat, Int.reduceAdd, Int.reduceSub, Int.reduceMul, Int.reduceNeg, Int.reduceBEq, Int.reduceBNe, b_fuglemanref12_Right, g_fuglemanref12_Right_0, g_fuglemanref12_Right_1, g_fuglemanref12_Right_2, g_fuglemanref12_Right_3, g_fuglemanref12_Right_4, g_fuglemanref12_Right_5, g_fuglemanref12_Right_6, g_fuglemanref12_Right_7, g_fuglemanref12_Right_8, g_fuglemanref12_Right_9, g_fuglemanref12_Right_10, g_fuglemanref12_Right_11, g_fuglemanref12_Right_12, g_fuglemanref12_Right_13, hr, hw, Ins.c, hs, a1, a2, a3, h4, h6]
  · generalize hq : (decide (0 ≤ i.at_) && decide (i.at_ ≤ 64 - ksz i.k)) = q at hs
    by_cases a2 : 1 ≤ i.ar
    · have a3 : (i.ar == 1) = true := by rw [beq_iff_eq]; omega
      cases q <;> cases h4 : decide (i.ar ≤ 4) <;> simp -implicitDefEqProofs only [eqs, eqd, aCall, Sym.reach, Sym.pos, Sym.sub, lh_some, ↓reduceIte, reduceCtorEq, Nat.reduceEqDiff, Nat.reduceAdd, Nat.reduceSub, Nat.reduceMul, Nat.reduceLT, Nat.reduceLeDiff, Nat.reduceBEq, Nat.reduceBNe, Nat.reduceGT, Int.reduceEq, Int.reduceLT, Int.reduceLE, Int.reduceToNat, Int.reduceAdd, Int.reduceSub, Int.reduceMul, Int.reduceNeg, Int.reduceBEq, Int.reduceBNe, b_fuglemanref12_Right, g_fuglemanref12_Right_0, g_fuglemanref12_Right_1, g_fuglemanref12_Right_2, g_fuglemanref12_Right_3, g_fuglemanref12_Right_4, g_fuglemanref12_Right_5, g_fuglemanref12_Right_6, g_fuglemanref12_Right_7, g_fuglemanref12_Right_8, g_fuglemanref12_Right_9, g_fuglemanref12_Right_10, g_fuglemanref12_Right_11, g_fuglemanref12_Right_12, g_fuglemanref12_Right_13, hr, hw, Ins.c, hs, a1, a2, a3, h4]
    · cases q <;> simp -implicitDefEqProofs only [eqs, eqd, aCall, Sym.reach, Sym.pos, Sym.sub, lh_some, ↓reduceIte, reduceCtorEq, Nat.reduceEqDiff, Nat.reduceAdd, Nat.reduceSub, Nat.reduceMul, Nat.reduceLT, Nat.reduceLeDiff, Nat.reduceBEq, Nat.reduceBNe, Nat.reduceGT, Int.reduceEq, Int.reduceLT, Int.reduceLE, Int.reduceToNat, Int.reduceAdd, Int.reduceSub, Int.reduceMul, Int.reduceNeg, Int.reduceBEq, Int.reduceBNe, b_fuglemanref12_Right, g_fuglemanref12_Right_0, g_fuglemanref12_Right_1, g_fuglemanref12_Right_2, g_fuglemanref12_Right_3, g_fuglemanref12_Right_4, g_fuglemanref12_Right_5, g_fuglemanref12_Right_6, g_fuglemanref12_Right_7, g_fuglemanref12_Right_8, g_fuglemanref12_Right_9, g_fuglemanref12_Right_10, g_fuglemanref12_Right_11, g_fuglemanref12_Right_12, g_fuglemanref12_Right_13, hr, hw, Ins.c, hs, a1, a2]
theorem rright_3 (k : Nat) (i : Ins) (hi : i.In) (hcl : cl i.op = 3) (ho : 25 ≤ i.op ∧ i.op ≤ 27) : acall T (k + 11) 10 0 [.agg i.c] [] = some ⟨.v (.bool (right i)), [], 1⟩ := by
  rw [acall_go (body := b_fuglemanref12_Right) rfl rfl (Nat.zero_le _)]
  have hr := reads_a (k + 9) i.op
  have hw := writes_a (k + 9) i.op
  have w0 : (decide (3 ≤ i.op) && decide (i.op ≤ 6)) = false := by
    by_cases c1 : 3 ≤ i.op <;> by_cases c2 : i.op ≤ 6 <;> simp [c1, c2]
    omega
  rw [w0] at hw
  rw [rd1_cl, hcl, show ((3 : Int) == 1) = false from rfl] at hr
  unfold right
  rw [hcl]
  simp only [Int.reduceEq, if_true, if_false]
  have o1 : 25 ≤ i.op := by first | omega | (rw [beq_eq_false_iff_ne]; omega) | (rw [beq_iff_eq]; omega)
  have o2 : i.op ≤ 27 := by first | omega | (rw [beq_eq_false_iff_ne]; omega) | (rw [beq_iff_eq]; omega)
  try simp -implicitDefEqProofs only [eqs, eqd, aCall, Sym.reach, Sym.pos, Sym.sub, lh_some, ↓reduceIte, reduceCtorEq, Nat.reduceEqDiff, Nat.reduceAdd, Nat.reduceSub, Nat.reduceMul, Nat.reduceLT, Nat.reduceLeDiff, Nat.reduceBEq, Nat.reduceBNe, Nat.reduceGT, Int.reduceEq, Int.reduceLT, Int.reduceLE, Int.reduceToNat, Int.reduceAdd, Int.reduceSub, Int.reduceMul, Int.reduceNeg, Int.reduceBEq, Int.reduceBNe, b_fuglemanref12_Right, g_fuglemanref12_Right_0, g_fuglemanref12_Right_1, g_fuglemanref12_Right_2, g_fuglemanref12_Right_3, g_fuglemanref12_Right_4, g_fuglemanref12_Right_5, g_fuglemanref12_Right_6, g_fuglemanref12_Right_7, g_fuglemanref12_Right_8, g_fuglemanref12_Right_9, g_fuglemanref12_Right_10, g_fuglemanref12_Right_11, g_fuglemanref12_Right_12, g_fuglemanref12_Right_13, hr, hw, Ins.c, o1, o2]
  cases t1 : decide (0 ≤ i.at_)
  · simp -implicitDefEqProofs only [eqs, eqd, aCall, Sym.reach, Sym.pos, Sym.sub, lh_some, ↓reduceIte, reduceCtorEq, Nat.reduceEqDiff, Nat.reduceAdd, Nat.reduceSub, Nat.reduceMul, Nat.reduceLT, Nat.reduceLeDiff, Nat.reduceBEq, Nat.reduceBNe, Nat.reduceGT, Int.reduceEq, Int.reduceLT, Int.reduceLE, Int.reduceToNat, Int.reduceAdd, Int.reduceSub, Int.reduceMul, Int.reduceNeg, Int.reduceBEq, Int.reduceBNe, b_fuglemanref12_Right, g_fuglemanref12_Right_0, g_fuglemanref12_Right_1, g_fuglemanref12_Right_2, g_fuglemanref12_Right_3, g_fuglemanref12_Right_4, g_fuglemanref12_Right_5, g_fuglemanref12_Right_6, g_fuglemanref12_Right_7, g_fuglemanref12_Right_8, g_fuglemanref12_Right_9, g_fuglemanref12_Right_10, g_fuglemanref12_Right_11, g_fuglemanref12_Right_12, g_fuglemanref12_Right_13, hr, hw, Ins.c, o1, o2, t1]
  try simp -implicitDefEqProofs only [eqs, eqd, aCall, Sym.reach, Sym.pos, Sym.sub, lh_some, ↓reduceIte, reduceCtorEq, Nat.reduceEqDiff, Nat.reduceAdd, Nat.reduceSub, Nat.reduceMul, Nat.reduceLT, Nat.reduceLeDiff, Nat.reduceBEq, Nat.reduceBNe, Nat.reduceGT, Int.reduceEq, Int.reduceLT, Int.reduceLE, Int.reduceToNat, Int.reduceAdd, Int.reduceSub, Int.reduceMul, Int.reduceNeg, Int.reduceBEq, Int.reduceBNe, b_fuglemanref12_Right, g_fuglemanref12_Right_0, g_fuglemanref12_Right_1, g_fuglemanref12_Right_2, g_fuglemanref12_Right_3, g_fuglemanref12_Right_4, g_fuglemanref12_Right_5, g_fuglemanref12_Right_6, g_fuglemanref12_Right_7, g_fuglemanref12_Right_8, g_fuglemanref12_Right_9, g_fuglemanref12_Right_10, g_fuglemanref12_Right_11, g_fuglemanref12_Right_12, g_fuglemanref12_Right_13, hr, hw, Ins.c, o1, o2, t1]
  cases t2 : decide (i.at_ ≤ 200)
  · simp -implicitDefEqProofs only [eqs, eqd, aCall, Sym.reach, Sym.pos, Sym.sub, lh_some, ↓reduceIte, reduceCtorEq, Nat.reduceEqDiff, Nat.reduceAdd, Nat.reduceSub, Nat.reduceMul, Nat.reduceLT, Nat.reduceLeDiff, Nat.reduceBEq, Nat.reduceBNe, Nat.reduceGT, Int.reduceEq, Int.reduceLT, Int.reduceLE, Int.reduceToNat, Int.reduceAdd, Int.reduceSub, Int.reduceMul, Int.reduceNeg, Int.reduceBEq, Int.reduceBNe, b_fuglemanref12_Right, g_fuglemanref12_Right_0, g_fuglemanref12_Right_1, g_fuglemanref12_Right_2, g_fuglemanref12_Right_3, g_fuglemanref12_Right_4, g_fuglemanref12_Right_5, g_fuglemanref12_Right_6, g_fuglemanref12_Right_7, g_fuglemanref12_Right_8, g_fuglemanref12_Right_9, g_fuglemanref12_Right_10, g_fuglemanref12_Right_11, g_fuglemanref12_Right_12, g_fuglemanref12_Right_13, hr, hw, Ins.c, o1, o2, t1, t2]
  try simp -implicitDefEqProofs only [eqs, eqd, aCall, Sym.reach, Sym.pos, Sym.sub, lh_some, ↓reduceIte, reduceCtorEq, Nat.reduceEqDiff, Nat.reduceAdd, Nat.reduceSub, Nat.reduceMul, Nat.reduceLT, Nat.reduceLeDiff, Nat.reduceBEq, Nat.reduceBNe, Nat.reduceGT, Int.reduceEq, Int.reduceLT, Int.reduceLE, Int.reduceToNat, Int.reduceAdd, Int.reduceSub, Int.reduceMul, Int.reduceNeg, Int.reduceBEq, Int.reduceBNe, b_fuglemanref12_Right, g_fuglemanref12_Right_0, g_fuglemanref12_Right_1, g_fuglemanref12_Right_2, g_fuglemanref12_Right_3, g_fuglemanref12_Right_4, g_fuglemanref12_Right_5, g_fuglemanref12_Right_6, g_fuglemanref12_Right_7, g_fuglemanref12_Right_8, g_fuglemanref12_Right_9, g_fuglemanref12_Right_10, g_fuglemanref12_Right_11, g_fuglemanref12_Right_12, g_fuglemanref12_Right_13, hr, hw, Ins.c, o1, o2, t1, t2]
  cases k0 : (i.k == 0)
  · simp -implicitDefEqProofs only [eqs, eqd, aCall, Sym.reach, Sym.pos, Sym.sub, lh_some, ↓reduceIte, reduceCtorEq, Nat.reduceEqDiff, Nat.reduceAdd, Nat.reduceSub, Nat.reduceMul, Nat.reduceLT, Nat.reduceLeDiff, Nat.reduceBEq, Nat.reduceBNe, Nat.reduceGT, Int.reduceEq, Int.reduceLT, Int.reduceLE, Int.reduceToNat, Int.reduceAdd, Int.reduceSub, Int.reduceMul, Int.reduceNeg, Int.reduceBEq, Int.reduceBNe, b_fuglemanref12_Right, g_fuglemanref12_Right_0, g_fuglemanref12_Right_1, g_fuglemanref12_Right_2, g_fuglemanref12_Right_3, g_fuglemanref12_Right_4, g_fuglemanref12_Right_5, g_fuglemanref12_Right_6, g_fuglemanref12_Right_7, g_fuglemanref12_Right_8, g_fuglemanref12_Right_9, g_fuglemanref12_Right_10, g_fuglemanref12_Right_11, g_fuglemanref12_Right_12, g_fuglemanref12_Right_13, hr, hw, Ins.c, o1, o2, t1, t2, k0]
  try simp -implicitDefEqProofs only [eqs, eqd, aCall, Sym.reach, Sym.pos, Sym.sub, lh_some, ↓reduceIte, reduceCtorEq, Nat.reduceEqDiff, Nat.reduceAdd, Nat.reduceSub, Nat.reduceMul, Nat.reduceLT, Nat.reduceLeDiff, Nat.reduceBEq, Nat.reduceBNe, Nat.reduceGT, Int.reduceEq, Int.reduceLT, Int.reduceLE, Int.reduceToNat, Int.reduceAdd, Int.reduceSub, Int.reduceMul, Int.reduceNeg, Int.reduceBEq, Int.reduceBNe, b_fuglemanref12_Right, g_fuglemanref12_Right_0, g_fuglemanref12_Right_1, g_fuglemanref12_Right_2, g_fuglemanref12_Right_3, g_fuglemanref12_Right_4, g_fuglemanref12_Right_5, g_fuglemanref12_Right_6, g_fuglemanref12_Right_7, g_fuglemanref12_Right_8, g_fuglemanref12_Right_9, g_fuglemanref12_Right_10, g_fuglemanref12_Right_11, g_fuglemanref12_Right_12, g_fuglemanref12_Right_13, hr, hw, Ins.c, o1, o2, t1, t2, k0]
  cases a0 : (i.ar == 0)
  · simp -implicitDefEqProofs only [eqs, eqd, aCall, Sym.reach, Sym.pos, Sym.sub, lh_some, ↓reduceIte, reduceCtorEq, Nat.reduceEqDiff, Nat.reduceAdd, Nat.reduceSub, Nat.reduceMul, Nat.reduceLT, Nat.reduceLeDiff, Nat.reduceBEq, Nat.reduceBNe, Nat.reduceGT, Int.reduceEq, Int.reduceLT, Int.reduceLE, Int.reduceToNat, Int.reduceAdd, Int.reduceSub, Int.reduceMul, Int.reduceNeg, Int.reduceBEq, Int.reduceBNe, b_fuglemanref12_Right, g_fuglemanref12_Right_0, g_fuglemanref12_Right_1, g_fuglemanref12_Right_2, g_fuglemanref12_Right_3, g_fuglemanref12_Right_4, g_fuglemanref12_Right_5, g_fuglemanref12_Right_6, g_fuglemanref12_Right_7, g_fuglemanref12_Right_8, g_fuglemanref12_Right_9, g_fuglemanref12_Right_10, g_fuglemanref12_Right_11, g_fuglemanref12_Right_12, g_fuglemanref12_Right_13, hr, hw, Ins.c, o1, o2, t1, t2, k0, a0]
  try simp -implicitDefEqProofs only [eqs, eqd, aCall, Sym.reach, Sym.pos, Sym.sub, lh_some, ↓reduceIte, reduceCtorEq, Nat.reduceEqDiff, Nat.reduceAdd, Nat.reduceSub, Nat.reduceMul, Nat.reduceLT, Nat.reduceLeDiff, Nat.reduceBEq, Nat.reduceBNe, Nat.reduceGT, Int.reduceEq, Int.reduceLT, Int.reduceLE, Int.reduceToNat, Int.reduceAdd, Int.reduceSub, Int.reduceMul, Int.reduceNeg, Int.reduceBEq, Int.reduceBNe, b_fuglemanref12_Right, g_fuglemanref12_Right_0, g_fuglemanref12_Right_1, g_fuglemanref12_Right_2, g_fuglemanref12_Right_3, g_fuglemanref12_Right_4, g_fuglemanref12_Right_5, g_fuglemanref12_Right_6, g_fuglemanref12_Right_7, g_fuglemanref12_Right_8, g_fuglemanref12_Right_9, g_fuglemanref12_Right_10, g_fuglemanref12_Right_11, g_fuglemanref12_Right_12, g_fuglemanref12_Right_13, hr, hw, Ins.c, o1, o2, t1, t2, k0, a0]
  cases n0 : (i.n == 0)
  · simp -implicitDefEqProofs only [eqs, eqd, aCall, Sym.reach, Sym.pos, Sym.sub, lh_some, ↓reduceIte, reduceCtorEq, Nat.reduceEqDiff, Nat.reduceAdd, Nat.reduceSub, Nat.reduceMul, Nat.reduceLT, Nat.reduceLeDiff, Nat.reduceBEq, Nat.reduceBNe, Nat.reduceGT, Int.reduceEq, Int.reduceLT, Int.reduceLE, Int.reduceToNat, Int.reduceAdd, Int.reduceSub, Int.reduceMul, Int.reduceNeg, Int.reduceBEq, Int.reduceBNe, b_fuglemanref12_Right, g_fuglemanref12_Right_0, g_fuglemanref12_Right_1, g_fuglemanref12_Right_2, g_fuglemanref12_Right_3, g_fuglemanref12_Right_4, g_fuglemanref12_Right_5, g_fuglemanref12_Right_6, g_fuglemanref12_Right_7, g_fuglemanref12_Right_8, g_fuglemanref12_Right_9, g_fuglemanref12_Right_10, g_fuglemanref12_Right_11, g_fuglemanref12_Right_12, g_fuglemanref12_Right_13, hr, hw, Ins.c, o1, o2, t1, t2, k0, a0, n0]
  simp -implicitDefEqProofs only [eqs, eqd, aCall, Sym.reach, Sym.pos, Sym.sub, lh_some, ↓reduceIte, reduceCtorEq, Nat.reduceEqDiff, Nat.reduceAdd, Nat.reduceSub, Nat.reduceMul, Nat.reduceLT, Nat.reduceLeDiff, Nat.reduceBEq, Nat.reduceBNe, Nat.reduceGT, Int.reduceEq, Int.reduceLT, Int.reduceLE, Int.reduceToNat, Int.reduceAdd, Int.reduceSub, Int.reduceMul, Int.reduceNeg, Int.reduceBEq, Int.reduceBNe, b_fuglemanref12_Right, g_fuglemanref12_Right_0, g_fuglemanref12_Right_1, g_fuglemanref12_Right_2, g_fuglemanref12_Right_3, g_fuglemanref12_Right_4, g_fuglemanref12_Right_5, g_fuglemanref12_Right_6, g_fuglemanref12_Right_7, g_fuglemanref12_Right_8, g_fuglemanref12_Right_9, g_fuglemanref12_Right_10, g_fuglemanref12_Right_11, g_fuglemanref12_Right_12, g_fuglemanref12_Right_13, hr, hw, Ins.c, o1, o2, t1, t2, k0, a0, n0]
theorem rright_4a (k : Nat) (i : Ins) (hi : i.In) (hcl : cl i.op = 4) (ho : i.op = 13) : acall T (k + 11) 10 0 [.agg i.c] [] = some ⟨.v (.bool (right i)), [], 1⟩ := by
  rw [acall_go (body := b_fuglemanref12_Right) rfl rfl (Nat.zero_le _)]
  have hr := reads_a (k + 9) i.op
  have hw := writes_a (k + 9) i.op
  have w0 : (decide (3 ≤ i.op) && decide (i.op ≤ 6)) = false := by
    by_cases c1 : 3 ≤ i.op <;> by_cases c2 : i.op ≤ 6 <;> simp [c1, c2]
    omega
  rw [w0] at hw
  rw [rd1_cl, hcl, show ((4 : Int) == 1) = false from rfl] at hr
  unfold right
  rw [hcl]
  simp only [Int.reduceEq, if_true, if_false]
  have o1 : ¬ 25 ≤ i.op := by first | omega | (rw [beq_eq_false_iff_ne]; omega) | (rw [beq_iff_eq]; omega)
  have o3 : (i.op == 13) = true := by first | omega | (rw [beq_eq_false_iff_ne]; omega) | (rw [beq_iff_eq]; omega)
  try simp -implicitDefEqProofs only [eqs, eqd, aCall, Sym.reach, Sym.pos, Sym.sub, lh_some, ↓reduceIte, reduceCtorEq, Nat.reduceEqDiff, Nat.reduceAdd, Nat.reduceSub, Nat.reduceMul, Nat.reduceLT, Nat.reduceLeDiff, Nat.reduceBEq, Nat.reduceBNe, Nat.reduceGT, Int.reduceEq, Int.reduceLT, Int.reduceLE, Int.reduceToNat, Int.reduceAdd, Int.reduceSub, Int.reduceMul, Int.reduceNeg, Int.reduceBEq, Int.reduceBNe, b_fuglemanref12_Right, g_fuglemanref12_Right_0, g_fuglemanref12_Right_1, g_fuglemanref12_Right_2, g_fuglemanref12_Right_3, g_fuglemanref12_Right_4, g_fuglemanref12_Right_5, g_fuglemanref12_Right_6, g_fuglemanref12_Right_7, g_fuglemanref12_Right_8, g_fuglemanref12_Right_9, g_fuglemanref12_Right_10, g_fuglemanref12_Right_11, g_fuglemanref12_Right_12, g_fuglemanref12_Right_13, hr, hw, Ins.c, o1, o3]
  cases k0 : (i.k == 0)
  · simp -implicitDefEqProofs only [eqs, eqd, aCall, Sym.reach, Sym.pos, Sym.sub, lh_some, ↓reduceIte, reduceCtorEq, Nat.reduceEqDiff, Nat.reduceAdd, Nat.reduceSub, Nat.reduceMul, Nat.reduceLT, Nat.reduceLeDiff, Nat.reduceBEq, Nat.reduceBNe, Nat.reduceGT, Int.reduceEq, Int.reduceLT, Int.reduceLE, Int.reduceToNat, Int.reduceAdd, Int.reduceSub, Int.reduceMul, Int.reduceNeg, Int.reduceBEq, Int.reduceBNe, b_fuglemanref12_Right, g_fuglemanref12_Right_0, g_fuglemanref12_Right_1, g_fuglemanref12_Right_2, g_fuglemanref12_Right_3, g_fuglemanref12_Right_4, g_fuglemanref12_Right_5, g_fuglemanref12_Right_6, g_fuglemanref12_Right_7, g_fuglemanref12_Right_8, g_fuglemanref12_Right_9, g_fuglemanref12_Right_10, g_fuglemanref12_Right_11, g_fuglemanref12_Right_12, g_fuglemanref12_Right_13, hr, hw, Ins.c, o1, o3, k0]
  try simp -implicitDefEqProofs only [eqs, eqd, aCall, Sym.reach, Sym.pos, Sym.sub, lh_some, ↓reduceIte, reduceCtorEq, Nat.reduceEqDiff, Nat.reduceAdd, Nat.reduceSub, Nat.reduceMul, Nat.reduceLT, Nat.reduceLeDiff, Nat.reduceBEq, Nat.reduceBNe, Nat.reduceGT, Int.reduceEq, Int.reduceLT, Int.reduceLE, Int.reduceToNat, Int.reduceAdd, Int.reduceSub, Int.reduceMul, Int.reduceNeg, Int.reduceBEq, Int.reduceBNe, b_fuglemanref12_Right, g_fuglemanref12_Right_0, g_fuglemanref12_Right_1, g_fuglemanref12_Right_2, g_fuglemanref12_Right_3, g_fuglemanref12_Right_4, g_fuglemanref12_Right_5, g_fuglemanref12_Right_6, g_fuglemanref12_Right_7, g_fuglemanref12_Right_8, g_fuglemanref12_Right_9, g_fuglemanref12_Right_10, g_fuglemanref12_Right_11, g_fuglemanref12_Right_12, g_fuglemanref12_Right_13, hr, hw, Ins.c, o1, o3, k0]
  cases a0 : (i.ar == 0)
  · simp -implicitDefEqProofs only [eqs, eqd, aCall, Sym.reach, Sym.pos, Sym.sub, lh_some, ↓reduceIte, reduceCtorEq, Nat.reduceEqDiff, Nat.reduceAdd, Nat.reduceSub, Nat.reduceMul, Nat.reduceLT, Nat.reduceLeDiff, Nat.reduceBEq, Nat.reduceBNe, Nat.reduceGT, Int.reduceEq, Int.reduceLT, Int.reduceLE, Int.reduceToNat, Int.reduceAdd, Int.reduceSub, Int.reduceMul, Int.reduceNeg, Int.reduceBEq, Int.reduceBNe, b_fuglemanref12_Right, g_fuglemanref12_Right_0, g_fuglemanref12_Right_1, g_fuglemanref12_Right_2, g_fuglemanref12_Right_3, g_fuglemanref12_Right_4, g_fuglemanref12_Right_5, g_fuglemanref12_Right_6, g_fuglemanref12_Right_7, g_fuglemanref12_Right_8, g_fuglemanref12_Right_9, g_fuglemanref12_Right_10, g_fuglemanref12_Right_11, g_fuglemanref12_Right_12, g_fuglemanref12_Right_13, hr, hw, Ins.c, o1, o3, k0, a0]
  try simp -implicitDefEqProofs only [eqs, eqd, aCall, Sym.reach, Sym.pos, Sym.sub, lh_some, ↓reduceIte, reduceCtorEq, Nat.reduceEqDiff, Nat.reduceAdd, Nat.reduceSub, Nat.reduceMul, Nat.reduceLT, Nat.reduceLeDiff, Nat.reduceBEq, Nat.reduceBNe, Nat.reduceGT, Int.reduceEq, Int.reduceLT, Int.reduceLE, Int.reduceToNat, Int.reduceAdd, Int.reduceSub, Int.reduceMul, Int.reduceNeg, Int.reduceBEq, Int.reduceBNe, b_fuglemanref12_Right, g_fuglemanref12_Right_0, g_fuglemanref12_Right_1, g_fuglemanref12_Right_2, g_fuglemanref12_Right_3, g_fuglemanref12_Right_4, g_fuglemanref12_Right_5, g_fuglemanref12_Right_6, g_fuglemanref12_Right_7, g_fuglemanref12_Right_8, g_fuglemanref12_Right_9, g_fuglemanref12_Right_10, g_fuglemanref12_Right_11, g_fuglemanref12_Right_12, g_fuglemanref12_Right_13, hr, hw, Ins.c, o1, o3, k0, a0]
  cases n0 : (i.n == 0)
  · simp -implicitDefEqProofs only [eqs, eqd, aCall, Sym.reach, Sym.pos, Sym.sub, lh_some, ↓reduceIte, reduceCtorEq, Nat.reduceEqDiff, Nat.reduceAdd, Nat.reduceSub, Nat.reduceMul, Nat.reduceLT, Nat.reduceLeDiff, Nat.reduceBEq, Nat.reduceBNe, Nat.reduceGT, Int.reduceEq, Int.reduceLT, Int.reduceLE, Int.reduceToNat, Int.reduceAdd, Int.reduceSub, Int.reduceMul, Int.reduceNeg, Int.reduceBEq, Int.reduceBNe, b_fuglemanref12_Right, g_fuglemanref12_Right_0, g_fuglemanref12_Right_1, g_fuglemanref12_Right_2, g_fuglemanref12_Right_3, g_fuglemanref12_Right_4, g_fuglemanref12_Right_5, g_fuglemanref12_Right_6, g_fuglemanref12_Right_7, g_fuglemanref12_Right_8, g_fuglemanref12_Right_9, g_fuglemanref12_Right_10, g_fuglemanref12_Right_11, g_fuglemanref12_Right_12, g_fuglemanref12_Right_13, hr, hw, Ins.c, o1, o3, k0, a0, n0]
  try simp -implicitDefEqProofs only [eqs, eqd, aCall, Sym.reach, Sym.pos, Sym.sub, lh_some, ↓reduceIte, reduceCtorEq, Nat.reduceEqDiff, Nat.reduceAdd, Nat.reduceSub, Nat.reduceMul, Nat.reduceLT, Nat.reduceLeDiff, Nat.reduceBEq, Nat.reduceBNe, Nat.reduceGT, Int.reduceEq, Int.reduceLT, Int.reduceLE, Int.reduceToNat, Int.reduceAdd, Int.reduceSub, Int.reduceMul, Int.reduceNeg, Int.reduceBEq, Int.reduceBNe, b_fuglemanref12_Right, g_fuglemanref12_Right_0, g_fuglemanref12_Right_1, g_fuglemanref12_Right_2, g_fuglemanref12_Right_3, g_fuglemanref12_Right_4, g_fuglemanref12_Right_5, g_fuglemanref12_Right_6, g_fuglemanref12_Right_7, g_fuglemanref12_Right_8, g_fuglemanref12_Right_9, g_fuglemanref12_Right_10, g_fuglemanref12_Right_11, g_fuglemanref12_Right_12, g_fuglemanref12_Right_13, hr, hw, Ins.c, o1, o3, k0, a0, n0]
  cases t0 : (i.at_ == 0)
  · simp -implicitDefEqProofs only [eqs, eqd, aCall, Sym.reach, Sym.pos, Sym.sub, lh_some, ↓reduceIte, reduceCtorEq, Nat.reduceEqDiff, Nat.reduceAdd, Nat.reduceSub, Nat.reduceMul, Nat.reduceLT, Nat.reduceLeDiff, Nat.reduceBEq, Nat.reduceBNe, Nat.reduceGT, Int.reduceEq, Int.reduceLT, Int.reduceLE, Int.reduceToNat, Int.reduceAdd, Int.reduceSub, Int.reduceMul, Int.reduceNeg, Int.reduceBEq, Int.reduceBNe, b_fuglemanref12_Right, g_fuglemanref12_Right_0, g_fuglemanref12_Right_1, g_fuglemanref12_Right_2, g_fuglemanref12_Right_3, g_fuglemanref12_Right_4, g_fuglemanref12_Right_5, g_fuglemanref12_Right_6, g_fuglemanref12_Right_7, g_fuglemanref12_Right_8, g_fuglemanref12_Right_9, g_fuglemanref12_Right_10, g_fuglemanref12_Right_11, g_fuglemanref12_Right_12, g_fuglemanref12_Right_13, hr, hw, Ins.c, o1, o3, k0, a0, n0, t0]
  simp -implicitDefEqProofs only [eqs, eqd, aCall, Sym.reach, Sym.pos, Sym.sub, lh_some, ↓reduceIte, reduceCtorEq, Nat.reduceEqDiff, Nat.reduceAdd, Nat.reduceSub, Nat.reduceMul, Nat.reduceLT, Nat.reduceLeDiff, Nat.reduceBEq, Nat.reduceBNe, Nat.reduceGT, Int.reduceEq, Int.reduceLT, Int.reduceLE, Int.reduceToNat, Int.reduceAdd, Int.reduceSub, Int.reduceMul, Int.reduceNeg, Int.reduceBEq, Int.reduceBNe, b_fuglemanref12_Right, g_fuglemanref12_Right_0, g_fuglemanref12_Right_1, g_fuglemanref12_Right_2, g_fuglemanref12_Right_3, g_fuglemanref12_Right_4, g_fuglemanref12_Right_5, g_fuglemanref12_Right_6, g_fuglemanref12_Right_7, g_fuglemanref12_Right_8, g_fuglemanref12_Right_9, g_fuglemanref12_Right_10, g_fuglemanref12_Right_11, g_fuglemanref12_Right_12, g_fuglemanref12_Right_13, hr, hw, Ins.c, o1, o3, k0, a0, n0, t0]
theorem rright_4b (k : Nat) (i : Ins) (hi : i.In) (hcl : cl i.op = 4) (ho : 28 ≤ i.op ∧ i.op ≤ 30) : acall T (k + 11) 10 0 [.agg i.c] [] = some ⟨.v (.bool (right i)), [], 1⟩ := by
  rw [acall_go (body := b_fuglemanref12_Right) rfl rfl (Nat.zero_le _)]
  have hr := reads_a (k + 9) i.op
  have hw := writes_a (k + 9) i.op
  have w0 : (decide (3 ≤ i.op) && decide (i.op ≤ 6)) = false := by
    by_cases c1 : 3 ≤ i.op <;> by_cases c2 : i.op ≤ 6 <;> simp [c1, c2]
    omega
  rw [w0] at hw
  rw [rd1_cl, hcl, show ((4 : Int) == 1) = false from rfl] at hr
  unfold right
  rw [hcl]
  simp only [Int.reduceEq, if_true, if_false]
  have o1 : 25 ≤ i.op := by first | omega | (rw [beq_eq_false_iff_ne]; omega) | (rw [beq_iff_eq]; omega)
  have o2 : ¬ i.op ≤ 27 := by first | omega | (rw [beq_eq_false_iff_ne]; omega) | (rw [beq_iff_eq]; omega)
  have o3 : (i.op == 13) = false := by first | omega | (rw [beq_eq_false_iff_ne]; omega) | (rw [beq_iff_eq]; omega)
  have o4 : 28 ≤ i.op := by first | omega | (rw [beq_eq_false_iff_ne]; omega) | (rw [beq_iff_eq]; omega)
  have o5 : i.op ≤ 30 := by first | omega | (rw [beq_eq_false_iff_ne]; omega) | (rw [beq_iff_eq]; omega)
  try simp -implicitDefEqProofs only [eqs, eqd, aCall, Sym.reach, Sym.pos, Sym.sub, lh_some, ↓reduceIte, reduceCtorEq, Nat.reduceEqDiff, Nat.reduceAdd, Nat.reduceSub, Nat.reduceMul, Nat.reduceLT, Nat.reduceLeDiff, Nat.reduceBEq, Nat.reduceBNe, Nat.reduceGT, Int.reduceEq, Int.reduceLT, Int.reduceLE, Int.reduceToNat, Int.reduceAdd, Int.reduceSub, Int.reduceMul, Int.reduceNeg, Int.reduceBEq, Int.reduceBNe, b_fuglemanref12_Right, g_fuglemanref12_Right_0, g_fuglemanref12_Right_1, g_fuglemanref12_Right_2, g_fuglemanref12_Right_3, g_fuglemanref12_Right_4, g_fuglemanref12_Right_5, g_fuglemanref12_Right_6, g_fuglemanref12_Right_7, g_fuglemanref12_Right_8, g_fuglemanref12_Right_9, g_fuglemanref12_Right_10, g_fuglemanref12_Right_11, g_fuglemanref12_Right_12, g_fuglemanref12_Right_13, hr, hw, Ins.c, o1, o2, o3, o4, o5]
  cases k0 : (i.k == 0)
  · simp -implicitDefEqProofs only [eqs, eqd, aCall, Sym.reach, Sym.pos, Sym.sub, lh_some, ↓reduceIte, reduceCtorEq, Nat.reduceEqDiff, Nat.reduceAdd, Nat.reduceSub, Nat.reduceMul, Nat.reduceLT, Nat.reduceLeDiff, Nat.reduceBEq, Nat.reduceBNe, Nat.reduceGT, Int.reduceEq, Int.reduceLT, Int.reduceLE, Int.reduceToNat, Int.reduceAdd, Int.reduceSub, Int.reduceMul, Int.reduceNeg, Int.reduceBEq, Int.reduceBNe, b_fuglemanref12_Right, g_fuglemanref12_Right_0, g_fuglemanref12_Right_1, g_fuglemanref12_Right_2, g_fuglemanref12_Right_3, g_fuglemanref12_Right_4, g_fuglemanref12_Right_5, g_fuglemanref12_Right_6, g_fuglemanref12_Right_7, g_fuglemanref12_Right_8, g_fuglemanref12_Right_9, g_fuglemanref12_Right_10, g_fuglemanref12_Right_11, g_fuglemanref12_Right_12, g_fuglemanref12_Right_13, hr, hw, Ins.c, o1, o2, o3, o4, o5, k0]
  try simp -implicitDefEqProofs only [eqs, eqd, aCall, Sym.reach, Sym.pos, Sym.sub, lh_some, ↓reduceIte, reduceCtorEq, Nat.reduceEqDiff, Nat.reduceAdd, Nat.reduceSub, Nat.reduceMul, Nat.reduceLT, Nat.reduceLeDiff, Nat.reduceBEq, Nat.reduceBNe, Nat.reduceGT, Int.reduceEq, Int.reduceLT, Int.reduceLE, Int.reduceToNat, Int.reduceAdd, Int.reduceSub, Int.reduceMul, Int.reduceNeg, Int.reduceBEq, Int.reduceBNe, b_fuglemanref12_Right, g_fuglemanref12_Right_0, g_fuglemanref12_Right_1, g_fuglemanref12_Right_2, g_fuglemanref12_Right_3, g_fuglemanref12_Right_4, g_fuglemanref12_Right_5, g_fuglemanref12_Right_6, g_fuglemanref12_Right_7, g_fuglemanref12_Right_8, g_fuglemanref12_Right_9, g_fuglemanref12_Right_10, g_fuglemanref12_Right_11, g_fuglemanref12_Right_12, g_fuglemanref12_Right_13, hr, hw, Ins.c, o1, o2, o3, o4, o5, k0]
  cases a0 : (i.ar == 0)
  · simp -implicitDefEqProofs only [eqs, eqd, aCall, Sym.reach, Sym.pos, Sym.sub, lh_some, ↓reduceIte, reduceCtorEq, Nat.reduceEqDiff, Nat.reduceAdd, Nat.reduceSub, Nat.reduceMul, Nat.reduceLT, Nat.reduceLeDiff, Nat.reduceBEq, Nat.reduceBNe, Nat.reduceGT, Int.reduceEq, Int.reduceLT, Int.reduceLE, Int.reduceToNat, Int.reduceAdd, Int.reduceSub, Int.reduceMul, Int.reduceNeg, Int.reduceBEq, Int.reduceBNe, b_fuglemanref12_Right, g_fuglemanref12_Right_0, g_fuglemanref12_Right_1, g_fuglemanref12_Right_2, g_fuglemanref12_Right_3, g_fuglemanref12_Right_4, g_fuglemanref12_Right_5, g_fuglemanref12_Right_6, g_fuglemanref12_Right_7, g_fuglemanref12_Right_8, g_fuglemanref12_Right_9, g_fuglemanref12_Right_10, g_fuglemanref12_Right_11, g_fuglemanref12_Right_12, g_fuglemanref12_Right_13, hr, hw, Ins.c, o1, o2, o3, o4, o5, k0, a0]
  try simp -implicitDefEqProofs only [eqs, eqd, aCall, Sym.reach, Sym.pos, Sym.sub, lh_some, ↓reduceIte, reduceCtorEq, Nat.reduceEqDiff, Nat.reduceAdd, Nat.reduceSub, Nat.reduceMul, Nat.reduceLT, Nat.reduceLeDiff, Nat.reduceBEq, Nat.reduceBNe, Nat.reduceGT, Int.reduceEq, Int.reduceLT, Int.reduceLE, Int.reduceToNat, Int.reduceAdd, Int.reduceSub, Int.reduceMul, Int.reduceNeg, Int.reduceBEq, Int.reduceBNe, b_fuglemanref12_Right, g_fuglemanref12_Right_0, g_fuglemanref12_Right_1, g_fuglemanref12_Right_2, g_fuglemanref12_Right_3, g_fuglemanref12_Right_4, g_fuglemanref12_Right_5, g_fuglemanref12_Right_6, g_fuglemanref12_Right_7, g_fuglemanref12_Right_8, g_fuglemanref12_Right_9, g_fuglemanref12_Right_10, g_fuglemanref12_Right_11, g_fuglemanref12_Right_12, g_fuglemanref12_Right_13, hr, hw, Ins.c, o1, o2, o3, o4, o5, k0, a0]
  cases n0 : (i.n == 0)
  · simp -implicitDefEqProofs only [eqs, eqd, aCall, Sym.reach, Sym.pos, Sym.sub, lh_some, ↓reduceIte, reduceCtorEq, Nat.reduceEqDiff, Nat.reduceAdd, Nat.reduceSub, Nat.reduceMul, Nat.reduceLT, Nat.reduceLeDiff, Nat.reduceBEq, Nat.reduceBNe, Nat.reduceGT, Int.reduceEq, Int.reduceLT, Int.reduceLE, Int.reduceToNat, Int.reduceAdd, Int.reduceSub, Int.reduceMul, Int.reduceNeg, Int.reduceBEq, Int.reduceBNe, b_fuglemanref12_Right, g_fuglemanref12_Right_0, g_fuglemanref12_Right_1, g_fuglemanref12_Right_2, g_fuglemanref12_Right_3, g_fuglemanref12_Right_4, g_fuglemanref12_Right_5, g_fuglemanref12_Right_6, g_fuglemanref12_Right_7, g_fuglemanref12_Right_8, g_fuglemanref12_Right_9, g_fuglemanref12_Right_10, g_fuglemanref12_Right_11, g_fuglemanref12_Right_12, g_fuglemanref12_Right_13, hr, hw, Ins.c, o1, o2, o3, o4, o5, k0, a0, n0]
  try simp -implicitDefEqProofs only [eqs, eqd, aCall, Sym.reach, Sym.pos, Sym.sub, lh_some, ↓reduceIte, reduceCtorEq, Nat.reduceEqDiff, Nat.reduceAdd, Nat.reduceSub, Nat.reduceMul, Nat.reduceLT, Nat.reduceLeDiff, Nat.reduceBEq, Nat.reduceBNe, Nat.reduceGT, Int.reduceEq, Int.reduceLT, Int.reduceLE, Int.reduceToNat, Int.reduceAdd, Int.reduceSub, Int.reduceMul, Int.reduceNeg, Int.reduceBEq, Int.reduceBNe, b_fuglemanref12_Right, g_fuglemanref12_Right_0, g_fuglemanref12_Right_1, g_fuglemanref12_Right_2, g_fuglemanref12_Right_3, g_fuglemanref12_Right_4, g_fuglemanref12_Right_5, g_fuglemanref12_Right_6, g_fuglemanref12_Right_7, g_fuglemanref12_Right_8, g_fuglemanref12_Right_9, g_fuglemanref12_Right_10, g_fuglemanref12_Right_11, g_fuglemanref12_Right_12, g_fuglemanref12_Right_13, hr, hw, Ins.c, o1, o2, o3, o4, o5, k0, a0, n0]
  cases t0 : (i.at_ == 0)
  · simp -implicitDefEqProofs only [eqs, eqd, aCall, Sym.reach, Sym.pos, Sym.sub, lh_some, ↓reduceIte, reduceCtorEq, Nat.reduceEqDiff, Nat.reduceAdd, Nat.reduceSub, Nat.reduceMul, Nat.reduceLT, Nat.reduceLeDiff, Nat.reduceBEq, Nat.reduceBNe, Nat.reduceGT, Int.reduceEq, Int.reduceLT, Int.reduceLE, Int.reduceToNat, Int.reduceAdd, Int.reduceSub, Int.reduceMul, Int.reduceNeg, Int.reduceBEq, Int.reduceBNe, b_fuglemanref12_Right, g_fuglemanref12_Right_0, g_fuglemanref12_Right_1, g_fuglemanref12_Right_2, g_fuglemanref12_Right_3, g_fuglemanref12_Right_4, g_fuglemanref12_Right_5, g_fuglemanref12_Right_6, g_fuglemanref12_Right_7, g_fuglemanref12_Right_8, g_fuglemanref12_Right_9, g_fuglemanref12_Right_10, g_fuglemanref12_Right_11, g_fuglemanref12_Right_12, g_fuglemanref12_Right_13, hr, hw, Ins.c, o1, o2, o3, o4, o5, k0, a0, n0, t0]
  simp -implicitDefEqProofs only [eqs, eqd, aCall, Sym.reach, Sym.pos, Sym.sub, lh_some, ↓reduceIte, reduceCtorEq, Nat.reduceEqDiff, Nat.reduceAdd, Nat.reduceSub, Nat.reduceMul, Nat.reduceLT, Nat.reduceLeDiff, Nat.reduceBEq, Nat.reduceBNe, Nat.reduceGT, Int.reduceEq, Int.reduceLT, Int.reduceLE, Int.reduceToNat, Int.reduceAdd, Int.reduceSub, Int.reduceMul, Int.reduceNeg, Int.reduceBEq, Int.reduceBNe, b_fuglemanref12_Right, g_fuglemanref12_Right_0, g_fuglemanref12_Right_1, g_fuglemanref12_Right_2, g_fuglemanref12_Right_3, g_fuglemanref12_Right_4, g_fuglemanref12_Right_5, g_fuglemanref12_Right_6, g_fuglemanref12_Right_7, g_fuglemanref12_Right_8, g_fuglemanref12_Right_9, g_fuglemanref12_Right_10, g_fuglemanref12_Right_11, g_fuglemanref12_Right_12, g_fuglemanref12_Right_13, hr, hw, Ins.c, o1, o2, o3, o4, o5, k0, a0, n0, t0]
theorem rright_4c (k : Nat) (i : Ins) (hi : i.In) (hcl : cl i.op = 4) (ho : i.op = 33) : acall T (k + 11) 10 0 [.agg i.c] [] = some ⟨.v (.bool (right i)), [], 1⟩ := by
  rw [acall_go (body := b_fuglemanref12_Right) rfl rfl (Nat.zero_le _)]
  have hr := reads_a (k + 9) i.op
  have hw := writes_a (k + 9) i.op
  have w0 : (decide (3 ≤ i.op) && decide (i.op ≤ 6)) = false := by
    by_cases c1 : 3 ≤ i.op <;> by_cases c2 : i.op ≤ 6 <;> simp [c1, c2]
    omega
  rw [w0] at hw
  rw [rd1_cl, hcl, show ((4 : Int) == 1) = false from rfl] at hr
  unfold right
  rw [hcl]
  simp only [Int.reduceEq, if_true, if_false]
  have o1 : 25 ≤ i.op := by first | omega | (rw [beq_eq_false_iff_ne]; omega) | (rw [beq_iff_eq]; omega)
  have o2 : ¬ i.op ≤ 27 := by first | omega | (rw [beq_eq_false_iff_ne]; omega) | (rw [beq_iff_eq]; omega)
  have o3 : (i.op == 13) = false := by first | omega | (rw [beq_eq_false_iff_ne]; omega) | (rw [beq_iff_eq]; omega)
  have o4 : 28 ≤ i.op := by first | omega | (rw [beq_eq_false_iff_ne]; omega) | (rw [beq_iff_eq]; omega)
  have o5 : ¬ i.op ≤ 30 := by first | omega | (rw [beq_eq_false_iff_ne]; omega) | (rw [beq_iff_eq]; omega)
  have o6 : (i.op == 33) = true := by first | omega | (rw [beq_eq_false_iff_ne]; omega) | (rw [beq_iff_eq]; omega)
  try simp -implicitDefEqProofs only [eqs, eqd, aCall, Sym.reach, Sym.pos, Sym.sub, lh_some, ↓reduceIte, reduceCtorEq, Nat.reduceEqDiff, Nat.reduceAdd, Nat.reduceSub, Nat.reduceMul, Nat.reduceLT, Nat.reduceLeDiff, Nat.reduceBEq, Nat.reduceBNe, Nat.reduceGT, Int.reduceEq, Int.reduceLT, Int.reduceLE, Int.reduceToNat, Int.reduceAdd, Int.reduceSub, Int.reduceMul, Int.reduceNeg, Int.reduceBEq, Int.reduceBNe, b_fuglemanref12_Right, g_fuglemanref12_Right_0, g_fuglemanref12_Right_1, g_fuglemanref12_Right_2, g_fuglemanref12_Right_3, g_fuglemanref12_Right_4, g_fuglemanref12_Right_5, g_fuglemanref12_Right_6, g_fuglemanref12_Right_7, g_fuglemanref12_Right_8, g_fuglemanref12_Right_9, g_fuglemanref12_Right_10, g_fuglemanref12_Right_11, g_fuglemanref12_Right_12, g_fuglemanref12_Right_13, hr, hw, Ins.c, o1, o2, o3, o4, o5, o6]
  cases k0 : (i.k == 0)
  · simp -implicitDefEqProofs only [eqs, eqd, aCall, Sym.reach, Sym.pos, Sym.sub, lh_some, ↓reduceIte, reduceCtorEq, Nat.reduceEqDiff, Nat.reduceAdd, Nat.reduceSub, Nat.reduceMul, Nat.reduceLT, Nat.reduceLeDiff, Nat.reduceBEq, Nat.reduceBNe, Nat.reduceGT, Int.reduceEq, Int.reduceLT, Int.reduceLE, Int.reduceToNat, Int.reduceAdd, Int.reduceSub, Int.reduceMul, Int.reduceNeg, Int.reduceBEq, Int.reduceBNe, b_fuglemanref12_Right, g_fuglemanref12_Right_0, g_fuglemanref12_Right_1, g_fuglemanref12_Right_2, g_fuglemanref12_Right_3, g_fuglemanref12_Right_4, g_fuglemanref12_Right_5, g_fuglemanref12_Right_6, g_fuglemanref12_Right_7, g_fuglemanref12_Right_8, g_fuglemanref12_Right_9, g_fuglemanref12_Right_10, g_fuglemanref12_Right_11, g_fuglemanref12_Right_12, g_fuglemanref12_Right_13, hr, hw, Ins.c, o1, o2, o3, o4, o5, o6, k0]
  try simp -implicitDefEqProofs only [eqs, eqd, aCall, Sym.reach, Sym.pos, Sym.sub, lh_some, ↓reduceIte, reduceCtorEq, Nat.reduceEqDiff, Nat.reduceAdd, Nat.reduceSub, Nat.reduceMul, Nat.reduceLT, Nat.reduceLeDiff, Nat.reduceBEq, Nat.reduceBNe, Nat.reduceGT, Int.reduceEq, Int.reduceLT, Int.reduceLE, Int.reduceToNat, Int.reduceAdd, Int.reduceSub, Int.reduceMul, Int.reduceNeg, Int.reduceBEq, Int.reduceBNe, b_fuglemanref12_Right, g_fuglemanref12_Right_0, g_fuglemanref12_Right_1, g_fuglemanref12_Right_2, g_fuglemanref12_Right_3, g_fuglemanref12_Right_4, g_fuglemanref12_Right_5, g_fuglemanref12_Right_6, g_fuglemanref12_Right_7, g_fuglemanref12_Right_8, g_fuglemanref12_Right_9, g_fuglemanref12_Right_10, g_fuglemanref12_Right_11, g_fuglemanref12_Right_12, g_fuglemanref12_Right_13, hr, hw, Ins.c, o1, o2, o3, o4, o5, o6, k0]
  cases a0 : (i.ar == 0)
  · simp -implicitDefEqProofs only [eqs, eqd, aCall, Sym.reach, Sym.pos, Sym.sub, lh_some, ↓reduceIte, reduceCtorEq, Nat.reduceEqDiff, Nat.reduceAdd, Nat.reduceSub, Nat.reduceMul, Nat.reduceLT, Nat.reduceLeDiff, Nat.reduceBEq, Nat.reduceBNe, Nat.reduceGT, Int.reduceEq, Int.reduceLT, Int.reduceLE, Int.reduceToNat, Int.reduceAdd, Int.reduceSub, Int.reduceMul, Int.reduceNeg, Int.reduceBEq, Int.reduceBNe, b_fuglemanref12_Right, g_fuglemanref12_Right_0, g_fuglemanref12_Right_1, g_fuglemanref12_Right_2, g_fuglemanref12_Right_3, g_fuglemanref12_Right_4, g_fuglemanref12_Right_5, g_fuglemanref12_Right_6, g_fuglemanref12_Right_7, g_fuglemanref12_Right_8, g_fuglemanref12_Right_9, g_fuglemanref12_Right_10, g_fuglemanref12_Right_11, g_fuglemanref12_Right_12, g_fuglemanref12_Right_13, hr, hw, Ins.c, o1, o2, o3, o4, o5, o6, k0, a0]
  try simp -implicitDefEqProofs only [eqs, eqd, aCall, Sym.reach, Sym.pos, Sym.sub, lh_some, ↓reduceIte, reduceCtorEq, Nat.reduceEqDiff, Nat.reduceAdd, Nat.reduceSub, Nat.reduceMul, Nat.reduceLT, Nat.reduceLeDiff, Nat.reduceBEq, Nat.reduceBNe, Nat.reduceGT, Int.reduceEq, Int.reduceLT, Int.reduceLE, Int.reduceToNat, Int.reduceAdd, Int.reduceSub, Int.reduceMul, Int.reduceNeg, Int.reduceBEq, Int.reduceBNe, b_fuglemanref12_Right, g_fuglemanref12_Right_0, g_fuglemanref12_Right_1, g_fuglemanref12_Right_2, g_fuglemanref12_Right_3, g_fuglemanref12_Right_4, g_fuglemanref12_Right_5, g_fuglemanref12_Right_6, g_fuglemanref12_Right_7, g_fuglemanref12_Right_8, g_fuglemanref12_Right_9, g_fuglemanref12_Right_10, g_fuglemanref12_Right_11, g_fuglemanref12_Right_12, g_fuglemanref12_Right_13, hr, hw, Ins.c, o1, o2, o3, o4, o5, o6, k0, a0]
  cases n0 : (i.n == 0)
  · simp -implicitDefEqProofs only [eqs, eqd, aCall, Sym.reach, Sym.pos, Sym.sub, lh_some, ↓reduceIte, reduceCtorEq, Nat.reduceEqDiff, Nat.reduceAdd, Nat.reduceSub, Nat.reduceMul, Nat.reduceLT, Nat.reduceLeDiff, Nat.reduceBEq, Nat.reduceBNe, Nat.reduceGT, Int.reduceEq, Int.reduceLT, Int.reduceLE, Int.reduceToNat, Int.reduceAdd, Int.reduceSub, Int.reduceMul, Int.reduceNeg, Int.reduceBEq, Int.reduceBNe, b_fuglemanref12_Right, g_fuglemanref12_Right_0, g_fuglemanref12_Right_1, g_fuglemanref12_Right_2, g_fuglemanref12_Right_3, g_fuglemanref12_Right_4, g_fuglemanref12_Right_5, g_fuglemanref12_Right_6, g_fuglemanref12_Right_7, g_fuglemanref12_Right_8, g_fuglemanref12_Right_9, g_fuglemanref12_Right_10, g_fuglemanref12_Right_11, g_fuglemanref12_Right_12, g_fuglemanref12_Right_13, hr, hw, Ins.c, o1, o2, o3, o4, o5, o6, k0, a0, n0]
  try simp -implicitDefEqProofs only [eqs, eqd, aCall, Sym.reach, Sym.pos, Sym.sub, lh_some, ↓reduceIte, reduceCtorEq, Nat.reduceEqDiff, Nat.reduceAdd, Nat.reduceSub, Nat.reduceMul, Nat.reduceLT, Nat.reduceLeDiff, Nat.reduceBEq, Nat.reduceBNe, Nat.reduceGT, Int.reduceEq, Int.reduceLT, Int.reduceLE, Int.reduceToNat, Int.reduceAdd, Int.reduceSub, Int.reduceMul, Int.reduceNeg, Int.reduceBEq, Int.reduceBNe, b_fuglemanref12_Right, g_fuglemanref12_Right_0, g_fuglemanref12_Right_1, g_fuglemanref12_Right_2, g_fuglemanref12_Right_3, g_fuglemanref12_Right_4, g_fuglemanref12_Right_5, g_fuglemanref12_Right_6, g_fuglemanref12_Right_7, g_fuglemanref12_Right_8, g_fuglemanref12_Right_9, g_fuglemanref12_Right_10, g_fuglemanref12_Right_11, g_fuglemanref12_Right_12, g_fuglemanref12_Right_13, hr, hw, Ins.c, o1, o2, o3, o4, o5, o6, k0, a0, n0]
  cases t0 : (i.at_ == 0)
  · simp -implicitDefEqProofs only [eqs, eqd, aCall, Sym.reach, Sym.pos, Sym.sub, lh_some, ↓reduceIte, reduceCtorEq, Nat.reduceEqDiff, Nat.reduceAdd, Nat.reduceSub, Nat.reduceMul, Nat.reduceLT, Nat.reduceLeDiff, Nat.reduceBEq, Nat.reduceBNe, Nat.reduceGT, Int.reduceEq, Int.reduceLT, Int.reduceLE, Int.reduceToNat, Int.reduceAdd, Int.reduceSub, Int.reduceMul, Int.reduceNeg, Int.reduceBEq, Int.reduceBNe, b_fuglemanref12_Right, g_fuglemanref12_Right_0, g_fuglemanref12_Right_1, g_fuglemanref12_Right_2, g_fuglemanref12_Right_3, g_fuglemanref12_Right_4, g_fuglemanref12_Right_5, g_fuglemanref12_Right_6, g_fuglemanref12_Right_7, g_fuglemanref12_Right_8, g_fuglemanref12_Right_9, g_fuglemanref12_Right_10, g_fuglemanref12_Right_11, g_fuglemanref12_Right_12, g_fuglemanref12_Right_13, hr, hw, Ins.c, o1, o2, o3, o4, o5, o6, k0, a0, n0, t0]
  simp -implicitDefEqProofs only [eqs, eqd, aCall, Sym.reach, Sym.pos, Sym.sub, lh_some, ↓reduceIte, reduceCtorEq, Nat.reduceEqDiff, Nat.reduceAdd, Nat.reduceSub, Nat.reduceMul, Nat.reduceLT, Nat.reduceLeDiff, Nat.reduceBEq, Nat.reduceBNe, Nat.reduceGT, Int.reduceEq, Int.reduceLT, Int.reduceLE, Int.reduceToNat, Int.reduceAdd, Int.reduceSub, Int.reduceMul, Int.reduceNeg, Int.reduceBEq, Int.reduceBNe, b_fuglemanref12_Right, g_fuglemanref12_Right_0, g_fuglemanref12_Right_1, g_fuglemanref12_Right_2, g_fuglemanref12_Right_3, g_fuglemanref12_Right_4, g_fuglemanref12_Right_5, g_fuglemanref12_Right_6, g_fuglemanref12_Right_7, g_fuglemanref12_Right_8, g_fuglemanref12_Right_9, g_fuglemanref12_Right_10, g_fuglemanref12_Right_11, g_fuglemanref12_Right_12, g_fuglemanref12_Right_13, hr, hw, Ins.c, o1, o2, o3, o4, o5, o6, k0, a0, n0, t0]
theorem rright_5 (k : Nat) (i : Ins) (hi : i.In) (hcl : cl i.op = 5) (ho : i.op = 31) : acall T (k + 11) 10 0 [.agg i.c] [] = some ⟨.v (.bool (right i)), [], 1⟩ := by
  rw [acall_go (body := b_fuglemanref12_Right) rfl rfl (Nat.zero_le _)]
  have hr := reads_a (k + 9) i.op
  have hw := writes_a (k + 9) i.op
  have w0 : (decide (3 ≤ i.op) && decide (i.op ≤ 6)) = false := by
    by_cases c1 : 3 ≤ i.op <;> by_cases c2 : i.op ≤ 6 <;> simp [c1, c2]
    omega
  rw [w0] at hw
  rw [rd1_cl, hcl, show ((5 : Int) == 1) = false from rfl] at hr
  unfold right
  rw [hcl]
  simp only [Int.reduceEq, if_true, if_false]
  have o1 : 25 ≤ i.op := by first | omega | (rw [beq_eq_false_iff_ne]; omega) | (rw [beq_iff_eq]; omega)
  have o2 : ¬ i.op ≤ 27 := by first | omega | (rw [beq_eq_false_iff_ne]; omega) | (rw [beq_iff_eq]; omega)
  have o3 : (i.op == 13) = false := by first | omega | (rw [beq_eq_false_iff_ne]; omega) | (rw [beq_iff_eq]; omega)
  have o4 : 28 ≤ i.op := by first | omega | (rw [beq_eq_false_iff_ne]; omega) | (rw [beq_iff_eq]; omega)
  have o5 : ¬ i.op ≤ 30 := by first | omega | (rw [beq_eq_false_iff_ne]; omega) | (rw [beq_iff_eq]; omega)
  have o6 : (i.op == 33) = false := by first | omega | (rw [beq_eq_false_iff_ne]; omega) | (rw [beq_iff_eq]; omega)
  have o7 : (i.op == 31) = true := by first | omega | (rw [beq_eq_false_iff_ne]; omega) | (rw [beq_iff_eq]; omega)
  have hz := rsize_a (k + 8) i.k
  try simp -implicitDefEqProofs only [eqs, eqd, aCall, Sym.reach, Sym.pos, Sym.sub, lh_some, ↓reduceIte, reduceCtorEq, Nat.reduceEqDiff, Nat.reduceAdd, Nat.reduceSub, Nat.reduceMul, Nat.reduceLT, Nat.reduceLeDiff, Nat.reduceBEq, Nat.reduceBNe, Nat.reduceGT, Int.reduceEq, Int.reduceLT, Int.reduceLE, Int.reduceToNat, Int.reduceAdd, Int.reduceSub, Int.reduceMul, Int.reduceNeg, Int.reduceBEq, Int.reduceBNe, b_fuglemanref12_Right, g_fuglemanref12_Right_0, g_fuglemanref12_Right_1, g_fuglemanref12_Right_2, g_fuglemanref12_Right_3, g_fuglemanref12_Right_4, g_fuglemanref12_Right_5, g_fuglemanref12_Right_6, g_fuglemanref12_Right_7, g_fuglemanref12_Right_8, g_fuglemanref12_Right_9, g_fuglemanref12_Right_10, g_fuglemanref12_Right_11, g_fuglemanref12_Right_12, g_fuglemanref12_Right_13, hr, hw, Ins.c, o1, o2, o3, o4, o5, o6, o7, hz]
  cases z0 : decide (0 < ksz i.k)
  · simp -implicitDefEqProofs only [eqs, eqd, aCall, Sym.reach, Sym.pos, Sym.sub, lh_some, ↓reduceIte, reduceCtorEq, Nat.reduceEqDiff, Nat.reduceAdd, Nat.reduceSub, Nat.reduceMul, Nat.reduceLT, Nat.reduceLeDiff, Nat.reduceBEq, Nat.reduceBNe, Nat.reduceGT, Int.reduceEq, Int.reduceLT, Int.reduceLE, Int.reduceToNat, Int.reduceAdd, Int.reduceSub, Int.reduceMul, Int.reduceNeg, Int.reduceBEq, Int.reduceBNe, b_fuglemanref12_Right, g_fuglemanref12_Right_0, g_fuglemanref12_Right_1, g_fuglemanref12_Right_2, g_fuglemanref12_Right_3, g_fuglemanref12_Right_4, g_fuglemanref12_Right_5, g_fuglemanref12_Right_6, g_fuglemanref12_Right_7, g_fuglemanref12_Right_8, g_fuglemanref12_Right_9, g_fuglemanref12_Right_10, g_fuglemanref12_Right_11, g_fuglemanref12_Right_12, g_fuglemanref12_Right_13, hr, hw, Ins.c, o1, o2, o3, o4, o5, o6, o7, hz, z0]
  try simp -implicitDefEqProofs only [eqs, eqd, aCall, Sym.reach, Sym.pos, Sym.sub, lh_some, ↓reduceIte, reduceCtorEq, Nat.reduceEqDiff, Nat.reduceAdd, Nat.reduceSub, Nat.reduceMul, Nat.reduceLT, Nat.reduceLeDiff, Nat.reduceBEq, Nat.reduceBNe, Nat.reduceGT, Int.reduceEq, Int.reduceLT, Int.reduceLE, Int.reduceToNat, Int.reduceAdd, Int.reduceSub, Int.reduceMul, Int.reduceNeg, Int.reduceBEq, Int.reduceBNe, b_fuglemanref12_Right, g_fuglemanref12_Right_0, g_fuglemanref12_Right_1, g_fuglemanref12_Right_2, g_fuglemanref12_Right_3, g_fuglemanref12_Right_4, g_fuglemanref12_Right_5, g_fuglemanref12_Right_6, g_fuglemanref12_Right_7, g_fuglemanref12_Right_8, g_fuglemanref12_Right_9, g_fuglemanref12_Right_10, g_fuglemanref12_Right_11, g_fuglemanref12_Right_12, g_fuglemanref12_Right_13, hr, hw, Ins.c, o1, o2, o3, o4, o5, o6, o7, hz, z0]
  cases a0 : (i.ar == 0)
  · simp -implicitDefEqProofs only [eqs, eqd, aCall, Sym.reach, Sym.pos, Sym.sub, lh_some, ↓reduceIte, reduceCtorEq, Nat.reduceEqDiff, Nat.reduceAdd, Nat.reduceSub, Nat.reduceMul, Nat.reduceLT, Nat.reduceLeDiff, Nat.reduceBEq, Nat.reduceBNe, Nat.reduceGT, Int.reduceEq, Int.reduceLT, Int.reduceLE, Int.reduceToNat, Int.reduceAdd, Int.reduceSub, Int.reduceMul, Int.reduceNeg, Int.reduceBEq, Int.reduceBNe, b_fuglemanref12_Right, g_fuglemanref12_Right_0, g_fuglemanref12_Right_1, g_fuglemanref12_Right_2, g_fuglemanref12_Right_3, g_fuglemanref12_Right_4, g_fuglemanref12_Right_5, g_fuglemanref12_Right_6, g_fuglemanref12_Right_7, g_fuglemanref12_Right_8, g_fuglemanref12_Right_9, g_fuglemanref12_Right_10, g_fuglemanref12_Right_11, g_fuglemanref12_Right_12, g_fuglemanref12_Right_13, hr, hw, Ins.c, o1, o2, o3, o4, o5, o6, o7, hz, z0, a0]
  try simp -implicitDefEqProofs only [eqs, eqd, aCall, Sym.reach, Sym.pos, Sym.sub, lh_some, ↓reduceIte, reduceCtorEq, Nat.reduceEqDiff, Nat.reduceAdd, Nat.reduceSub, Nat.reduceMul, Nat.reduceLT, Nat.reduceLeDiff, Nat.reduceBEq, Nat.reduceBNe, Nat.reduceGT, Int.reduceEq, Int.reduceLT, Int.reduceLE, Int.reduceToNat, Int.reduceAdd, Int.reduceSub, Int.reduceMul, Int.reduceNeg, Int.reduceBEq, Int.reduceBNe, b_fuglemanref12_Right, g_fuglemanref12_Right_0, g_fuglemanref12_Right_1, g_fuglemanref12_Right_2, g_fuglemanref12_Right_3, g_fuglemanref12_Right_4, g_fuglemanref12_Right_5, g_fuglemanref12_Right_6, g_fuglemanref12_Right_7, g_fuglemanref12_Right_8, g_fuglemanref12_Right_9, g_fuglemanref12_Right_10, g_fuglemanref12_Right_11, g_fuglemanref12_Right_12, g_fuglemanref12_Right_13, hr, hw, Ins.c, o1, o2, o3, o4, o5, o6, o7, hz, z0, a0]
  cases n0 : (i.n == 0)
  · simp -implicitDefEqProofs only [eqs, eqd, aCall, Sym.reach, Sym.pos, Sym.sub, lh_some, ↓reduceIte, reduceCtorEq, Nat.reduceEqDiff, Nat.reduceAdd, Nat.reduceSub, Nat.reduceMul, Nat.reduceLT, Nat.reduceLeDiff, Nat.reduceBEq, Nat.reduceBNe, Nat.reduceGT, Int.reduceEq, Int.reduceLT, Int.reduceLE, Int.reduceToNat, Int.reduceAdd, Int.reduceSub, Int.reduceMul, Int.reduceNeg, Int.reduceBEq, Int.reduceBNe, b_fuglemanref12_Right, g_fuglemanref12_Right_0, g_fuglemanref12_Right_1, g_fuglemanref12_Right_2, g_fuglemanref12_Right_3, g_fuglemanref12_Right_4, g_fuglemanref12_Right_5, g_fuglemanref12_Right_6, g_fuglemanref12_Right_7, g_fuglemanref12_Right_8, g_fuglemanref12_Right_9, g_fuglemanref12_Right_10, g_fuglemanref12_Right_11, g_fuglemanref12_Right_12, g_fuglemanref12_Right_13, hr, hw, Ins.c, o1, o2, o3, o4, o5, o6, o7, hz, z0, a0, n0]
  try simp -implicitDefEqProofs only [eqs, eqd, aCall, Sym.reach, Sym.pos, Sym.sub, lh_some, ↓reduceIte, reduceCtorEq, Nat.reduceEqDiff, Nat.reduceAdd, Nat.reduceSub, Nat.reduceMul, Nat.reduceLT, Nat.reduceLeDiff, Nat.reduceBEq, Nat.reduceBNe, Nat.reduceGT, Int.reduceEq, Int.reduceLT, Int.reduceLE, Int.reduceToNat, Int.reduceAdd, Int.reduceSub, Int.reduceMul, Int.reduceNeg, Int.reduceBEq, Int.reduceBNe, b_fuglemanref12_Right, g_fuglemanref12_Right_0, g_fuglemanref12_Right_1, g_fuglemanref12_Right_2, g_fuglemanref12_Right_3, g_fuglemanref12_Right_4, g_fuglemanref12_Right_5, g_fuglemanref12_Right_6, g_fuglemanref12_Right_7, g_fuglemanref12_Right_8, g_fuglemanref12_Right_9, g_fuglemanref12_Right_10, g_fuglemanref12_Right_11, g_fuglemanref12_Right_12, g_fuglemanref12_Right_13, hr, hw, Ins.c, o1, o2, o3, o4, o5, o6, o7, hz, z0, a0, n0]
  cases t0 : (i.at_ == 0)
  · simp -implicitDefEqProofs only [eqs, eqd, aCall, Sym.reach, Sym.pos, Sym.sub, lh_some, ↓reduceIte, reduceCtorEq, Nat.reduceEqDiff, Nat.reduceAdd, Nat.reduceSub, Nat.reduceMul, Nat.reduceLT, Nat.reduceLeDiff, Nat.reduceBEq, Nat.reduceBNe, Nat.reduceGT, Int.reduceEq, Int.reduceLT, Int.reduceLE, Int.reduceToNat, Int.reduceAdd, Int.reduceSub, Int.reduceMul, Int.reduceNeg, Int.reduceBEq, Int.reduceBNe, b_fuglemanref12_Right, g_fuglemanref12_Right_0, g_fuglemanref12_Right_1, g_fuglemanref12_Right_2, g_fuglemanref12_Right_3, g_fuglemanref12_Right_4, g_fuglemanref12_Right_5, g_fuglemanref12_Right_6, g_fuglemanref12_Right_7, g_fuglemanref12_Right_8, g_fuglemanref12_Right_9, g_fuglemanref12_Right_10, g_fuglemanref12_Right_11, g_fuglemanref12_Right_12, g_fuglemanref12_Right_13, hr, hw, Ins.c, o1, o2, o3, o4, o5, o6, o7, hz, z0, a0, n0, t0]
  simp -implicitDefEqProofs only [eqs, eqd, aCall, Sym.reach, Sym.pos, Sym.sub, lh_some, ↓reduceIte, reduceCtorEq, Nat.reduceEqDiff, Nat.reduceAdd, Nat.reduceSub, Nat.reduceMul, Nat.reduceLT, Nat.reduceLeDiff, Nat.reduceBEq, Nat.reduceBNe, Nat.reduceGT, Int.reduceEq, Int.reduceLT, Int.reduceLE, Int.reduceToNat, Int.reduceAdd, Int.reduceSub, Int.reduceMul, Int.reduceNeg, Int.reduceBEq, Int.reduceBNe, b_fuglemanref12_Right, g_fuglemanref12_Right_0, g_fuglemanref12_Right_1, g_fuglemanref12_Right_2, g_fuglemanref12_Right_3, g_fuglemanref12_Right_4, g_fuglemanref12_Right_5, g_fuglemanref12_Right_6, g_fuglemanref12_Right_7, g_fuglemanref12_Right_8, g_fuglemanref12_Right_9, g_fuglemanref12_Right_10, g_fuglemanref12_Right_11, g_fuglemanref12_Right_12, g_fuglemanref12_Right_13, hr, hw, Ins.c, o1, o2, o3, o4, o5, o6, o7, hz, z0, a0, n0, t0]
theorem rright_6 (k : Nat) (i : Ins) (hi : i.In) (hcl : cl i.op = 6) (ho : i.op = 32) : acall T (k + 11) 10 0 [.agg i.c] [] = some ⟨.v (.bool (right i)), [], 1⟩ := by
  rw [acall_go (body := b_fuglemanref12_Right) rfl rfl (Nat.zero_le _)]
  have hr := reads_a (k + 9) i.op
  have hw := writes_a (k + 9) i.op
  have w0 : (decide (3 ≤ i.op) && decide (i.op ≤ 6)) = false := by
    by_cases c1 : 3 ≤ i.op <;> by_cases c2 : i.op ≤ 6 <;> simp [c1, c2]
    omega
  rw [w0] at hw
  rw [rd1_cl, hcl, show ((6 : Int) == 1) = false from rfl] at hr
  unfold right
  rw [hcl]
  simp only [Int.reduceEq, if_true, if_false]
  have o1 : 25 ≤ i.op := by first | omega | (rw [beq_eq_false_iff_ne]; omega) | (rw [beq_iff_eq]; omega)
  have o2 : ¬ i.op ≤ 27 := by first | omega | (rw [beq_eq_false_iff_ne]; omega) | (rw [beq_iff_eq]; omega)
  have o3 : (i.op == 13) = false := by first | omega | (rw [beq_eq_false_iff_ne]; omega) | (rw [beq_iff_eq]; omega)
  have o4 : 28 ≤ i.op := by first | omega | (rw [beq_eq_false_iff_ne]; omega) | (rw [beq_iff_eq]; omega)
  have o5 : ¬ i.op ≤ 30 := by first | omega | (rw [beq_eq_false_iff_ne]; omega) | (rw [beq_iff_eq]; omega)
  have o6 : (i.op == 33) = false := by first | omega | (rw [beq_eq_false_iff_ne]; omega) | (rw [beq_iff_eq]; omega)
  have o7 : (i.op == 31) = false := by first | omega | (rw [beq_eq_false_iff_ne]; omega) | (rw [beq_iff_eq]; omega)
  have o8 : (i.op == 32) = true := by first | omega | (rw [beq_eq_false_iff_ne]; omega) | (rw [beq_iff_eq]; omega)
  have hz := reads_a (k + 9) i.at_
  rw [rd1_cl] at hz
  have hq : (cl i.at_ == 1 && decide (7 ≤ i.at_)) = (cl i.at_ == 1 && decide (2 < i.at_)) := by
    cases e : (cl i.at_ == 1)
    · rfl
    · have e' : cl i.at_ = 1 := by simpa using e
      rw [Bool.true_and, Bool.true_and, decide_eq_decide]
      unfold cl at e'
      split at e'
      · omega
      · exfalso
        repeat' split at e'
        all_goals omega
  rw [hq]
  try simp -implicitDefEqProofs only [eqs, eqd, aCall, Sym.reach, Sym.pos, Sym.sub, lh_some, ↓reduceIte, reduceCtorEq, Nat.reduceEqDiff, Nat.reduceAdd, Nat.reduceSub, Nat.reduceMul, Nat.reduceLT, Nat.reduceLeDiff, Nat.reduceBEq, Nat.reduceBNe, Nat.reduceGT, Int.reduceEq, Int.reduceLT, Int.reduceLE, Int.reduceToNat, Int.reduceAdd, Int.reduceSub, Int.reduceMul, Int.reduceNeg, Int.reduceBEq, Int.reduceBNe, b_fuglemanref12_Right, g_fuglemanref12_Right_0, g_fuglemanref12_Right_1, g_fuglemanref12_Right_2, g_fuglemanref12_Right_3, g_fuglemanref12_Right_4, g_fuglemanref12_Right_5, g_fuglemanref12_Right_6, g_fuglemanref12_Right_7, g_fuglemanref12_Right_8, g_fuglemanref12_Right_9, g_fuglemanref12_Right_10, g_fuglemanref12_Right_11, g_fuglemanref12_Right_12, g_fuglemanref12_Right_13, hr, hw, Ins.c, o1, o2, o3, o4, o5, o6, o7, o8, hz]
  cases r1 : (cl i.at_ == 1)
  · simp -implicitDefEqProofs only [eqs, eqd, aCall, Sym.reach, Sym.pos, Sym.sub, lh_some, ↓reduceIte, reduceCtorEq, Nat.reduceEqDiff, Nat.reduceAdd, Nat.reduceSub, Nat.reduceMul, Nat.reduceLT, Nat.reduceLeDiff, Nat.reduceBEq, Nat.reduceBNe, Nat.reduceGT, Int.reduceEq, Int.reduceLT, Int.reduceLE, Int.reduceToNat, Int.reduceAdd, Int.reduceSub, Int.reduceMul, Int.reduceNeg, Int.reduceBEq, Int.reduceBNe, b_fuglemanref12_Right, g_fuglemanref12_Right_0, g_fuglemanref12_Right_1, g_fuglemanref12_Right_2, g_fuglemanref12_Right_3, g_fuglemanref12_Right_4, g_fuglemanref12_Right_5, g_fuglemanref12_Right_6, g_fuglemanref12_Right_7, g_fuglemanref12_Right_8, g_fuglemanref12_Right_9, g_fuglemanref12_Right_10, g_fuglemanref12_Right_11, g_fuglemanref12_Right_12, g_fuglemanref12_Right_13, hr, hw, Ins.c, o1, o2, o3, o4, o5, o6, o7, o8, hz, r1]
  try simp -implicitDefEqProofs only [eqs, eqd, aCall, Sym.reach, Sym.pos, Sym.sub, lh_some, ↓reduceIte, reduceCtorEq, Nat.reduceEqDiff, Nat.reduceAdd, Nat.reduceSub, Nat.reduceMul, Nat.reduceLT, Nat.reduceLeDiff, Nat.reduceBEq, Nat.reduceBNe, Nat.reduceGT, Int.reduceEq, Int.reduceLT, Int.reduceLE, Int.reduceToNat, Int.reduceAdd, Int.reduceSub, Int.reduceMul, Int.reduceNeg, Int.reduceBEq, Int.reduceBNe, b_fuglemanref12_Right, g_fuglemanref12_Right_0, g_fuglemanref12_Right_1, g_fuglemanref12_Right_2, g_fuglemanref12_Right_3, g_fuglemanref12_Right_4, g_fuglemanref12_Right_5, g_fuglemanref12_Right_6, g_fuglemanref12_Right_7, g_fuglemanref12_Right_8, g_fuglemanref12_Right_9, g_fuglemanref12_Right_10, g_fuglemanref12_Right_11, g_fuglemanref12_Right_12, g_fuglemanref12_Right_13, hr, hw, Ins.c, o1, o2, o3, o4, o5, o6, o7, o8, hz, r1]
  cases t1 : decide (2 < i.at_)
  · simp -implicitDefEqProofs only [eqs, eqd, aCall, Sym.reach, Sym.pos, Sym.sub, lh_some, ↓reduceIte, reduceCtorEq, Nat.reduceEqDiff, Nat.reduceAdd, Nat.reduceSub, Nat.reduceMul, Nat.reduceLT, Nat.reduceLeDiff, Nat.reduceBEq, Nat.reduceBNe, Nat.reduceGT, Int.reduceEq, Int.reduceLT, Int.reduceLE, Int.reduceToNat, Int.reduceAdd, Int.reduceSub, Int.reduceMul, Int.reduceNeg, Int.reduceBEq, Int.reduceBNe, b_fuglemanref12_Right, g_fuglemanref12_Right_0, g_fuglemanref12_Right_1, g_fuglemanref12_Right_2, g_fuglemanref12_Right_3, g_fuglemanref12_Right_4, g_fuglemanref12_Right_5, g_fuglemanref12_Right_6, g_fuglemanref12_Right_7, g_fuglemanref12_Right_8, g_fuglemanref12_Right_9, g_fuglemanref12_Right_10, g_fuglemanref12_Right_11, g_fuglemanref12_Right_12, g_fuglemanref12_Right_13, hr, hw, Ins.c, o1, o2, o3, o4, o5, o6, o7, o8, hz, r1, t1]
  try simp -implicitDefEqProofs only [eqs, eqd, aCall, Sym.reach, Sym.pos, Sym.sub, lh_some, ↓reduceIte, reduceCtorEq, Nat.reduceEqDiff, Nat.reduceAdd, Nat.reduceSub, Nat.reduceMul, Nat.reduceLT, Nat.reduceLeDiff, Nat.reduceBEq, Nat.reduceBNe, Nat.reduceGT, Int.reduceEq, Int.reduceLT, Int.reduceLE, Int.reduceToNat, Int.reduceAdd, Int.reduceSub, Int.reduceMul, Int.reduceNeg, Int.reduceBEq, Int.reduceBNe, b_fuglemanref12_Right, g_fuglemanref12_Right_0, g_fuglemanref12_Right_1, g_fuglemanref12_Right_2, g_fuglemanref12_Right_3, g_fuglemanref12_Right_4, g_fuglemanref12_Right_5, g_fuglemanref12_Right_6, g_fuglemanref12_Right_7, g_fuglemanref12_Right_8, g_fuglemanref12_Right_9, g_fuglemanref12_Right_10, g_fuglemanref12_Right_11, g_fuglemanref12_Right_12, g_fuglemanref12_Right_13, hr, hw, Ins.c, o1, o2, o3, o4, o5, o6, o7, o8, hz, r1, t1]
  cases k0 : (i.k == 0)
  · simp -implicitDefEqProofs only [eqs, eqd, aCall, Sym.reach, Sym.pos, Sym.sub, lh_some, ↓reduceIte, reduceCtorEq, Nat.reduceEqDiff, Nat.reduceAdd, Nat.reduceSub, Nat.reduceMul, Nat.reduceLT, Nat.reduceLeDiff, Nat.reduceBEq, Nat.reduceBNe, Nat.reduceGT, Int.reduceEq, Int.reduceLT, Int.reduceLE, Int.reduceToNat, Int.reduceAdd, Int.reduceSub, Int.reduceMul, Int.reduceNeg, Int.reduceBEq, Int.reduceBNe, b_fuglemanref12_Right, g_fuglemanref12_Right_0, g_fuglemanref12_Right_1, g_fuglemanref12_Right_2, g_fuglemanref12_Right_3, g_fuglemanref12_Right_4, g_fuglemanref12_Right_5, g_fuglemanref12_Right_6, g_fuglemanref12_Right_7, g_fuglemanref12_Right_8, g_fuglemanref12_Right_9, g_fuglemanref12_Right_10, g_fuglemanref12_Right_11, g_fuglemanref12_Right_12, g_fuglemanref12_Right_13, hr, hw, Ins.c, o1, o2, o3, o4, o5, o6, o7, o8, hz, r1, t1, k0]
  try simp -implicitDefEqProofs only [eqs, eqd, aCall, Sym.reach, Sym.pos, Sym.sub, lh_some, ↓reduceIte, reduceCtorEq, Nat.reduceEqDiff, Nat.reduceAdd, Nat.reduceSub, Nat.reduceMul, Nat.reduceLT, Nat.reduceLeDiff, Nat.reduceBEq, Nat.reduceBNe, Nat.reduceGT, Int.reduceEq, Int.reduceLT, Int.reduceLE, Int.reduceToNat, Int.reduceAdd, Int.reduceSub, Int.reduceMul, Int.reduceNeg, Int.reduceBEq, Int.reduceBNe, b_fuglemanref12_Right, g_fuglemanref12_Right_0, g_fuglemanref12_Right_1, g_fuglemanref12_Right_2, g_fuglemanref12_Right_3, g_fuglemanref12_Right_4, g_fuglemanref12_Right_5, g_fuglemanref12_Right_6, g_fuglemanref12_Right_7, g_fuglemanref12_Right_8, g_fuglemanref12_Right_9, g_fuglemanref12_Right_10, g_fuglemanref12_Right_11, g_fuglemanref12_Right_12, g_fuglemanref12_Right_13, hr, hw, Ins.c, o1, o2, o3, o4, o5, o6, o7, o8, hz, r1, t1, k0]
  cases a0 : (i.ar == 0)
  · simp -implicitDefEqProofs only [eqs, eqd, aCall, Sym.reach, Sym.pos, Sym.sub, lh_some, ↓reduceIte, reduceCtorEq, Nat.reduceEqDiff, Nat.reduceAdd, Nat.reduceSub, Nat.reduceMul, Nat.reduceLT, Nat.reduceLeDiff, Nat.reduceBEq, Nat.reduceBNe, Nat.reduceGT, Int.reduceEq, Int.reduceLT, Int.reduceLE, Int.reduceToNat, Int.reduceAdd, Int.reduceSub, Int.reduceMul, Int.reduceNeg, Int.reduceBEq, Int.reduceBNe, b_fuglemanref12_Right, g_fuglemanref12_Right_0, g_fuglemanref12_Right_1, g_fuglemanref12_Right_2, g_fuglemanref12_Right_3, g_fuglemanref12_Right_4, g_fuglemanref12_Right_5, g_fuglemanref12_Right_6, g_fuglemanref12_Right_7, g_fuglemanref12_Right_8, g_fuglemanref12_Right_9, g_fuglemanref12_Right_10, g_fuglemanref12_Right_11, g_fuglemanref12_Right_12, g_fuglemanref12_Right_13, hr, hw, Ins.c, o1, o2, o3, o4, o5, o6, o7, o8, hz, r1, t1, k0, a0]
  try simp -implicitDefEqProofs only [eqs, eqd, aCall, Sym.reach, Sym.pos, Sym.sub, lh_some, ↓reduceIte, reduceCtorEq, Nat.reduceEqDiff, Nat.reduceAdd, Nat.reduceSub, Nat.reduceMul, Nat.reduceLT, Nat.reduceLeDiff, Nat.reduceBEq, Nat.reduceBNe, Nat.reduceGT, Int.reduceEq, Int.reduceLT, Int.reduceLE, Int.reduceToNat, Int.reduceAdd, Int.reduceSub, Int.reduceMul, Int.reduceNeg, Int.reduceBEq, Int.reduceBNe, b_fuglemanref12_Right, g_fuglemanref12_Right_0, g_fuglemanref12_Right_1, g_fuglemanref12_Right_2, g_fuglemanref12_Right_3, g_fuglemanref12_Right_4, g_fuglemanref12_Right_5, g_fuglemanref12_Right_6, g_fuglemanref12_Right_7, g_fuglemanref12_Right_8, g_fuglemanref12_Right_9, g_fuglemanref12_Right_10, g_fuglemanref12_Right_11, g_fuglemanref12_Right_12, g_fuglemanref12_Right_13, hr, hw, Ins.c, o1, o2, o3, o4, o5, o6, o7, o8, hz, r1, t1, k0, a0]
  cases n0 : (i.n == 0)
  · simp -implicitDefEqProofs only [eqs, eqd, aCall, Sym.reach, Sym.pos, Sym.sub, lh_some, ↓reduceIte, reduceCtorEq, Nat.reduceEqDiff, Nat.reduceAdd, Nat.reduceSub, Nat.reduceMul, Nat.reduceLT, Nat.reduceLeDiff, Nat.reduceBEq, Nat.reduceBNe, Nat.reduceGT, Int.reduceEq, Int.reduceLT, Int.reduceLE, Int.reduceToNat, Int.reduceAdd, Int.reduceSub, Int.reduceMul, Int.reduceNeg, Int.reduceBEq, Int.reduceBNe, b_fuglemanref12_Right, g_fuglemanref12_Right_0, g_fuglemanref12_Right_1, g_fuglemanref12_Right_2, g_fuglemanref12_Right_3, g_fuglemanref12_Right_4, g_fuglemanref12_Right_5, g_fuglemanref12_Right_6, g_fuglemanref12_Right_7, g_fuglemanref12_Right_8, g_fuglemanref12_Right_9, g_fuglemanref12_Right_10, g_fuglemanref12_Right_11, g_fuglemanref12_Right_12, g_fuglemanref12_Right_13, hr, hw, Ins.c, o1, o2, o3, o4, o5, o6, o7, o8, hz, r1, t1, k0, a0, n0]
  simp -implicitDefEqProofs only [eqs, eqd, aCall, Sym.reach, Sym.pos, Sym.sub, lh_some, ↓reduceIte, reduceCtorEq, Nat.reduceEqDiff, Nat.reduceAdd, Nat.reduceSub, Nat.reduceMul, Nat.reduceLT, Nat.reduceLeDiff, Nat.reduceBEq, Nat.reduceBNe, Nat.reduceGT, Int.reduceEq, Int.reduceLT, Int.reduceLE, Int.reduceToNat, Int.reduceAdd, Int.reduceSub, Int.reduceMul, Int.reduceNeg, Int.reduceBEq, Int.reduceBNe, b_fuglemanref12_Right, g_fuglemanref12_Right_0, g_fuglemanref12_Right_1, g_fuglemanref12_Right_2, g_fuglemanref12_Right_3, g_fuglemanref12_Right_4, g_fuglemanref12_Right_5, g_fuglemanref12_Right_6, g_fuglemanref12_Right_7, g_fuglemanref12_Right_8, g_fuglemanref12_Right_9, g_fuglemanref12_Right_10, g_fuglemanref12_Right_11, g_fuglemanref12_Right_12, g_fuglemanref12_Right_13, hr, hw, Ins.c, o1, o2, o3, o4, o5, o6, o7, o8, hz, r1, t1, k0, a0, n0]
theorem rright_8x (k : Nat) (i : Ins) (hi : i.In) (hcl : cl i.op = 8) (ho : i.op = 36) (p3 : (i.ar == 3) = true) : acall T (k + 11) 10 0 [.agg i.c] [] = some ⟨.v (.bool (right i)), [], 1⟩ := by
  rw [acall_go (body := b_fuglemanref12_Right) rfl rfl (Nat.zero_le _)]
  have hr := reads_a (k + 9) i.op
  have hw := writes_a (k + 9) i.op
  have w0 : (decide (3 ≤ i.op) && decide (i.op ≤ 6)) = false := by
    by_cases c1 : 3 ≤ i.op <;> by_cases c2 : i.op ≤ 6 <;> simp [c1, c2]
    omega
  rw [w0] at hw
  rw [rd1_cl, hcl, show ((8 : Int) == 1) = false from rfl] at hr
  unfold right
  rw [hcl]
  simp only [Int.reduceEq, if_true, if_false]
  have o1 : 25 ≤ i.op := by first | omega | (rw [beq_eq_false_iff_ne]; omega) | (rw [beq_iff_eq]; omega)
  have o2 : ¬ i.op ≤ 27 := by first | omega | (rw [beq_eq_false_iff_ne]; omega) | (rw [beq_iff_eq]; omega)
  have o3 : (i.op == 13) = false := by first | omega | (rw [beq_eq_false_iff_ne]; omega) | (rw [beq_iff_eq]; omega)
  have o4 : 28 ≤ i.op := by first | omega | (rw [beq_eq_false_iff_ne]; omega) | (rw [beq_iff_eq]; omega)
  have o5 : ¬ i.op ≤ 30 := by first | omega | (rw [beq_eq_false_iff_ne]; omega) | (rw [beq_iff_eq]; omega)
  have o6 : (i.op == 33) = false := by first | omega | (rw [beq_eq_false_iff_ne]; omega) | (rw [beq_iff_eq]; omega)
  have o7 : (i.op == 31) = false := by first | omega | (rw [beq_eq_false_iff_ne]; omega) | (rw [beq_iff_eq]; omega)
  have o8 : (i.op == 32) = false := by first | omega | (rw [beq_eq_false_iff_ne]; omega) | (rw [beq_iff_eq]; omega)
  have o9 : (i.op == 34) = false := by first | omega | (rw [beq_eq_false_iff_ne]; omega) | (rw [beq_iff_eq]; omega)
  have oa : (i.op == 35) = false := by first | omega | (rw [beq_eq_false_iff_ne]; omega) | (rw [beq_iff_eq]; omega)
  have ob : (i.op == 36) = true := by first | omega | (rw [beq_eq_false_iff_ne]; omega) | (rw [beq_iff_eq]; omega)
  have hlt : decide (i.at_ < 64) = decide (i.at_ ≤ 63) := by rw [decide_eq_decide]; omega
  rw [hlt]
  try simp -implicitDefEqProofs only [eqs, eqd, aCall, Sym.reach, Sym.pos, Sym.sub, lh_some, ↓reduceIte, reduceCtorEq, Nat.reduceEqDiff, Nat.reduceAdd, Nat.reduceSub, Nat.reduceMul, Nat.reduceLT, Nat.reduceLeDiff, Nat.reduceBEq, Nat.reduceBNe, Nat.reduceGT, Int.reduceEq, Int.reduceLT, Int.reduceLE, Int.reduceToNat, Int.reduceAdd, Int.reduceSub, Int.reduceMul, Int.reduceNeg, Int.reduceBEq, Int.reduceBNe, b_fuglemanref12_Right, g_fuglemanref12_Right_0, g_fuglemanref12_Right_1, g_fuglemanref12_Right_2, g_fuglemanref12_Right_3, g_fuglemanref12_Right_4, g_fuglemanref12_Right_5, g_fuglemanref12_Right_6, g_fuglemanref12_Right_7, g_fuglemanref12_Right_8, g_fuglemanref12_Right_9, g_fuglemanref12_Right_10, g_fuglemanref12_Right_11, g_fuglemanref12_Right_12, g_fuglemanref12_Right_13, hr, hw, Ins.c, o1, o2, o3, o4, o5, o6, o7, o8, o9, oa, ob, p3]
  cases t1 : decide (0 ≤ i.at_)
  · simp -implicitDefEqProofs only [eqs, eqd, aCall, Sym.reach, Sym.pos, Sym.sub, lh_some, ↓reduceIte, reduceCtorEq, Nat.reduceEqDiff, Nat.reduceAdd, Nat.reduceSub, Nat.reduceMul, Nat.reduceLT, Nat.reduceLeDiff, Nat.reduceBEq, Nat.reduceBNe, Nat.reduceGT, Int.reduceEq, Int.reduceLT, Int.reduceLE, Int.reduceToNat, Int.reduceAdd, Int.reduceSub, Int.reduceMul, Int.reduceNeg, Int.reduceBEq, Int.reduceBNe, b_fuglemanref12_Right, g_fuglemanref12_Right_0, g_fuglemanref12_Right_1, g_fuglemanref12_Right_2, g_fuglemanref12_Right_3, g_fuglemanref12_Right_4, g_fuglemanref12_Right_5, g_fuglemanref12_Right_6, g_fuglemanref12_Right_7, g_fuglemanref12_Right_8, g_fuglemanref12_Right_9, g_fuglemanref12_Right_10, g_fuglemanref12_Right_11, g_fuglemanref12_Right_12, g_fuglemanref12_Right_13, hr, hw, Ins.c, o1, o2, o3, o4, o5, o6, o7, o8, o9, oa, ob, p3, t1]
  try simp -implicitDefEqProofs only [eqs, eqd, aCall, Sym.reach, Sym.pos, Sym.sub, lh_some, ↓reduceIte, reduceCtorEq, Nat.reduceEqDiff, Nat.reduceAdd, Nat.reduceSub, Nat.reduceMul, Nat.reduceLT, Nat.reduceLeDiff, Nat.reduceBEq, Nat.reduceBNe, Nat.reduceGT, Int.reduceEq, Int.reduceLT, Int.reduceLE, Int.reduceToNat, Int.reduceAdd, Int.reduceSub, Int.reduceMul, Int.reduceNeg, Int.reduceBEq, Int.reduceBNe, b_fuglemanref12_Right, g_fuglemanref12_Right_0, g_fuglemanref12_Right_1, g_fuglemanref12_Right_2, g_fuglemanref12_Right_3, g_fuglemanref12_Right_4, g_fuglemanref12_Right_5, g_fuglemanref12_Right_6, g_fuglemanref12_Right_7, g_fuglemanref12_Right_8, g_fuglemanref12_Right_9, g_fuglemanref12_Right_10, g_fuglemanref12_Right_11, g_fuglemanref12_Right_12, g_fuglemanref12_Right_13, hr, hw, Ins.c, o1, o2, o3, o4, o5, o6, o7, o8, o9, oa, ob, p3, t1]
  cases t2 : decide (i.at_ ≤ 63)
  · simp -implicitDefEqProofs only [eqs, eqd, aCall, Sym.reach, Sym.pos, Sym.sub, lh_some, ↓reduceIte, reduceCtorEq, Nat.reduceEqDiff, Nat.reduceAdd, Nat.reduceSub, Nat.reduceMul, Nat.reduceLT, Nat.reduceLeDiff, Nat.reduceBEq, Nat.reduceBNe, Nat.reduceGT, Int.reduceEq, Int.reduceLT, Int.reduceLE, Int.reduceToNat, Int.reduceAdd, Int.reduceSub, Int.reduceMul, Int.reduceNeg, Int.reduceBEq, Int.reduceBNe, b_fuglemanref12_Right, g_fuglemanref12_Right_0, g_fuglemanref12_Right_1, g_fuglemanref12_Right_2, g_fuglemanref12_Right_3, g_fuglemanref12_Right_4, g_fuglemanref12_Right_5, g_fuglemanref12_Right_6, g_fuglemanref12_Right_7, g_fuglemanref12_Right_8, g_fuglemanref12_Right_9, g_fuglemanref12_Right_10, g_fuglemanref12_Right_11, g_fuglemanref12_Right_12, g_fuglemanref12_Right_13, hr, hw, Ins.c, o1, o2, o3, o4, o5, o6, o7, o8, o9, oa, ob, p3, t1, t2]
  try simp -implicitDefEqProofs only [eqs, eqd, aCall, Sym.reach, Sym.pos, Sym.sub, lh_some, ↓reduceIte, reduceCtorEq, Nat.reduceEqDiff, Nat.reduceAdd, Nat.reduceSub, Nat.reduceMul, Nat.reduceLT, Nat.reduceLeDiff, Nat.reduceBEq, Nat.reduceBNe, Nat.reduceGT, Int.reduceEq, Int.reduceLT, Int.reduceLE, Int.reduceToNat, Int.reduceAdd, Int.reduceSub, Int.reduceMul, Int.reduceNeg, Int.reduceBEq, Int.reduceBNe, b_fuglemanref12_Right, g_fuglemanref12_Right_0, g_fuglemanref12_Right_1, g_fuglemanref12_Right_2, g_fuglemanref12_Right_3, g_fuglemanref12_Right_4, g_fuglemanref12_Right_5, g_fuglemanref12_Right_6, g_fuglemanref12_Right_7, g_fuglemanref12_Right_8, g_fuglemanref12_Right_9, g_fuglemanref12_Right_10, g_fuglemanref12_Right_11, g_fuglemanref12_Right_12, g_fuglemanref12_Right_13, hr, hw, Ins.c, o1, o2, o3, o4, o5, o6, o7, o8, o9, oa, ob, p3, t1, t2]
  cases k0 : (i.k == 0)
  · simp -implicitDefEqProofs only [eqs, eqd, aCall, Sym.reach, Sym.pos, Sym.sub, lh_some, ↓reduceIte, reduceCtorEq, Nat.reduceEqDiff, Nat.reduceAdd, Nat.reduceSub, Nat.reduceMul, Nat.reduceLT, Nat.reduceLeDiff, Nat.reduceBEq, Nat.reduceBNe, Nat.reduceGT, Int.reduceEq, Int.reduceLT, Int.reduceLE, Int.reduceToNat, Int.reduceAdd, Int.reduceSub, Int.reduceMul, Int.reduceNeg, Int.reduceBEq, Int.reduceBNe, b_fuglemanref12_Right, g_fuglemanref12_Right_0, g_fuglemanref12_Right_1, g_fuglemanref12_Right_2, g_fuglemanref12_Right_3, g_fuglemanref12_Right_4, g_fuglemanref12_Right_5, g_fuglemanref12_Right_6, g_fuglemanref12_Right_7, g_fuglemanref12_Right_8, g_fuglemanref12_Right_9, g_fuglemanref12_Right_10, g_fuglemanref12_Right_11, g_fuglemanref12_Right_12, g_fuglemanref12_Right_13, hr, hw, Ins.c, o1, o2, o3, o4, o5, o6, o7, o8, o9, oa, ob, p3, t1, t2, k0]
  try simp -implicitDefEqProofs only [eqs, eqd, aCall, Sym.reach, Sym.pos, Sym.sub, lh_some, ↓reduceIte, reduceCtorEq, Nat.reduceEqDiff, Nat.reduceAdd, Nat.reduceSub, Nat.reduceMul, Nat.reduceLT, Nat.reduceLeDiff, Nat.reduceBEq, Nat.reduceBNe, Nat.reduceGT, Int.reduceEq, Int.reduceLT, Int.reduceLE, Int.reduceToNat, Int.reduceAdd, Int.reduceSub, Int.reduceMul, Int.reduceNeg, Int.reduceBEq, Int.reduceBNe, b_fuglemanref12_Right, g_fuglemanref12_Right_0, g_fuglemanref12_Right_1, g_fuglemanref12_Right_2, g_fuglemanref12_Right_3, g_fuglemanref12_Right_4, g_fuglemanref12_Right_5, g_fuglemanref12_Right_6, g_fuglemanref12_Right_7, g_fuglemanref12_Right_8, g_fuglemanref12_Right_9, g_fuglemanref12_Right_10, g_fuglemanref12_Right_11, g_fuglemanref12_Right_12, g_fuglemanref12_Right_13, hr, hw, Ins.c, o1, o2, o3, o4, o5, o6, o7, o8, o9, oa, ob, p3, t1, t2, k0]
  cases n0 : (i.n == 0)
  · simp -implicitDefEqProofs only [eqs, eqd, aCall, Sym.reach, Sym.pos, Sym.sub, lh_some, ↓reduceIte, reduceCtorEq, Nat.reduceEqDiff, Nat.reduceAdd, Nat.reduceSub, Nat.reduceMul, Nat.reduceLT, Nat.reduceLeDiff, Nat.reduceBEq, Nat.reduceBNe, Nat.reduceGT, Int.reduceEq, Int.reduceLT, Int.reduceLE, Int.reduceToNat, Int.reduceAdd, Int.reduceSub, Int.reduceMul, Int.reduceNeg, Int.reduceBEq, Int.reduceBNe, b_fuglemanref12_Right, g_fuglemanref12_Right_0, g_fuglemanref12_Right_1, g_fuglemanref12_Right_2, g_fuglemanref12_Right_3, g_fuglemanref12_Right_4, g_fuglemanref12_Right_5, g_fuglemanref12_Right_6, g_fuglemanref12_Right_7, g_fuglemanref12_Right_8, g_fuglemanref12_Right_9, g_fuglemanref12_Right_10, g_fuglemanref12_Right_11, g_fuglemanref12_Right_12, g_fuglemanref12_Right_13, hr, hw, Ins.c, o1, o2, o3, o4, o5, o6, o7, o8, o9, oa, ob, p3, t1, t2, k0, n0]
  simp -implicitDefEqProofs only [eqs, eqd, aCall, Sym.reach, Sym.pos, Sym.sub, lh_some, ↓reduceIte, reduceCtorEq, Nat.reduceEqDiff, Nat.reduceAdd, Nat.reduceSub, Nat.reduceMul, Nat.reduceLT, Nat.reduceLeDiff, Nat.reduceBEq, Nat.reduceBNe, Nat.reduceGT, Int.reduceEq, Int.reduceLT, Int.reduceLE, Int.reduceToNat, Int.reduceAdd, Int.reduceSub, Int.reduceMul, Int.reduceNeg, Int.reduceBEq, Int.reduceBNe, b_fuglemanref12_Right, g_fuglemanref12_Right_0, g_fuglemanref12_Right_1, g_fuglemanref12_Right_2, g_fuglemanref12_Right_3, g_fuglemanref12_Right_4, g_fuglemanref12_Right_5, g_fuglemanref12_Right_6, g_fuglemanref12_Right_7, g_fuglemanref12_Right_8, g_fuglemanref12_Right_9, g_fuglemanref12_Right_10, g_fuglemanref12_Right_11, g_fuglemanref12_Right_12, g_fuglemanref12_Right_13, hr, hw, Ins.c, o1, o2, o3, o4, o5, o6, o7, o8, o9, oa, ob, p3, t1, t2, k0, n0]
theorem rright_8y (k : Nat) (i : Ins) (hi : i.In) (hcl : cl i.op = 8) (ho : i.op = 36) (p3 : (i.ar == 3) = false) (p4 : (i.ar == 4) = true) : acall T (k + 11) 10 0 [.agg i.c] [] = some ⟨.v (.bool (right i)), [], 1⟩ := by
  rw [acall_go (body := b_fuglemanref12_Right) rfl rfl (Nat.zero_le _)]
  have hr := reads_a (k + 9) i.op
  have hw := writes_a (k + 9) i.op
  have w0 : (decide (3 ≤ i.op) && decide (i.op ≤ 6)) = false := by
    by_cases c1 : 3 ≤ i.op <;> by_cases c2 : i.op ≤ 6 <;> simp [c1, c2]
    omega
  rw [w0] at hw
  rw [rd1_cl, hcl, show ((8 : Int) == 1) = false from rfl] at hr
  unfold right
  rw [hcl]
  simp only [Int.reduceEq, if_true, if_false]
  have o1 : 25 ≤ i.op := by first | omega | (rw [beq_eq_false_iff_ne]; omega) | (rw [beq_iff_eq]; omega)
  have o2 : ¬ i.op ≤ 27 := by first | omega | (rw [beq_eq_false_iff_ne]; omega) | (rw [beq_iff_eq]; omega)
  have o3 : (i.op == 13) = false := by first | omega | (rw [beq_eq_false_iff_ne]; omega) | (rw [beq_iff_eq]; omega)
  have o4 : 28 ≤ i.op := by first | omega | (rw [beq_eq_false_iff_ne]; omega) | (rw [beq_iff_eq]; omega)
  have o5 : ¬ i.op ≤ 30 := by first | omega | (rw [beq_eq_false_iff_ne]; omega) | (rw [beq_iff_eq]; omega)
  have o6 : (i.op == 33) = false := by first | omega | (rw [beq_eq_false_iff_ne]; omega) | (rw [beq_iff_eq]; omega)
  have o7 : (i.op == 31) = false := by first | omega | (rw [beq_eq_false_iff_ne]; omega) | (rw [beq_iff_eq]; omega)
  have o8 : (i.op == 32) = false := by first | omega | (rw [beq_eq_false_iff_ne]; omega) | (rw [beq_iff_eq]; omega)
  have o9 : (i.op == 34) = false := by first | omega | (rw [beq_eq_false_iff_ne]; omega) | (rw [beq_iff_eq]; omega)
  have oa : (i.op == 35) = false := by first | omega | (rw [beq_eq_false_iff_ne]; omega) | (rw [beq_iff_eq]; omega)
  have ob : (i.op == 36) = true := by first | omega | (rw [beq_eq_false_iff_ne]; omega) | (rw [beq_iff_eq]; omega)
  have hlt : decide (i.at_ < 64) = decide (i.at_ ≤ 63) := by rw [decide_eq_decide]; omega
  rw [hlt]
  try simp -implicitDefEqProofs only [eqs, eqd, aCall, Sym.reach, Sym.pos, Sym.sub, lh_some, ↓reduceIte, reduceCtorEq, Nat.reduceEqDiff, Nat.reduceAdd, Nat.reduceSub, Nat.reduceMul, Nat.reduceLT, Nat.reduceLeDiff, Nat.reduceBEq, Nat.reduceBNe, Nat.reduceGT, Int.reduceEq, Int.reduceLT, Int.reduceLE, Int.reduceToNat, Int.reduceAdd, Int.reduceSub, Int.reduceMul, Int.reduceNeg, Int.reduceBEq, Int.reduceBNe, b_fuglemanref12_Right, g_fuglemanref12_Right_0, g_fuglemanref12_Right_1, g_fuglemanref12_Right_2, g_fuglemanref12_Right_3, g_fuglemanref12_Right_4, g_fuglemanref12_Right_5, g_fuglemanref12_Right_6, g_fuglemanref12_Right_7, g_fuglemanref12_Right_8, g_fuglemanref12_Right_9, g_fuglemanref12_Right_10, g_fuglemanref12_Right_11, g_fuglemanref12_Right_12, g_fuglemanref12_Right_13, hr, hw, Ins.c, o1, o2, o3, o4, o5, o6, o7, o8, o9, oa, ob, p3, p4]
  cases t1 : decide (0 ≤ i.at_)
  · simp -implicitDefEqProofs only [eqs, eqd, aCall, Sym.reach, Sym.pos, Sym.sub, lh_some, ↓reduceIte, reduceCtorEq, Nat.reduceEqDiff, Nat.reduceAdd, Nat.reduceSub, Nat.reduceMul, Nat.reduceLT, Nat.reduceLeDiff, Nat.reduceBEq, Nat.reduceBNe, Nat.reduceGT, Int.reduceEq, Int.reduceLT, Int.reduceLE, Int.reduceToNat, Int.reduceAdd, Int.reduceSub, Int.reduceMul, Int.reduceNeg, Int.reduceBEq, Int.reduceBNe, b_fuglemanref12_Right, g_fuglemanref12_Right_0, g_fuglemanref12_Right_1, g_fuglemanref12_Right_2, g_fuglemanref12_Right_3, g_fuglemanref12_Right_4, g_fuglemanref12_Right_5, g_fuglemanref12_Right_6, g_fuglemanref12_Right_7, g_fuglemanref12_Right_8, g_fuglemanref12_Right_9, g_fuglemanref12_Right_10, g_fuglemanref12_Right_11, g_fuglemanref12_Right_12, g_fuglemanref12_Right_13, hr, hw, Ins.c, o1, o2, o3, o4, o5, o6, o7, o8, o9, oa, ob, p3, p4, t1]
  try simp -implicitDefEqProofs only [eqs, eqd, aCall, Sym.reach, Sym.pos, Sym.sub, lh_some, ↓reduceIte, reduceCtorEq, Nat.reduceEqDiff, Nat.reduceAdd, Nat.reduceSub, Nat.reduceMul, Nat.reduceLT, Nat.reduceLeDiff, Nat.reduceBEq, Nat.reduceBNe, Nat.reduceGT, Int.reduceEq, Int.reduceLT, Int.reduceLE, Int.reduceToNat, Int.reduceAdd, Int.reduceSub, Int.reduceMul, Int.reduceNeg, Int.reduceBEq, Int.reduceBNe, b_fuglemanref12_Right, g_fuglemanref12_Right_0, g_fuglemanref12_Right_1, g_fuglemanref12_Right_2, g_fuglemanref12_Right_3, g_fuglemanref12_Right_4, g_fuglemanref12_Right_5, g_fuglemanref12_Right_6, g_fuglemanref12_Right_7, g_fuglemanref12_Right_8, g_fuglemanref12_Right_9, g_fuglemanref12_Right_10, g_fuglemanref12_Right_11, g_fuglemanref12_Right_12, g_fuglemanref12_Right_13, hr, hw, Ins.c, o1, o2, o3, o4, o5, o6, o7, o8, o9, oa, ob, p3, p4, t1]
  cases t2 : decide (i.at_ ≤ 63)
  · simp -implicitDefEqProofs only [eqs, eqd, aCall, Sym.reach, Sym.pos, Sym.sub, lh_some, ↓reduceIte, reduceCtorEq, Nat.reduceEqDiff, Nat.reduceAdd, Nat.reduceSub, Nat.reduceMul, Nat.reduceLT, Nat.reduceLeDiff, Nat.reduceBEq, Nat.reduceBNe, Nat.reduceGT, Int.reduceEq, Int.reduceLT, Int.reduceLE, Int.reduceToNat, Int.reduceAdd, Int.reduceSub, Int.reduceMul, Int.reduceNeg, Int.reduceBEq, Int.reduceBNe, b_fuglemanref12_Right, g_fuglemanref12_Right_0, g_fuglemanref12_Right_1, g_fuglemanref12_Right_2, g_fuglemanref12_Right_3, g_fuglemanref12_Right_4, g_fuglemanref12_Right_5, g_fuglemanref12_Right_6, g_fuglemanref12_Right_7, g_fuglemanref12_Right_8, g_fuglemanref12_Right_9, g_fuglemanref12_Right_10, g_fuglemanref12_Right_11, g_fuglemanref12_Right_12, g_fuglemanref12_Right_13, hr, hw, Ins.c, o1, o2, o3, o4, o5, o6, o7, o8, o9, oa, ob, p3, p4, t1, t2]
  try simp -implicitDefEqProofs only [eqs, eqd, aCall, Sym.reach, Sym.pos, Sym.sub, lh_some, ↓reduceIte, reduceCtorEq, Nat.reduceEqDiff, Nat.reduceAdd, Nat.reduceSub, Nat.reduceMul, Nat.reduceLT, Nat.reduceLeDiff, Nat.reduceBEq, Nat.reduceBNe, Nat.reduceGT, Int.reduceEq, Int.reduceLT, Int.reduceLE, Int.reduceToNat, Int.reduceAdd, Int.reduceSub, Int.reduceMul, Int.reduceNeg, Int.reduceBEq, Int.reduceBNe, b_fuglemanref12_Right, g_fuglemanref12_Right_0, g_fuglemanref12_Right_1, g_fuglemanref12_Right_2, g_fuglemanref12_Right_3, g_fuglemanref12_Right_4, g_fuglemanref12_Right_5, g_fuglemanref12_Right_6, g_fuglemanref12_Right_7, g_fuglemanref12_Right_8, g_fuglemanref12_Right_9, g_fuglemanref12_Right_10, g_fuglemanref12_Right_11, g_fuglemanref12_Right_12, g_fuglemanref12_Right_13, hr, hw, Ins.c, o1, o2, o3, o4, o5, o6, o7, o8, o9, oa, ob, p3, p4, t1, t2]
  cases k0 : (i.k == 0)
  · simp -implicitDefEqProofs only [eqs, eqd, aCall, Sym.reach, Sym.pos, Sym.sub, lh_some, ↓reduceIte, reduceCtorEq, Nat.reduceEqDiff, Nat.reduceAdd, Nat.reduceSub, Nat.reduceMul, Nat.reduceLT, Nat.reduceLeDiff, Nat.reduceBEq, Nat.reduceBNe, Nat.reduceGT, Int.reduceEq, Int.reduceLT, Int.reduceLE, Int.reduceToNat, Int.reduceAdd, Int.reduceSub, Int.reduceMul, Int.reduceNeg, Int.reduceBEq, Int.reduceBNe, b_fuglemanref12_Right, g_fuglemanref12_Right_0, g_fuglemanref12_Right_1, g_fuglemanref12_Right_2, g_fuglemanref12_Right_3, g_fuglemanref12_Right_4, g_fuglemanref12_Right_5, g_fuglemanref12_Right_6, g_fuglemanref12_Right_7, g_fuglemanref12_Right_8, g_fuglemanref12_Right_9, g_fuglemanref12_Right_10, g_fuglemanref12_Right_11, g_fuglemanref12_Right_12, g_fuglemanref12_Right_13, hr, hw, Ins.c, o1, o2, o3, o4, o5, o6, o7, o8, o9, oa, ob, p3, p4, t1, t2, k0]
  try simp -implicitDefEqProofs only [eqs, eqd, aCall, Sym.reach, Sym.pos, Sym.sub, lh_some, ↓reduceIte, reduceCtorEq, Nat.reduceEqDiff, Nat.reduceAdd, Nat.reduceSub, Nat.reduceMul, Nat.reduceLT, Nat.reduceLeDiff, Nat.reduceBEq, Nat.reduceBNe, Nat.reduceGT, Int.reduceEq, Int.reduceLT, Int.reduceLE, Int.reduceToNat, Int.reduceAdd, Int.reduceSub, Int.reduceMul, Int.reduceNeg, Int.reduceBEq, Int.reduceBNe, b_fuglemanref12_Right, g_fuglemanref12_Right_0, g_fuglemanref12_Right_1, g_fuglemanref12_Right_2, g_fuglemanref12_Right_3, g_fuglemanref12_Right_4, g_fuglemanref12_Right_5, g_fuglemanref12_Right_6, g_fuglemanref12_Right_7, g_fuglemanref12_Right_8, g_fuglemanref12_Right_9, g_fuglemanref12_Right_10, g_fuglemanref12_Right_11, g_fuglemanref12_Right_12, g_fuglemanref12_Right_13, hr, hw, Ins.c, o1, o2, o3, o4, o5, o6, o7, o8, o9, oa, ob, p3, p4, t1, t2, k0]
  cases n0 : (i.n == 0)
  · simp -implicitDefEqProofs only [eqs, eqd, aCall, Sym.reach, Sym.pos, Sym.sub, lh_some, ↓reduceIte, reduceCtorEq, Nat.reduceEqDiff, Nat.reduceAdd, Nat.reduceSub, Nat.reduceMul, Nat.reduceLT, Nat.reduceLeDiff, Nat.reduceBEq, Nat.reduceBNe, Nat.reduceGT, Int.reduceEq, Int.reduceLT, Int.reduceLE, Int.reduceToNat, Int.reduceAdd, Int.reduceSub, Int.reduceMul, Int.reduceNeg, Int.reduceBEq, Int.reduceBNe, b_fuglemanref12_Right, g_fuglemanref12_Right_0, g_fuglemanref12_Right_1, g_fuglemanref12_Right_2, g_fuglemanref12_Right_3, g_fuglemanref12_Right_4, g_fuglemanref12_Right_5, g_fuglemanref12_Right_6, g_fuglemanref12_Right_7, g_fuglemanref12_Right_8, g_fuglemanref12_Right_9, g_fuglemanref12_Right_10, g_fuglemanref12_Right_11, g_fuglemanref12_Right_12, g_fuglemanref12_Right_13, hr, hw, Ins.c, o1, o2, o3, o4, o5, o6, o7, o8, o9, oa, ob, p3, p4, t1, t2, k0, n0]
  simp -implicitDefEqProofs only [eqs, eqd, aCall, Sym.reach, Sym.pos, Sym.sub, lh_some, ↓reduceIte, reduceCtorEq, Nat.reduceEqDiff, Nat.reduceAdd, Nat.reduceSub, Nat.reduceMul, Nat.reduceLT, Nat.reduceLeDiff, Nat.reduceBEq, Nat.reduceBNe, Nat.reduceGT, Int.reduceEq, Int.reduceLT, Int.reduceLE, Int.reduceToNat, Int.reduceAdd, Int.reduceSub, Int.reduceMul, Int.reduceNeg, Int.reduceBEq, Int.reduceBNe, b_fuglemanref12_Right, g_fuglemanref12_Right_0, g_fuglemanref12_Right_1, g_fuglemanref12_Right_2, g_fuglemanref12_Right_3, g_fuglemanref12_Right_4, g_fuglemanref12_Right_5, g_fuglemanref12_Right_6, g_fuglemanref12_Right_7, g_fuglemanref12_Right_8, g_fuglemanref12_Right_9, g_fuglemanref12_Right_10, g_fuglemanref12_Right_11, g_fuglemanref12_Right_12, g_fuglemanref12_Right_13, hr, hw, Ins.c, o1, o2, o3, o4, o5, o6, o7, o8, o9, oa, ob, p3, p4, t1, t2, k0, n0]
theorem rright_8z (k : Nat) (i : Ins) (hi : i.In) (hcl : cl i.op = 8) (ho : i.op = 36) (p3 : (i.ar == 3) = false) (p4 : (i.ar == 4) = false) : acall T (k + 11) 10 0 [.agg i.c] [] = some ⟨.v (.bool (right i)), [], 1⟩ := by
  rw [acall_go (body := b_fuglemanref12_Right) rfl rfl (Nat.zero_le _)]
  have hr := reads_a (k + 9) i.op
  have hw := writes_a (k + 9) i.op
  have w0 : (decide (3 ≤ i.op) && decide (i.op ≤ 6)) = false := by
    by_cases c1 : 3 ≤ i.op <;> by_cases c2 : i.op ≤ 6 <;> simp [c1, c2]
    omega
  rw [w0] at hw
  rw [rd1_cl, hcl, show ((8 : Int) == 1) = false from rfl] at hr
  unfold right
  rw [hcl]
  simp only [Int.reduceEq, if_true, if_false]
  have o1 : 25 ≤ i.op := by first | omega | (rw [beq_eq_false_iff_ne]; omega) | (rw [beq_iff_eq]; omega)
  have o2 : ¬ i.op ≤ 27 := by first | omega | (rw [beq_eq_false_iff_ne]; omega) | (rw [beq_iff_eq]; omega)
  have o3 : (i.op == 13) = false := by first | omega | (rw [beq_eq_false_iff_ne]; omega) | (rw [beq_iff_eq]; omega)
  have o4 : 28 ≤ i.op := by first | omega | (rw [beq_eq_false_iff_ne]; omega) | (rw [beq_iff_eq]; omega)
  have o5 : ¬ i.op ≤ 30 := by first | omega | (rw [beq_eq_false_iff_ne]; omega) | (rw [beq_iff_eq]; omega)
  have o6 : (i.op == 33) = false := by first | omega | (rw [beq_eq_false_iff_ne]; omega) | (rw [beq_iff_eq]; omega)
  have o7 : (i.op == 31) = false := by first | omega | (rw [beq_eq_false_iff_ne]; omega) | (rw [beq_iff_eq]; omega)
  have o8 : (i.op == 32) = false := by first | omega | (rw [beq_eq_false_iff_ne]; omega) | (rw [beq_iff_eq]; omega)
  have o9 : (i.op == 34) = false := by first | omega | (rw [beq_eq_false_iff_ne]; omega) | (rw [beq_iff_eq]; omega)
  have oa : (i.op == 35) = false := by first | omega | (rw [beq_eq_false_iff_ne]; omega) | (rw [beq_iff_eq]; omega)
  have ob : (i.op == 36) = true := by first | omega | (rw [beq_eq_false_iff_ne]; omega) | (rw [beq_iff_eq]; omega)
  have hlt : decide (i.at_ < 64) = decide (i.at_ ≤ 63) := by rw [decide_eq_decide]; omega
  rw [hlt]
  simp -implicitDefEqProofs only [eqs, eqd, aCall, Sym.reach, Sym.pos, Sym.sub, lh_some, ↓reduceIte, reduceCtorEq, Nat.reduceEqDiff, Nat.reduceAdd, Nat.reduceSub, Nat.reduceMul, Nat.reduceLT, Nat.reduceLeDiff, Nat.reduceBEq, Nat.reduceBNe, Nat.reduceGT, Int.reduceEq, Int.reduceLT, Int.reduceLE, Int.reduceToNat, Int.reduceAdd, Int.reduceSub, Int.reduceMul, Int.reduceNeg, Int.reduceBEq, Int.reduceBNe, b_fuglemanref12_Right, g_fuglemanref12_Right_0, g_fuglemanref12_Right_1, g_fuglemanref12_Right_2, g_fuglemanref12_Right_3, g_fuglemanref12_Right_4, g_fuglemanref12_Right_5, g_fuglemanref12_Right_6, g_fuglemanref12_Right_7, g_fuglemanref12_Right_8, g_fuglemanref12_Right_9, g_fuglemanref12_Right_10, g_fuglemanref12_Right_11, g_fuglemanref12_Right_12, g_fuglemanref12_Right_13, hr, hw, Ins.c, o1, o2, o3, o4, o5, o6, o7, o8, o9, oa, ob, p3, p4]
theorem rright_7ax (k : Nat) (i : Ins) (hi : i.In) (hcl : cl i.op = 7) (ho : i.op = 34) (p3 : (i.ar == 3) = true) : acall T (k + 11) 10 0 [.agg i.c] [] = some ⟨.v (.bool (right i)), [], 1⟩ := by
  rw [acall_go (body := b_fuglemanref12_Right) rfl rfl (Nat.zero_le _)]
  have hr := reads_a (k + 9) i.op
  have hw := writes_a (k + 9) i.op
  have w0 : (decide (3 ≤ i.op) && decide (i.op ≤ 6)) = false := by
    by_cases c1 : 3 ≤ i.op <;> by_cases c2 : i.op ≤ 6 <;> simp [c1, c2]
    omega
  rw [w0] at hw
  rw [rd1_cl, hcl, show ((7 : Int) == 1) = false from rfl] at hr
  unfold right
  rw [hcl]
  simp only [Int.reduceEq, if_true, if_false]
  have o1 : 25 ≤ i.op := by first | omega | (rw [beq_eq_false_iff_ne]; omega) | (rw [beq_iff_eq]; omega)
  have o2 : ¬ i.op ≤ 27 := by first | omega | (rw [beq_eq_false_iff_ne]; omega) | (rw [beq_iff_eq]; omega)
  have o3 : (i.op == 13) = false := by first | omega | (rw [beq_eq_false_iff_ne]; omega) | (rw [beq_iff_eq]; omega)
  have o4 : 28 ≤ i.op := by first | omega | (rw [beq_eq_false_iff_ne]; omega) | (rw [beq_iff_eq]; omega)
  have o5 : ¬ i.op ≤ 30 := by first | omega | (rw [beq_eq_false_iff_ne]; omega) | (rw [beq_iff_eq]; omega)
  have o6 : (i.op == 33) = false := by first | omega | (rw [beq_eq_false_iff_ne]; omega) | (rw [beq_iff_eq]; omega)
  have o7 : (i.op == 31) = false := by first | omega | (rw [beq_eq_false_iff_ne]; omega) | (rw [beq_iff_eq]; omega)
  have o8 : (i.op == 32) = false := by first | omega | (rw [beq_eq_false_iff_ne]; omega) | (rw [beq_iff_eq]; omega)
  have o9 : (i.op == 34) = true := by first | omega | (rw [beq_eq_false_iff_ne]; omega) | (rw [beq_iff_eq]; omega)
  try simp -implicitDefEqProofs only [eqs, eqd, aCall, Sym.reach, Sym.pos, Sym.sub, lh_some, ↓reduceIte, reduceCtorEq, Nat.reduceEqDiff, Nat.reduceAdd, Nat.reduceSub, Nat.reduceMul, Nat.reduceLT, Nat.reduceLeDiff, Nat.reduceBEq, Nat.reduceBNe, Nat.reduceGT, Int.reduceEq, Int.reduceLT, Int.reduceLE, Int.reduceToNat, Int.reduceAdd, Int.reduceSub, Int.reduceMul, Int.reduceNeg, Int.reduceBEq, Int.reduceBNe, b_fuglemanref12_Right, g_fuglemanref12_Right_0, g_fuglemanref12_Right_1, g_fuglemanref12_Right_2, g_fuglemanref12_Right_3, g_fuglemanref12_Right_4, g_fuglemanref12_Right_5, g_fuglemanref12_Right_6, g_fuglemanref12_Right_7, g_fuglemanref12_Right_8, g_fuglemanref12_Right_9, g_fuglemanref12_Right_10, g_fuglemanref12_Right_11, g_fuglemanref12_Right_12, g_fuglemanref12_Right_13, hr, hw, Ins.c, o1, o2, o3, o4, o5, o6, o7, o8, o9, p3]
  cases t1 : decide (0 ≤ i.at_)
  · simp -implicitDefEqProofs only [eqs, eqd, aCall, Sym.reach, Sym.pos, Sym.sub, lh_some, ↓reduceIte, reduceCtorEq, Nat.reduceEqDiff, Nat.reduceAdd, Nat.reduceSub, Nat.reduceMul, Nat.reduceLT, Nat.reduceLeDiff, Nat.reduceBEq, Nat.reduceBNe, Nat.reduceGT, Int.reduceEq, Int.reduceLT, Int.reduceLE, Int.reduceToNat, Int.reduceAdd, Int.reduceSub, Int.reduceMul, Int.reduceNeg, Int.reduceBEq, Int.reduceBNe, b_fuglemanref12_Right, g_fuglemanref12_Right_0, g_fuglemanref12_Right_1, g_fuglemanref12_Right_2, g_fuglemanref12_Right_3, g_fuglemanref12_Right_4, g_fuglemanref12_Right_5, g_fuglemanref12_Right_6, g_fuglemanref12_Right_7, g_fuglemanref12_Right_8, g_fuglemanref12_Right_9, g_fuglemanref12_Right_10, g_fuglemanref12_Right_11, g_fuglemanref12_Right_12, g_fuglemanref12_Right_13, hr, hw, Ins.c, o1, o2, o3, o4, o5, o6, o7, o8, o9, p3, t1]
  try simp -implicitDefEqProofs only [eqs, eqd, aCall, Sym.reach, Sym.pos, Sym.sub, lh_some, ↓reduceIte, reduceCtorEq, Nat.reduceEqDiff, Nat.reduceAdd, Nat.reduceSub, Nat.reduceMul, Nat.reduceLT, Nat.reduceLeDiff, Nat.reduceBEq, Nat.reduceBNe, Nat.reduceGT, Int.reduceEq, Int.reduceLT, Int.reduceLE, Int.reduceToNat, Int.reduceAdd, Int.reduceSub, Int.reduceMul, Int.reduceNeg, Int.reduceBEq, Int.reduceBNe, b_fuglemanref12_Right, g_fuglemanref12_Right_0, g_fuglemanref12_Right_1, g_fuglemanref12_Right_2, g_fuglemanref12_Right_3, g_fuglemanref12_Right_4, g_fuglemanref12_Right_5, g_fuglemanref12_Right_6, g_fuglemanref12_Right_7, g_fuglemanref12_Right_8, g_fuglemanref12_Right_9, g_fuglemanref12_Right_10, g_fuglemanref12_Right_11, g_fuglemanref12_Right_12, g_fuglemanref12_Right_13, hr, hw, Ins.c, o1, o2, o3, o4, o5, o6, o7, o8, o9, p3, t1]
  cases t2 : decide (i.at_ ≤ 59)
  · simp -implicitDefEqProofs only [eqs, eqd, aCall, Sym.reach, Sym.pos, Sym.sub, lh_some, ↓reduceIte, reduceCtorEq, Nat.reduceEqDiff, Nat.reduceAdd, Nat.reduceSub, Nat.reduceMul, Nat.reduceLT, Nat.reduceLeDiff, Nat.reduceBEq, Nat.reduceBNe, Nat.reduceGT, Int.reduceEq, Int.reduceLT, Int.reduceLE, Int.reduceToNat, Int.reduceAdd, Int.reduceSub, Int.reduceMul, Int.reduceNeg, Int.reduceBEq, Int.reduceBNe, b_fuglemanref12_Right, g_fuglemanref12_Right_0, g_fuglemanref12_Right_1, g_fuglemanref12_Right_2, g_fuglemanref12_Right_3, g_fuglemanref12_Right_4, g_fuglemanref12_Right_5, g_fuglemanref12_Right_6, g_fuglemanref12_Right_7, g_fuglemanref12_Right_8, g_fuglemanref12_Right_9, g_fuglemanref12_Right_10, g_fuglemanref12_Right_11, g_fuglemanref12_Right_12, g_fuglemanref12_Right_13, hr, hw, Ins.c, o1, o2, o3, o4, o5, o6, o7, o8, o9, p3, t1, t2]
  try simp -implicitDefEqProofs only [eqs, eqd, aCall, Sym.reach, Sym.pos, Sym.sub, lh_some, ↓reduceIte, reduceCtorEq, Nat.reduceEqDiff, Nat.reduceAdd, Nat.reduceSub, Nat.reduceMul, Nat.reduceLT, Nat.reduceLeDiff, Nat.reduceBEq, Nat.reduceBNe, Nat.reduceGT, Int.reduceEq, Int.reduceLT, Int.reduceLE, Int.reduceToNat, Int.reduceAdd, Int.reduceSub, Int.reduceMul, Int.reduceNeg, Int.reduceBEq, Int.reduceBNe, b_fuglemanref12_Right, g_fuglemanref12_Right_0, g_fuglemanref12_Right_1, g_fuglemanref12_Right_2, g_fuglemanref12_Right_3, g_fuglemanref12_Right_4, g_fuglemanref12_Right_5, g_fuglemanref12_Right_6, g_fuglemanref12_Right_7, g_fuglemanref12_Right_8, g_fuglemanref12_Right_9, g_fuglemanref12_Right_10, g_fuglemanref12_Right_11, g_fuglemanref12_Right_12, g_fuglemanref12_Right_13, hr, hw, Ins.c, o1, o2, o3, o4, o5, o6, o7, o8, o9, p3, t1, t2]
  cases n1 : decide (1 ≤ i.n)
  · simp -implicitDefEqProofs only [eqs, eqd, aCall, Sym.reach, Sym.pos, Sym.sub, lh_some, ↓reduceIte, reduceCtorEq, Nat.reduceEqDiff, Nat.reduceAdd, Nat.reduceSub, Nat.reduceMul, Nat.reduceLT, Nat.reduceLeDiff, Nat.reduceBEq, Nat.reduceBNe, Nat.reduceGT, Int.reduceEq, Int.reduceLT, Int.reduceLE, Int.reduceToNat, Int.reduceAdd, Int.reduceSub, Int.reduceMul, Int.reduceNeg, Int.reduceBEq, Int.reduceBNe, b_fuglemanref12_Right, g_fuglemanref12_Right_0, g_fuglemanref12_Right_1, g_fuglemanref12_Right_2, g_fuglemanref12_Right_3, g_fuglemanref12_Right_4, g_fuglemanref12_Right_5, g_fuglemanref12_Right_6, g_fuglemanref12_Right_7, g_fuglemanref12_Right_8, g_fuglemanref12_Right_9, g_fuglemanref12_Right_10, g_fuglemanref12_Right_11, g_fuglemanref12_Right_12, g_fuglemanref12_Right_13, hr, hw, Ins.c, o1, o2, o3, o4, o5, o6, o7, o8, o9, p3, t1, t2, n1]
  try simp -implicitDefEqProofs only [eqs, eqd, aCall, Sym.reach, Sym.pos, Sym.sub, lh_some, ↓reduceIte, reduceCtorEq, Nat.reduceEqDiff, Nat.reduceAdd, Nat.reduceSub, Nat.reduceMul, Nat.reduceLT, Nat.reduceLeDiff, Nat.reduceBEq, Nat.reduceBNe, Nat.reduceGT, Int.reduceEq, Int.reduceLT, Int.reduceLE, Int.reduceToNat, Int.reduceAdd, Int.reduceSub, Int.reduceMul, Int.reduceNeg, Int.reduceBEq, Int.reduceBNe, b_fuglemanref12_Right, g_fuglemanref12_Right_0, g_fuglemanref12_Right_1, g_fuglemanref12_Right_2, g_fuglemanref12_Right_3, g_fuglemanref12_Right_4, g_fuglemanref12_Right_5, g_fuglemanref12_Right_6, g_fuglemanref12_Right_7, g_fuglemanref12_Right_8, g_fuglemanref12_Right_9, g_fuglemanref12_Right_10, g_fuglemanref12_Right_11, g_fuglemanref12_Right_12, g_fuglemanref12_Right_13, hr, hw, Ins.c, o1, o2, o3, o4, o5, o6, o7, o8, o9, p3, t1, t2, n1]
  cases n2 : decide (i.n ≤ 9999)
  · simp -implicitDefEqProofs only [eqs, eqd, aCall, Sym.reach, Sym.pos, Sym.sub, lh_some, ↓reduceIte, reduceCtorEq, Nat.reduceEqDiff, Nat.reduceAdd, Nat.reduceSub, Nat.reduceMul, Nat.reduceLT, Nat.reduceLeDiff, Nat.reduceBEq, Nat.reduceBNe, Nat.reduceGT, Int.reduceEq, Int.reduceLT, Int.reduceLE, Int.reduceToNat, Int.reduceAdd, Int.reduceSub, Int.reduceMul, Int.reduceNeg, Int.reduceBEq, Int.reduceBNe, b_fuglemanref12_Right, g_fuglemanref12_Right_0, g_fuglemanref12_Right_1, g_fuglemanref12_Right_2, g_fuglemanref12_Right_3, g_fuglemanref12_Right_4, g_fuglemanref12_Right_5, g_fuglemanref12_Right_6, g_fuglemanref12_Right_7, g_fuglemanref12_Right_8, g_fuglemanref12_Right_9, g_fuglemanref12_Right_10, g_fuglemanref12_Right_11, g_fuglemanref12_Right_12, g_fuglemanref12_Right_13, hr, hw, Ins.c, o1, o2, o3, o4, o5, o6, o7, o8, o9, p3, t1, t2, n1, n2]
  try simp -implicitDefEqProofs only [eqs, eqd, aCall, Sym.reach, Sym.pos, Sym.sub, lh_some, ↓reduceIte, reduceCtorEq, Nat.reduceEqDiff, Nat.reduceAdd, Nat.reduceSub, Nat.reduceMul, Nat.reduceLT, Nat.reduceLeDiff, Nat.reduceBEq, Nat.reduceBNe, Nat.reduceGT, Int.reduceEq, Int.reduceLT, Int.reduceLE, Int.reduceToNat, Int.reduceAdd, Int.reduceSub, Int.reduceMul, Int.reduceNeg, Int.reduceBEq, Int.reduceBNe, b_fuglemanref12_Right, g_fuglemanref12_Right_0, g_fuglemanref12_Right_1, g_fuglemanref12_Right_2, g_fuglemanref12_Right_3, g_fuglemanref12_Right_4, g_fuglemanref12_Right_5, g_fuglemanref12_Right_6, g_fuglemanref12_Right_7, g_fuglemanref12_Right_8, g_fuglemanref12_Right_9, g_fuglemanref12_Right_10, g_fuglemanref12_Right_11, g_fuglemanref12_Right_12, g_fuglemanref12_Right_13, hr, hw, Ins.c, o1, o2, o3, o4, o5, o6, o7, o8, o9, p3, t1, t2, n1, n2]
  cases k0 : (i.k == 0)
  · simp -implicitDefEqProofs only [eqs, eqd, aCall, Sym.reach, Sym.pos, Sym.sub, lh_some, ↓reduceIte, reduceCtorEq, Nat.reduceEqDiff, Nat.reduceAdd, Nat.reduceSub, Nat.reduceMul, Nat.reduceLT, Nat.reduceLeDiff, Nat.reduceBEq, Nat.reduceBNe, Nat.reduceGT, Int.reduceEq, Int.reduceLT, Int.reduceLE, Int.reduceToNat, Int.reduceAdd, Int.reduceSub, Int.reduceMul, Int.reduceNeg, Int.reduceBEq, Int.reduceBNe, b_fuglemanref12_Right, g_fuglemanref12_Right_0, g_fuglemanref12_Right_1, g_fuglemanref12_Right_2, g_fuglemanref12_Right_3, g_fuglemanref12_Right_4, g_fuglemanref12_Right_5, g_fuglemanref12_Right_6, g_fuglemanref12_Right_7, g_fuglemanref12_Right_8, g_fuglemanref12_Right_9, g_fuglemanref12_Right_10, g_fuglemanref12_Right_11, g_fuglemanref12_Right_12, g_fuglemanref12_Right_13, hr, hw, Ins.c, o1, o2, o3, o4, o5, o6, o7, o8, o9, p3, t1, t2, n1, n2, k0]
  simp -implicitDefEqProofs only [eqs, eqd, aCall, Sym.reach, Sym.pos, Sym.sub, lh_some, ↓reduceIte, reduceCtorEq, Nat.reduceEqDiff, Nat.reduceAdd, Nat.reduceSub, Nat.reduceMul, Nat.reduceLT, Nat.reduceLeDiff, Nat.reduceBEq, Nat.reduceBNe, Nat.reduceGT, Int.reduceEq, Int.reduceLT, Int.reduceLE, Int.reduceToNat, Int.reduceAdd, Int.reduceSub, Int.reduceMul, Int.reduceNeg, Int.reduceBEq, Int.reduceBNe, b_fuglemanref12_Right, g_fuglemanref12_Right_0, g_fuglemanref12_Right_1, g_fuglemanref12_Right_2, g_fuglemanref12_Right_3, g_fuglemanref12_Right_4, g_fuglemanref12_Right_5, g_fuglemanref12_Right_6, g_fuglemanref12_Right_7, g_fuglemanref12_Right_8, g_fuglemanref12_Right_9, g_fuglemanref12_Right_10, g_fuglemanref12_Right_11, g_fuglemanref12_Right_12, g_fuglemanref12_Right_13, hr, hw, Ins.c, o1, o2, o3, o4, o5, o6, o7, o8, o9, p3, t1, t2, n1, n2, k0]
theorem rright_7ay (k : Nat) (i : Ins) (hi : i.In) (hcl : cl i.op = 7) (ho : i.op = 34) (p3 : (i.ar == 3) = false) (p4 : (i.ar == 4) = true) : acall T (k + 11) 10 0 [.agg i.c] [] = some ⟨.v (.bool (right i)), [], 1⟩ := by
  rw [acall_go (body := b_fuglemanref12_Right) rfl rfl (Nat.zero_le _)]
  have hr := reads_a (k + 9) i.op
  have hw := writes_a (k + 9) i.op
  have w0 : (decide (3 ≤ i.op) && decide (i.op ≤ 6)) = false := by
    by_cases c1 : 3 ≤ i.op <;> by_cases c2 : i.op ≤ 6 <;> simp [c1, c2]
    omega
  rw [w0] at hw
  rw [rd1_cl, hcl, show ((7 : Int) == 1) = false from rfl] at hr
  unfold right
  rw [hcl]
  simp only [Int.reduceEq, if_true, if_false]
  have o1 : 25 ≤ i.op := by first | omega | (rw [beq_eq_false_iff_ne]; omega) | (rw [beq_iff_eq]; omega)
  have o2 : ¬ i.op ≤ 27 := by first | omega | (rw [beq_eq_false_iff_ne]; omega) | (rw [beq_iff_eq]; omega)
  have o3 : (i.op == 13) = false := by first | omega | (rw [beq_eq_false_iff_ne]; omega) | (rw [beq_iff_eq]; omega)
  have o4 : 28 ≤ i.op := by first | omega | (rw [beq_eq_false_iff_ne]; omega) | (rw [beq_iff_eq]; omega)
  have o5 : ¬ i.op ≤ 30 := by first | omega | (rw [beq_eq_false_iff_ne]; omega) | (rw [beq_iff_eq]; omega)
  have o6 : (i.op == 33) = false := by first | omega | (rw [beq_eq_false_iff_ne]; omega) | (rw [beq_iff_eq]; omega)
  have o7 : (i.op == 31) = false := by first | omega | (rw [beq_eq_false_iff_ne]; omega) | (rw [beq_iff_eq]; omega)
  have o8 : (i.op == 32) = false := by first | omega | (rw [beq_eq_false_iff_ne]; omega) | (rw [beq_iff_eq]; omega)
  have o9 : (i.op == 34) = true := by first | omega | (rw [beq_eq_false_iff_ne]; omega) | (rw [beq_iff_eq]; omega)
  try simp -implicitDefEqProofs only [eqs, eqd, aCall, Sym.reach, Sym.pos, Sym.sub, lh_some, ↓reduceIte, reduceCtorEq, Nat.reduceEqDiff, Nat.reduceAdd, Nat.reduceSub, Nat.reduceMul, Nat.reduceLT, Nat.reduceLeDiff, Nat.reduceBEq, Nat.reduceBNe, Nat.reduceGT, Int.reduceEq, Int.reduceLT, Int.reduceLE, Int.reduceToNat, Int.reduceAdd, Int.reduceSub, Int.reduceMul, Int.reduceNeg, Int.reduceBEq, Int.reduceBNe, b_fuglemanref12_Right, g_fuglemanref12_Right_0, g_fuglemanref12_Right_1, g_fuglemanref12_Right_2, g_fuglemanref12_Right_3, g_fuglemanref12_Right_4, g_fuglemanref12_Right_5, g_fuglemanref12_Right_6, g_fuglemanref12_Right_7, g_fuglemanref12_Right_8, g_fuglemanref12_Right_9, g_fuglemanref12_Right_10, g_fuglemanref12_Right_11, g_fuglemanref12_Right_12, g_fuglemanref12_Right_13, hr, hw, Ins.c, o1, o2, o3, o4, o5, o6, o7, o8, o9, p3, p4]
  cases t1 : decide (0 ≤ i.at_)
  · simp -implicitDefEqProofs only [eqs, eqd, aCall, Sym.reach, Sym.pos, Sym.sub, lh_some, ↓reduceIte, reduceCtorEq, Nat.reduceEqDiff, Nat.reduceAdd, Nat.reduceSub, Nat.reduceMul, Nat.reduceLT, Nat.reduceLeDiff, Nat.reduceBEq, Nat.reduceBNe, Nat.reduceGT, Int.reduceEq, Int.reduceLT, Int.reduceLE, Int.reduceToNat, Int.reduceAdd, Int.reduceSub, Int.reduceMul, Int.reduceNeg, Int.reduceBEq, Int.reduceBNe, b_fuglemanref12_Right, g_fuglemanref12_Right_0, g_fuglemanref12_Right_1, g_fuglemanref12_Right_2, g_fuglemanref12_Right_3, g_fuglemanref12_Right_4, g_fuglemanref12_Right_5, g_fuglemanref12_Right_6, g_fuglemanref12_Right_7, g_fuglemanref12_Right_8, g_fuglemanref12_Right_9, g_fuglemanref12_Right_10, g_fuglemanref12_Right_11, g_fuglemanref12_Right_12, g_fuglemanref12_Right_13, hr, hw, Ins.c, o1, o2, o3, o4, o5, o6, o7, o8, o9, p3, p4, t1]
  try simp -implicitDefEqProofs only [eqs, eqd, aCall, Sym.reach, Sym.pos, Sym.sub, lh_some, ↓reduceIte, reduceCtorEq, Nat.reduceEqDiff, Nat.reduceAdd, Nat.reduceSub, Nat.reduceMul, Nat.reduceLT, Nat.reduceLeDiff, Nat.reduceBEq, Nat.reduceBNe, Nat.reduceGT, Int.reduceEq, Int.reduceLT, Int.reduceLE, Int.reduceToNat, Int.reduceAdd, Int.reduceSub, Int.reduceMul, Int.reduceNeg, Int.reduceBEq, Int.reduceBNe, b_fuglemanref12_Right, g_fuglemanref12_Right_0, g_fuglemanref12_Right_1, g_fuglemanref12_Right_2, g_fuglemanref12_Right_3, g_fuglemanref12_Right_4, g_fuglemanref12_Right_5, g_fuglemanref12_Right_6, g_fuglemanref12_Right_7, g_fuglemanref12_Right_8, g_fuglemanref12_Right_9, g_fuglemanref12_Right_10, g_fuglemanref12_Right_11, g_fuglemanref12_Right_12, g_fuglemanref12_Right_13, hr, hw, Ins.c, o1, o2, o3, o4, o5, o6, o7, o8, o9, p3, p4, t1]
  cases t2 : decide (i.at_ ≤ 59)
  · simp -implicitDefEqProofs only [eqs, eqd, aCall, Sym.reach, Sym.pos, Sym.sub, lh_some, ↓reduceIte, reduceCtorEq, Nat.reduceEqDiff, Nat.reduceAdd, Nat.reduceSub, Nat.reduceMul, Nat.reduceLT, Nat.reduceLeDiff, Nat.reduceBEq, Nat.reduceBNe, Nat.reduceGT, Int.reduceEq, Int.reduceLT, Int.reduceLE, Int.reduceToNat, Int.reduceAdd, Int.reduceSub, Int.reduceMul, Int.reduceNeg, Int.reduceBEq, Int.reduceBNe, b_fuglemanref12_Right, g_fuglemanref12_Right_0, g_fuglemanref12_Right_1, g_fuglemanref12_Right_2, g_fuglemanref12_Right_3, g_fuglemanref12_Right_4, g_fuglemanref12_Right_5, g_fuglemanref12_Right_6, g_fuglemanref12_Right_7, g_fuglemanref12_Right_8, g_fuglemanref12_Right_9, g_fuglemanref12_Right_10, g_fuglemanref12_Right_11, g_fuglemanref12_Right_12, g_fuglemanref12_Right_13, hr, hw, Ins.c, o1, o2, o3, o4, o5, o6, o7, o8, o9, p3, p4, t1, t2]
  try simp -implicitDefEqProofs only [eqs, eqd, aCall, Sym.reach, Sym.pos, Sym.sub, lh_some, ↓reduceIte, reduceCtorEq, Nat.reduceEqDiff, Nat.reduceAdd, Nat.reduceSub, Nat.reduceMul, Nat.reduceLT, Nat.reduceLeDiff, Nat.reduceBEq, Nat.reduceBNe, Nat.reduceGT, Int.reduceEq, Int.reduceLT, Int.reduceLE, Int.reduceToNat, Int.reduceAdd, Int.reduceSub, Int.reduceMul, Int.reduceNeg, Int.reduceBEq, Int.reduceBNe, b_fuglemanref12_Right, g_fuglemanref12_Right_0, g_fuglemanref12_Right_1, g_fuglemanref12_Right_2, g_fuglemanref12_Right_3, g_fuglemanref12_Right_4, g_fuglemanref12_Right_5, g_fuglemanref12_Right_6, g_fuglemanref12_Right_7, g_fuglemanref12_Right_8, g_fuglemanref12_Right_9, g_fuglemanref12_Right_10, g_fuglemanref12_Right_11, g_fuglemanref12_Right_12, g_fuglemanref12_Right_13, hr, hw, Ins.c, o1, o2, o3, o4, o5, o6, o7, o8, o9, p3, p4, t1, t2]
  cases n1 : decide (1 ≤ i.n)
  · simp -implicitDefEqProofs only [eqs, eqd, aCall, Sym.reach, Sym.pos, Sym.sub, lh_some, ↓reduceIte, reduceCtorEq, Nat.reduceEqDiff, Nat.reduceAdd, Nat.reduceSub, Nat.reduceMul, Nat.reduceLT, Nat.reduceLeDiff, Nat.reduceBEq, Nat.reduceBNe, Nat.reduceGT, Int.reduceEq, Int.reduceLT, Int.reduceLE, Int.reduceToNat, Int.reduceAdd, Int.reduceSub, Int.reduceMul, Int.reduceNeg, Int.reduceBEq, Int.reduceBNe, b_fuglemanref12_Right, g_fuglemanref12_Right_0, g_fuglemanref12_Right_1, g_fuglemanref12_Right_2, g_fuglemanref12_Right_3, g_fuglemanref12_Right_4, g_fuglemanref12_Right_5, g_fuglemanref12_Right_6, g_fuglemanref12_Right_7, g_fuglemanref12_Right_8, g_fuglemanref12_Right_9, g_fuglemanref12_Right_10, g_fuglemanref12_Right_11, g_fuglemanref12_Right_12, g_fuglemanref12_Right_13, hr, hw, Ins.c, o1, o2, o3, o4, o5, o6, o7, o8, o9, p3, p4, t1, t2, n1]
  try simp -implicitDefEqProofs only [eqs, eqd, aCall, Sym.reach, Sym.pos, Sym.sub, lh_some, ↓reduceIte, reduceCtorEq, Nat.reduceEqDiff, Nat.reduceAdd, Nat.reduceSub, Nat.reduceMul, Nat.reduceLT, Nat.reduceLeDiff, Nat.reduceBEq, Nat.reduceBNe, Nat.reduceGT, Int.reduceEq, Int.reduceLT, Int.reduceLE, Int.reduceToNat, Int.reduceAdd, Int.reduceSub, Int.reduceMul, Int.reduceNeg, Int.reduceBEq, Int.reduceBNe, b_fuglemanref12_Right, g_fuglemanref12_Right_0, g_fuglemanref12_Right_1, g_fuglemanref12_Right_2, g_fuglemanref12_Right_3, g_fuglemanref12_Right_4, g_fuglemanref12_Right_5, g_fuglemanref12_Right_6, g_fuglemanref12_Right_7, g_fuglemanref12_Right_8, g_fuglemanref12_Right_9, g_fuglemanref12_Right_10, g_fuglemanref12_Right_11, g_fuglemanref12_Right_12, g_fuglemanref12_Right_13, hr, hw, Ins.c, o1, o2, o3, o4, o5, o6, o7, o8, o9, p3, p4, t1, t2, n1]
  cases n2 : decide (i.n ≤ 9999)
  · simp -implicitDefEqProofs only [eqs, eqd, aCall, Sym.reach, Sym.pos, Sym.sub, lh_some, ↓reduceIte, reduceCtorEq, Nat.reduceEqDiff, Nat.reduceAdd, Nat.reduceSub, Nat.reduceMul, Nat.reduceLT, Nat.reduceLeDiff, Nat.reduceBEq, Nat.reduceBNe, Nat.reduceGT, Int.reduceEq, Int.reduceLT, Int.reduceLE, Int.reduceToNat, Int.reduceAdd, Int.reduceSub, Int.reduceMul, Int.reduceNeg, Int.reduceBEq, Int.reduceBNe, b_fuglemanref12_Right, g_fuglemanref12_Right_0, g_fuglemanref12_Right_1, g_fuglemanref12_Right_2, g_fuglemanref12_Right_3, g_fuglemanref12_Right_4, g_fuglemanref12_Right_5, g_fuglemanref12_Right_6, g_fuglemanref12_Right_7, g_fuglemanref12_Right_8, g_fuglemanref12_Right_9, g_fuglemanref12_Right_10, g_fuglemanref12_Right_11, g_fuglemanref12_Right_12, g_fuglemanref12_Right_13, hr, hw, Ins.c, o1, o2, o3, o4, o5, o6, o7, o8, o9, p3, p4, t1, t2, n1, n2]
  try simp -implicitDefEqProofs only [eqs, eqd, aCall, Sym.reach, Sym.pos, Sym.sub, lh_some, ↓reduceIte, reduceCtorEq, Nat.reduceEqDiff, Nat.reduceAdd, Nat.reduceSub, Nat.reduceMul, Nat.reduceLT, Nat.reduceLeDiff, Nat.reduceBEq, Nat.reduceBNe, Nat.reduceGT, Int.reduceEq, Int.reduceLT, Int.reduceLE, Int.reduceToNat, Int.reduceAdd, Int.reduceSub, Int.reduceMul, Int.reduceNeg, Int.reduceBEq, Int.reduceBNe, b_fuglemanref12_Right, g_fuglemanref12_Right_0, g_fuglemanref12_Right_1, g_fuglemanref12_Right_2, g_fuglemanref12_Right_3, g_fuglemanref12_Right_4, g_fuglemanref12_Right_5, g_fuglemanref12_Right_6, g_fuglemanref12_Right_7, g_fuglemanref12_Right_8, g_fuglemanref12_Right_9, g_fuglemanref12_Right_10, g_fuglemanref12_Right_11, g_fuglemanref12_Right_12, g_fuglemanref12_Right_13, hr, hw, Ins.c, o1, o2, o3, o4, o5, o6, o7, o8, o9, p3, p4, t1, t2, n1, n2]
  cases k0 : (i.k == 0)
  · simp -implicitDefEqProofs only [eqs, eqd, aCall, Sym.reach, Sym.pos, Sym.sub, lh_some, ↓reduceIte, reduceCtorEq, Nat.reduceEqDiff, Nat.reduceAdd, Nat.reduceSub, Nat.reduceMul, Nat.reduceLT, Nat.reduceLeDiff, Nat.reduceBEq, Nat.reduceBNe, Nat.reduceGT, Int.reduceEq, Int.reduceLT, Int.reduceLE, Int.reduceToNat, Int.reduceAdd, Int.reduceSub, Int.reduceMul, Int.reduceNeg, Int.reduceBEq, Int.reduceBNe, b_fuglemanref12_Right, g_fuglemanref12_Right_0, g_fuglemanref12_Right_1, g_fuglemanref12_Right_2, g_fuglemanref12_Right_3, g_fuglemanref12_Right_4, g_fuglemanref12_Right_5, g_fuglemanref12_Right_6, g_fuglemanref12_Right_7, g_fuglemanref12_Right_8, g_fuglemanref12_Right_9, g_fuglemanref12_Right_10, g_fuglemanref12_Right_11, g_fuglemanref12_Right_12, g_fuglemanref12_Right_13, hr, hw, Ins.c, o1, o2, o3, o4, o5, o6, o7, o8, o9, p3, p4, t1, t2, n1, n2, k0]
  simp -implicitDefEqProofs only [eqs, eqd, aCall, Sym.reach, Sym.pos, Sym.sub, lh_some, ↓reduceIte, reduceCtorEq, Nat.reduceEqDiff, Nat.reduceAdd, Nat.reduceSub, Nat.reduceMul, Nat.reduceLT, Nat.reduceLeDiff, Nat.reduceBEq, Nat.reduceBNe, Nat.reduceGT, Int.reduceEq, Int.reduceLT, Int.reduceLE, Int.reduceToNat, Int.reduceAdd, Int.reduceSub, Int.reduceMul, Int.reduceNeg, Int.reduceBEq, Int.reduceBNe, b_fuglemanref12_Right, g_fuglemanref12_Right_0, g_fuglemanref12_Right_1, g_fuglemanref12_Right_2, g_fuglemanref12_Right_3, g_fuglemanref12_Right_4, g_fuglemanref12_Right_5, g_fuglemanref12_Right_6, g_fuglemanref12_Right_7, g_fuglemanref12_Right_8, g_fuglemanref12_Right_9, g_fuglemanref12_Right_10, g_fuglemanref12_Right_11, g_fuglemanref12_Right_12, g_fuglemanref12_Right_13, hr, hw, Ins.c, o1, o2, o3, o4, o5, o6, o7, o8, o9, p3, p4, t1, t2, n1, n2, k0]
theorem rright_7az (k : Nat) (i : Ins) (hi : i.In) (hcl : cl i.op = 7) (ho : i.op = 34) (p3 : (i.ar == 3) = false) (p4 : (i.ar == 4) = false) : acall T (k + 11) 10 0 [.agg i.c] [] = some ⟨.v (.bool (right i)), [], 1⟩ := by
  rw [acall_go (body := b_fuglemanref12_Right) rfl rfl (Nat.zero_le _)]
  have hr := reads_a (k + 9) i.op
  have hw := writes_a (k + 9) i.op
  have w0 : (decide (3 ≤ i.op) && decide (i.op ≤ 6)) = false := by
    by_cases c1 : 3 ≤ i.op <;> by_cases c2 : i.op ≤ 6 <;> simp [c1, c2]
    omega
  rw [w0] at hw
  rw [rd1_cl, hcl, show ((7 : Int) == 1) = false from rfl] at hr
  unfold right
  rw [hcl]
  simp only [Int.reduceEq, if_true, if_false]
  have o1 : 25 ≤ i.op := by first | omega | (rw [beq_eq_false_iff_ne]; omega) | (rw [beq_iff_eq]; omega)
  have o2 : ¬ i.op ≤ 27 := by first | omega | (rw [beq_eq_false_iff_ne]; omega) | (rw [beq_iff_eq]; omega)
  have o3 : (i.op == 13) = false := by first | omega | (rw [beq_eq_false_iff_ne]; omega) | (rw [beq_iff_eq]; omega)
  have o4 : 28 ≤ i.op := by first | omega | (rw [beq_eq_false_iff_ne]; omega) | (rw [beq_iff_eq]; omega)
  have o5 : ¬ i.op ≤ 30 := by first | omega | (rw [beq_eq_false_iff_ne]; omega) | (rw [beq_iff_eq]; omega)
  have o6 : (i.op == 33) = false := by first | omega | (rw [beq_eq_false_iff_ne]; omega) | (rw [beq_iff_eq]; omega)
  have o7 : (i.op == 31) = false := by first | omega | (rw [beq_eq_false_iff_ne]; omega) | (rw [beq_iff_eq]; omega)
  have o8 : (i.op == 32) = false := by first | omega | (rw [beq_eq_false_iff_ne]; omega) | (rw [beq_iff_eq]; omega)
  have o9 : (i.op == 34) = true := by first | omega | (rw [beq_eq_false_iff_ne]; omega) | (rw [beq_iff_eq]; omega)
  simp -implicitDefEqProofs only [eqs, eqd, aCall, Sym.reach, Sym.pos, Sym.sub, lh_some, ↓reduceIte, reduceCtorEq, Nat.reduceEqDiff, Nat.reduceAdd, Nat.reduceSub, Nat.reduceMul, Nat.reduceLT, Nat.reduceLeDiff, Nat.reduceBEq, Nat.reduceBNe, Nat.reduceGT, Int.reduceEq, Int.reduceLT, Int.reduceLE, Int.reduceToNat, Int.reduceAdd, Int.reduceSub, Int.reduceMul, Int.reduceNeg, Int.reduceBEq, Int.reduceBNe, b_fuglemanref12_Right, g_fuglemanref12_Right_0, g_fuglemanref12_Right_1, g_fuglemanref12_Right_2, g_fuglemanref12_Right_3, g_fuglemanref12_Right_4, g_fuglemanref12_Right_5, g_fuglemanref12_Right_6, g_fuglemanref12_Right_7, g_fuglemanref12_Right_8, g_fuglemanref12_Right_9, g_fuglemanref12_Right_10, g_fuglemanref12_Right_11, g_fuglemanref12_Right_12, g_fuglemanref12_Right_13, hr, hw, Ins.c, o1, o2, o3, o4, o5, o6, o7, o8, o9, p3, p4]
theorem rright_7bx (k : Nat) (i : Ins) (hi : i.In) (hcl : cl i.op = 7) (ho : i.op = 35) (p3 : (i.ar == 3) = true) : acall T (k + 11) 10 0 [.agg i.c] [] = some ⟨.v (.bool (right i)), [], 1⟩ := by
  rw [acall_go (body := b_fuglemanref12_Right) rfl rfl (Nat.zero_le _)]
  have hr := reads_a (k + 9) i.op
  have hw := writes_a (k + 9) i.op
  have w0 : (decide (3 ≤ i.op) && decide (i.op ≤ 6)) = false := by
    by_cases c1 : 3 ≤ i.op <;> by_cases c2 : i.op ≤ 6 <;> simp [c1, c2]
    omega
  rw [w0] at hw
  rw [rd1_cl, hcl, show ((7 : Int) == 1) = false from rfl] at hr
  unfold right
  rw [hcl]
  simp only [Int.reduceEq, if_true, if_false]
  have o1 : 25 ≤ i.op := by first | omega | (rw [beq_eq_false_iff_ne]; omega) | (rw [beq_iff_eq]; omega)
  have o2 : ¬ i.op ≤ 27 := by first | omega | (rw [beq_eq_false_iff_ne]; omega) | (rw [beq_iff_eq]; omega)
  have o3 : (i.op == 13) = false := by first | omega | (rw [beq_eq_false_iff_ne]; omega) | (rw [beq_iff_eq]; omega)
  have o4 : 28 ≤ i.op := by first | omega | (rw [beq_eq_false_iff_ne]; omega) | (rw [beq_iff_eq]; omega)
  have o5 : ¬ i.op ≤ 30 := by first | omega | (rw [beq_eq_false_iff_ne]; omega) | (rw [beq_iff_eq]; omega)
  have o6 : (i.op == 33) = false := by first | omega | (rw [beq_eq_false_iff_ne]; omega) | (rw [beq_iff_eq]; omega)
  have o7 : (i.op == 31) = false := by first | omega | (rw [beq_eq_false_iff_ne]; omega) | (rw [beq_iff_eq]; omega)
  have o8 : (i.op == 32) = false := by first | omega | (rw [beq_eq_false_iff_ne]; omega) | (rw [beq_iff_eq]; omega)
  have o9 : (i.op == 34) = false := by first | omega | (rw [beq_eq_false_iff_ne]; omega) | (rw [beq_iff_eq]; omega)
  have oa : (i.op == 35) = true := by first | omega | (rw [beq_eq_false_iff_ne]; omega) | (rw [beq_iff_eq]; omega)
  try simp -implicitDefEqProofs only [eqs, eqd, aCall, Sym.reach, Sym.pos, Sym.sub, lh_some, ↓reduceIte, reduceCtorEq, Nat.reduceEqDiff, Nat.reduceAdd, Nat.reduceSub, Nat.reduceMul, Nat.reduceLT, Nat.reduceLeDiff, Nat.reduceBEq, Nat.reduceBNe, Nat.reduceGT, Int.reduceEq, Int.reduceLT, Int.reduceLE, Int.reduceToNat, Int.reduceAdd, Int.reduceSub, Int.reduceMul, Int.reduceNeg, Int.reduceBEq, Int.reduceBNe, b_fuglemanref12_Right, g_fuglemanref12_Right_0, g_fuglemanref12_Right_1, g_fuglemanref12_Right_2, g_fuglemanref12_Right_3, g_fuglemanref12_Right_4, g_fuglemanref12_Right_5, g_fuglemanref12_Right_6, g_fuglemanref12_Right_7, g_fuglemanref12_Right_8, g_fuglemanref12_Right_9, g_fuglemanref12_Right_10, g_fuglemanref12_Right_11, g_fuglemanref12_Right_12, g_fuglemanref12_Right_13, hr, hw, Ins.c, o1, o2, o3, o4, o5, o6, o7, o8, o9, oa, p3]
  cases t1 : decide (0 ≤ i.at_)
  · simp -implicitDefEqProofs only [eqs, eqd, aCall, Sym.reach, Sym.pos, Sym.sub, lh_some, ↓reduceIte, reduceCtorEq, Nat.reduceEqDiff, Nat.reduceAdd, Nat.reduceSub, Nat.reduceMul, Nat.reduceLT, Nat.reduceLeDiff, Nat.reduceBEq, Nat.reduceBNe, Nat.reduceGT, Int.reduceEq, Int.reduceLT, Int.reduceLE, Int.reduceToNat, Int.reduceAdd, Int.reduceSub, Int.reduceMul, Int.reduceNeg, Int.reduceBEq, Int.reduceBNe, b_fuglemanref12_Right, g_fuglemanref12_Right_0, g_fuglemanref12_Right_1, g_fuglemanref12_Right_2, g_fuglemanref12_Right_3, g_fuglemanref12_Right_4, g_fuglemanref12_Right_5, g_fuglemanref12_Right_6, g_fuglemanref12_Right_7, g_fuglemanref12_Right_8, g_fuglemanref12_Right_9, g_fuglemanref12_Right_10, g_fuglemanref12_Right_11, g_fuglemanref12_Right_12, g_fuglemanref12_Right_13, hr, hw, Ins.c, o1, o2, o3, o4, o5, o6, o7, o8, o9, oa, p3, t1]
  try simp -implicitDefEqProofs only [eqs, eqd, aCall, Sym.reach, Sym.pos, Sym.sub, lh_some, ↓reduceIte, reduceCtorEq, Nat.reduceEqDiff, Nat.reduceAdd, Nat.reduceSub, Nat.reduceMul, Nat.reduceLT, Nat.reduceLeDiff, Nat.reduceBEq, Nat.reduceBNe, Nat.reduceGT, Int.reduceEq, Int.reduceLT, Int.reduceLE, Int.reduceToNat, Int.reduceAdd, Int.reduceSub, Int.reduceMul, Int.reduceNeg, Int.reduceBEq, Int.reduceBNe, b_fuglemanref12_Right, g_fuglemanref12_Right_0, g_fuglemanref12_Right_1, g_fuglemanref12_Right_2, g_fuglemanref12_Right_3, g_fuglemanref12_Right_4, g_fuglemanref12_Right_5, g_fuglemanref12_Right_6, g_fuglemanref12_Right_7, g_fuglemanref12_Right_8, g_fuglemanref12_Right_9, g_fuglemanref12_Right_10, g_fuglemanref12_Right_11, g_fuglemanref12_Right_12, g_fuglemanref12_Right_13, hr, hw, Ins.c, o1, o2, o3, o4, o5, o6, o7, o8, o9, oa, p3, t1]
  cases t2 : decide (i.at_ ≤ 59)
  · simp -implicitDefEqProofs only [eqs, eqd, aCall, Sym.reach, Sym.pos, Sym.sub, lh_some, ↓reduceIte, reduceCtorEq, Nat.reduceEqDiff, Nat.reduceAdd, Nat.reduceSub, Nat.reduceMul, Nat.reduceLT, Nat.reduceLeDiff, Nat.reduceBEq, Nat.reduceBNe, Nat.reduceGT, Int.reduceEq, Int.reduceLT, Int.reduceLE, Int.reduceToNat, Int.reduceAdd, Int.reduceSub, Int.reduceMul, Int.reduceNeg, Int.reduceBEq, Int.reduceBNe, b_fuglemanref12_Right, g_fuglemanref12_Right_0, g_fuglemanref12_Right_1, g_fuglemanref12_Right_2, g_fuglemanref12_Right_3, g_fuglemanref12_Right_4, g_fuglemanref12_Right_5, g_fuglemanref12_Right_6, g_fuglemanref12_Right_7, g_fuglemanref12_Right_8, g_fuglemanref12_Right_9, g_fuglemanref12_Right_10, g_fuglemanref12_Right_11, g_fuglemanref12_Right_12, g_fuglemanref12_Right_13, hr, hw, Ins.c, o1, o2, o3, o4, o5, o6, o7, o8, o9, oa, p3, t1, t2]
  try simp -implicitDefEqProofs only [eqs, eqd, aCall, Sym.reach, Sym.pos, Sym.sub, lh_some, ↓reduceIte, reduceCtorEq, Nat.reduceEqDiff, Nat.reduceAdd, Nat.reduceSub, Nat.reduceMul, Nat.reduceLT, Nat.reduceLeDiff, Nat.reduceBEq, Nat.reduceBNe, Nat.reduceGT, Int.reduceEq, Int.reduceLT, Int.reduceLE, Int.reduceToNat, Int.reduceAdd, Int.reduceSub, Int.reduceMul, Int.reduceNeg, Int.reduceBEq, Int.reduceBNe, b_fuglemanref12_Right, g_fuglemanref12_Right_0, g_fuglemanref12_Right_1, g_fuglemanref12_Right_2, g_fuglemanref12_Right_3, g_fuglemanref12_Right_4, g_fuglemanref12_Right_5, g_fuglemanref12_Right_6, g_fuglemanref12_Right_7, g_fuglemanref12_Right_8, g_fuglemanref12_Right_9, g_fuglemanref12_Right_10, g_fuglemanref12_Right_11, g_fuglemanref12_Right_12, g_fuglemanref12_Right_13, hr, hw, Ins.c, o1, o2, o3, o4, o5, o6, o7, o8, o9, oa, p3, t1, t2]
  cases n1 : decide (1 ≤ i.n)
  · simp -implicitDefEqProofs only [eqs, eqd, aCall, Sym.reach, Sym.pos, Sym.sub, lh_some, ↓reduceIte, reduceCtorEq, Nat.reduceEqDiff, Nat.reduceAdd, Nat.reduceSub, Nat.reduceMul, Nat.reduceLT, Nat.reduceLeDiff, Nat.reduceBEq, Nat.reduceBNe, Nat.reduceGT, Int.reduceEq, Int.reduceLT, Int.reduceLE, Int.reduceToNat, Int.reduceAdd, Int.reduceSub, Int.reduceMul, Int.reduceNeg, Int.reduceBEq, Int.reduceBNe, b_fuglemanref12_Right, g_fuglemanref12_Right_0, g_fuglemanref12_Right_1, g_fuglemanref12_Right_2, g_fuglemanref12_Right_3, g_fuglemanref12_Right_4, g_fuglemanref12_Right_5, g_fuglemanref12_Right_6, g_fuglemanref12_Right_7, g_fuglemanref12_Right_8, g_fuglemanref12_Right_9, g_fuglemanref12_Right_10, g_fuglemanref12_Right_11, g_fuglemanref12_Right_12, g_fuglemanref12_Right_13, hr, hw, Ins.c, o1, o2, o3, o4, o5, o6, o7, o8, o9, oa, p3, t1, t2, n1]
  try simp -implicitDefEqProofs only [eqs, eqd, aCall, Sym.reach, Sym.pos, Sym.sub, lh_some, ↓reduceIte, reduceCtorEq, Nat.reduceEqDiff, Nat.reduceAdd, Nat.reduceSub, Nat.reduceMul, Nat.reduceLT, Nat.reduceLeDiff, Nat.reduceBEq, Nat.reduceBNe, Nat.reduceGT, Int.reduceEq, Int.reduceLT, Int.reduceLE, Int.reduceToNat, Int.reduceAdd, Int.reduceSub, Int.reduceMul, Int.reduceNeg, Int.reduceBEq, Int.reduceBNe, b_fuglemanref12_Right, g_fuglemanref12_Right_0, g_fuglemanref12_Right_1, g_fuglemanref12_Right_2, g_fuglemanref12_Right_3, g_fuglemanref12_Right_4, g_fuglemanref12_Right_5, g_fuglemanref12_Right_6, g_fuglemanref12_Right_7, g_fuglemanref12_Right_8, g_fuglemanref12_Right_9, g_fuglemanref12_Right_10, g_fuglemanref12_Right_11, g_fuglemanref12_Right_12, g_fuglemanref12_Right_13, hr, hw, Ins.c, o1, o2, o3, o4, o5, o6, o7, o8, o9, oa, p3, t1, t2, n1]
  cases n2 : decide (i.n ≤ 9999)
  · simp -implicitDefEqProofs only [eqs, eqd, aCall, Sym.reach, Sym.pos, Sym.sub, lh_some, ↓reduceIte, reduceCtorEq, Nat.reduceEqDiff, Nat.reduceAdd, Nat.reduceSub, Nat.reduceMul, Nat.reduceLT, Nat.reduceLeDiff, Nat.reduceBEq, Nat.reduceBNe, Nat.reduceGT, Int.reduceEq, Int.reduceLT, Int.reduceLE, Int.reduceToNat, Int.reduceAdd, Int.reduceSub, Int.reduceMul, Int.reduceNeg, Int.reduceBEq, Int.reduceBNe, b_fuglemanref12_Right, g_fuglemanref12_Right_0, g_fuglemanref12_Right_1, g_fuglemanref12_Right_2, g_fuglemanref12_Right_3, g_fuglemanref12_Right_4, g_fuglemanref12_Right_5, g_fuglemanref12_Right_6, g_fuglemanref12_Right_7, g_fuglemanref12_Right_8, g_fuglemanref12_Right_9, g_fuglemanref12_Right_10, g_fuglemanref12_Right_11, g_fuglemanref12_Right_12, g_fuglemanref12_Right_13, hr, hw, Ins.c, o1, o2, o3, o4, o5, o6, o7, o8, o9, oa, p3, t1, t2, n1, n2]
  try simp -implicitDefEqProofs only [eqs, eqd, aCall, Sym.reach, Sym.pos, Sym.sub, lh_some, ↓reduceIte, reduceCtorEq, Nat.reduceEqDiff, Nat.reduceAdd, Nat.reduceSub, Nat.reduceMul, Nat.reduceLT, Nat.reduceLeDiff, Nat.reduceBEq, Nat.reduceBNe, Nat.reduceGT, Int.reduceEq, Int.reduceLT, Int.reduceLE, Int.reduceToNat, Int.reduceAdd, Int.reduceSub, Int.reduceMul, Int.reduceNeg, Int.reduceBEq, Int.reduceBNe, b_fuglemanref12_Right, g_fuglemanref12_Right_0, g_fuglemanref12_Right_1, g_fuglemanref12_Right_2, g_fuglemanref12_Right_3, g_fuglemanref12_Right_4, g_fuglemanref12_Right_5, g_fuglemanref12_Right_6, g_fuglemanref12_Right_7, g_fuglemanref12_Right_8, g_fuglemanref12_Right_9, g_fuglemanref12_Right_10, g_fuglemanref12_Right_11, g_fuglemanref12_Right_12, g_fuglemanref12_Right_13, hr, hw, Ins.c, o1, o2, o3, o4, o5, o6, o7, o8, o9, oa, p3, t1, t2, n1, n2]
  cases k0 : (i.k == 0)
  · simp -implicitDefEqProofs only [eqs, eqd, aCall, Sym.reach, Sym.pos, Sym.sub, lh_some, ↓reduceIte, reduceCtorEq, Nat.reduceEqDiff, Nat.reduceAdd, Nat.reduceSub, Nat.reduceMul, Nat.reduceLT, Nat.reduceLeDiff, Nat.reduceBEq, Nat.reduceBNe, Nat.reduceGT, Int.reduceEq, Int.reduceLT, Int.reduceLE, Int.reduceToNat, Int.reduceAdd, Int.reduceSub, Int.reduceMul, Int.reduceNeg, Int.reduceBEq, Int.reduceBNe, b_fuglemanref12_Right, g_fuglemanref12_Right_0, g_fuglemanref12_Right_1, g_fuglemanref12_Right_2, g_fuglemanref12_Right_3, g_fuglemanref12_Right_4, g_fuglemanref12_Right_5, g_fuglemanref12_Right_6, g_fuglemanref12_Right_7, g_fuglemanref12_Right_8, g_fuglemanref12_Right_9, g_fuglemanref12_Right_10, g_fuglemanref12_Right_11, g_fuglemanref12_Right_12, g_fuglemanref12_Right_13, hr, hw, Ins.c, o1, o2, o3, o4, o5, o6, o7, o8, o9, oa, p3, t1, t2, n1, n2, k0]
  simp -implicitDefEqProofs only [eqs, eqd, aCall, Sym.reach, Sym.pos, Sym.sub, lh_some, ↓reduceIte, reduceCtorEq, Nat.reduceEqDiff, Nat.reduceAdd, Nat.reduceSub, Nat.reduceMul, Nat.reduceLT, Nat.reduceLeDiff, Nat.reduceBEq, Nat.reduceBNe, Nat.reduceGT, Int.reduceEq, Int.reduceLT, Int.reduceLE, Int.reduceToNat, Int.reduceAdd, Int.reduceSub, Int.reduceMul, Int.reduceNeg, Int.reduceBEq, Int.reduceBNe, b_fuglemanref12_Right, g_fuglemanref12_Right_0, g_fuglemanref12_Right_1, g_fuglemanref12_Right_2, g_fuglemanref12_Right_3, g_fuglemanref12_Right_4, g_fuglemanref12_Right_5, g_fuglemanref12_Right_6, g_fuglemanref12_Right_7, g_fuglemanref12_Right_8, g_fuglemanref12_Right_9, g_fuglemanref12_Right_10, g_fuglemanref12_Right_11, g_fuglemanref12_Right_12, g_fuglemanref12_Right_13, hr, hw, Ins.c, o1, o2, o3, o4, o5, o6, o7, o8, o9, oa, p3, t1, t2, n1, n2, k0]
theorem rright_7by (k : Nat) (i : Ins) (hi : i.In) (hcl : cl i.op = 7) (ho : i.op = 35) (p3 : (i.ar == 3) = false) (p4 : (i.ar == 4) = true) : acall T (k + 11) 10 0 [.agg i.c] [] = some ⟨.v (.bool (right i)), [], 1⟩ := by
  rw [acall_go (body := b_fuglemanref12_Right) rfl rfl (Nat.zero_le _)]
  have hr := reads_a (k + 9) i.op
  have hw := writes_a (k + 9) i.op
  have w0 : (decide (3 ≤ i.op) && decide (i.op ≤ 6)) = false := by
    by_cases c1 : 3 ≤ i.op <;> by_cases c2 : i.op ≤ 6 <;> simp [c1, c2]
    omega
  rw [w0] at hw
  rw [rd1_cl, hcl, show ((7 : Int) == 1) = false from rfl] at hr
  unfold right
  rw [hcl]
  simp only [Int.reduceEq, if_true, if_false]
  have o1 : 25 ≤ i.op := by first | omega | (rw [beq_eq_false_iff_ne]; omega) | (rw [beq_iff_eq]; omega)
  have o2 : ¬ i.op ≤ 27 := by first | omega | (rw [beq_eq_false_iff_ne]; omega) | (rw [beq_iff_eq]; omega)
  have o3 : (i.op == 13) = false := by first | omega | (rw [beq_eq_false_iff_ne]; omega) | (rw [beq_iff_eq]; omega)
  have o4 : 28 ≤ i.op := by first | omega | (rw [beq_eq_false_iff_ne]; omega) | (rw [beq_iff_eq]; omega)
  have o5 : ¬ i.op ≤ 30 := by first | omega | (rw [beq_eq_false_iff_ne]; omega) | (rw [beq_iff_eq]; omega)
  have o6 : (i.op == 33) = false := by first | omega | (rw [beq_eq_false_iff_ne]; omega) | (rw [beq_iff_eq]; omega)
  have o7 : (i.op == 31) = false := by first | omega | (rw [beq_eq_false_iff_ne]; omega) | (rw [beq_iff_eq]; omega)
  have o8 : (i.op == 32) = false := by first | omega | (rw [beq_eq_false_iff_ne]; omega) | (rw [beq_iff_eq]; omega)
  have o9 : (i.op == 34) = false := by first | omega | (rw [beq_eq_false_iff_ne]; omega) | (rw [beq_iff_eq]; omega)
  have oa : (i.op == 35) = true := by first | omega | (rw [beq_eq_false_iff_ne]; omega) | (rw [beq_iff_eq]; omega)
  try simp -implicitDefEqProofs only [eqs, eqd, aCall, Sym.reach, Sym.pos, Sym.sub, lh_some, ↓reduceIte, reduceCtorEq, Nat.reduceEqDiff, Nat.reduceAdd, Nat.reduceSub, Nat.reduceMul, Nat.reduceLT, Nat.reduceLeDiff, Nat.reduceBEq, Nat.reduceBNe, Nat.reduceGT, Int.reduceEq, Int.reduceLT, Int.reduceLE, Int.reduceToNat, Int.reduceAdd, Int.reduceSub, Int.reduceMul, Int.reduceNeg, Int.reduceBEq, Int.reduceBNe, b_fuglemanref12_Right, g_fuglemanref12_Right_0, g_fuglemanref12_Right_1, g_fuglemanref12_Right_2, g_fuglemanref12_Right_3, g_fuglemanref12_Right_4, g_fuglemanref12_Right_5, g_fuglemanref12_Right_6, g_fuglemanref12_Right_7, g_fuglemanref12_Right_8, g_fuglemanref12_Right_9, g_fuglemanref12_Right_10, g_fuglemanref12_Right_11, g_fuglemanref12_Right_12, g_fuglemanref12_Right_13, hr, hw, Ins.c, o1, o2, o3, o4, o5, o6, o7, o8, o9, oa, p3, p4]
  cases t1 : decide (0 ≤ i.at_)
  · simp -implicitDefEqProofs only [eqs, eqd, aCall, Sym.reach, Sym.pos, Sym.sub, lh_some, ↓reduceIte, reduceCtorEq, Nat.reduceEqDiff, Nat.reduceAdd, Nat.reduceSub, Nat.reduceMul, Nat.reduceLT, Nat.reduceLeDiff, Nat.reduceBEq, Nat.reduceBNe, Nat.reduceGT, Int.reduceEq, Int.reduceLT, Int.reduceLE, Int.reduceToNat, Int.reduceAdd, Int.reduceSub, Int.reduceMul, Int.reduceNeg, Int.reduceBEq, Int.reduceBNe, b_fuglemanref12_Right, g_fuglemanref12_Right_0, g_fuglemanref12_Right_1, g_fuglemanref12_Right_2, g_fuglemanref12_Right_3, g_fuglemanref12_Right_4, g_fuglemanref12_Right_5, g_fuglemanref12_Right_6, g_fuglemanref12_Right_7, g_fuglemanref12_Right_8, g_fuglemanref12_Right_9, g_fuglemanref12_Right_10, g_fuglemanref12_Right_11, g_fuglemanref12_Right_12, g_fuglemanref12_Right_13, hr, hw, Ins.c, o1, o2, o3, o4, o5, o6, o7, o8, o9, oa, p3, p4, t1]
  try simp -implicitDefEqProofs only [eqs, eqd, aCall, Sym.reach, Sym.pos, Sym.sub, lh_some, ↓reduceIte, reduceCtorEq, Nat.reduceEqDiff, Nat.reduceAdd, Nat.reduceSub, Nat.reduceMul, Nat.reduceLT, Nat.reduceLeDiff, Nat.reduceBEq, Nat.reduceBNe, Nat.reduceGT, Int.reduceEq, Int.reduceLT, Int.reduceLE, Int.reduceToNat, Int.reduceAdd, Int.reduceSub, Int.reduceMul, Int.reduceNeg, Int.reduceBEq, Int.reduceBNe, b_fuglemanref12_Right, g_fuglemanref12_Right_0, g_fuglemanref12_Right_1, g_fuglemanref12_Right_2, g_fuglemanref12_Right_3, g_fuglemanref12_Right_4, g_fuglemanref12_Right_5, g_fuglemanref12_Right_6, g_fuglemanref12_Right_7, g_fuglemanref12_Right_8, g_fuglemanref12_Right_9, g_fuglemanref12_Right_10, g_fuglemanref12_Right_11, g_fuglemanref12_Right_12, g_fuglemanref12_Right_13, hr, hw, Ins.c, o1, o2, o3, o4, o5, o6, o7, o8, o9, oa, p3, p4, t1]
  cases t2 : decide (i.at_ ≤ 59)
  · simp -implicitDefEqProofs only [eqs, eqd, aCall, Sym.reach, Sym.pos, Sym.sub, lh_some, ↓reduceIte, reduceCtorEq, Nat.reduceEqDiff, Nat.reduceAdd, Nat.reduceSub, Nat.reduceMul, Nat.reduceLT, Nat.reduceLeDiff, Nat.reduceBEq, Nat.reduceBNe, Nat.reduceGT, Int.reduceEq, Int.reduceLT, Int.reduceLE, Int.reduceToNat, Int.reduceAdd, Int.reduceSub, Int.reduceMul, Int.reduceNeg, Int.reduceBEq, Int.reduceBNe, b_fuglemanref12_Right, g_fuglemanref12_Right_0, g_fuglemanref12_Right_1, g_fuglemanref12_Right_2, g_fuglemanref12_Right_3, g_fuglemanref12_Right_4, g_fuglemanref12_Right_5, g_fuglemanref12_Right_6, g_fuglemanref12_Right_7, g_fuglemanref12_Right_8, g_fuglemanref12_Right_9, g_fuglemanref12_Right_10, g_fuglemanref12_Right_11, g_fuglemanref12_Right_12, g_fuglemanref12_Right_13, hr, hw, Ins.c, o1, o2, o3, o4, o5, o6, o7, o8, o9, oa, p3, p4, t1, t2]
  try simp -implicitDefEqProofs only [eqs, eqd, aCall, Sym.reach, Sym.pos, Sym.sub, lh_some, ↓reduceIte, reduceCtorEq, Nat.reduceEqDiff, Nat.reduceAdd, Nat.reduceSub, Nat.reduceMul, Nat.reduceLT, Nat.reduceLeDiff, Nat.reduceBEq, Nat.reduceBNe, Nat.reduceGT, Int.reduceEq, Int.reduceLT, Int.reduceLE, Int.reduceToNat, Int.reduceAdd, Int.reduceSub, Int.reduceMul, Int.reduceNeg, Int.reduceBEq, Int.reduceBNe, b_fuglemanref12_Right, g_fuglemanref12_Right_0, g_fuglemanref12_Right_1, g_fuglemanref12_Right_2, g_fuglemanref12_Right_3, g_fuglemanref12_Right_4, g_fuglemanref12_Right_5, g_fuglemanref12_Right_6, g_fuglemanref12_Right_7, g_fuglemanref12_Right_8, g_fuglemanref12_Right_9, g_fuglemanref12_Right_10, g_fuglemanref12_Right_11, g_fuglemanref12_Right_12, g_fuglemanref12_Right_13, hr, hw, Ins.c, o1, o2, o3, o4, o5, o6, o7, o8, o9, oa, p3, p4, t1, t2]
  cases n1 : decide (1 ≤ i.n)
  · simp -implicitDefEqProofs only [eqs, eqd, aCall, Sym.reach, Sym.pos, Sym.sub, lh_some, ↓reduceIte, reduceCtorEq, Nat.reduceEqDiff, Nat.reduceAdd, Nat.reduceSub, Nat.reduceMul, Nat.reduceLT, Nat.reduceLeDiff, Nat.reduceBEq, Nat.reduceBNe, Nat.reduceGT, Int.reduceEq, Int.reduceLT, Int.reduceLE, Int.reduceToNat, Int.reduceAdd, Int.reduceSub, Int.reduceMul, Int.reduceNeg, Int.reduceBEq, Int.reduceBNe, b_fuglemanref12_Right, g_fuglemanref12_Right_0, g_fuglemanref12_Right_1, g_fuglemanref12_Right_2, g_fuglemanref12_Right_3, g_fuglemanref12_Right_4, g_fuglemanref12_Right_5, g_fuglemanref12_Right_6, g_fuglemanref12_Right_7, g_fuglemanref12_Right_8, g_fuglemanref12_Right_9, g_fuglemanref12_Right_10, g_fuglemanref12_Right_11, g_fuglemanref12_Right_12, g_fuglemanref12_Right_13, hr, hw, Ins.c, o1, o2, o3, o4, o5, o6, o7, o8, o9, oa, p3, p4, t1, t2, n1]
  try simp -implicitDefEqProofs only [eqs, eqd, aCall, Sym.reach, Sym.pos, Sym.sub, lh_some, ↓reduceIte, reduceCtorEq, Nat.reduceEqDiff, Nat.reduceAdd, Nat.reduceSub, Nat.reduceMul, Nat.reduceLT, Nat.reduceLeDiff, Nat.reduceBEq, Nat.reduceBNe, Nat.reduceGT, Int.reduceEq, Int.reduceLT, Int.reduceLE, Int.reduceToNat, Int.reduceAdd, Int.reduceSub, Int.reduceMul, Int.reduceNeg, Int.reduceBEq, Int.reduceBNe, b_fuglemanref12_Right, g_fuglemanref12_Right_0, g_fuglemanref12_Right_1, g_fuglemanref12_Right_2, g_fuglemanref12_Right_3, g_fuglemanref12_Right_4, g_fuglemanref12_Right_5, g_fuglemanref12_Right_6, g_fuglemanref12_Right_7, g_fuglemanref12_Right_8, g_fuglemanref12_Right_9, g_fuglemanref12_Right_10, g_fuglemanref12_Right_11, g_fuglemanref12_Right_12, g_fuglemanref12_Right_13, hr, hw, Ins.c, o1, o2, o3, o4, o5, o6, o7, o8, o9, oa, p3, p4, t1, t2, n1]
  cases n2 : decide (i.n ≤ 9999)
  · simp -implicitDefEqProofs only [eqs, eqd, aCall, Sym.reach, Sym.pos, Sym.sub, lh_some, ↓reduceIte, reduceCtorEq, Nat.reduceEqDiff, Nat.reduceAdd, Nat.reduceSub, Nat.reduceMul, Nat.reduceLT, Nat.reduceLeDiff, Nat.reduceBEq, Nat.reduceBNe, Nat.reduceGT, Int.reduceEq, Int.reduceLT, Int.reduceLE, Int.reduceToNat, Int.reduceAdd, Int.reduceSub, Int.reduceMul, Int.reduceNeg, Int.reduceBEq, Int.reduceBNe, b_fuglemanref12_Right, g_fuglemanref12_Right_0, g_fuglemanref12_Right_1, g_fuglemanref12_Right_2, g_fuglemanref12_Right_3, g_fuglemanref12_Right_4, g_fuglemanref12_Right_5, g_fuglemanref12_Right_6, g_fuglemanref12_Right_7, g_fuglemanref12_Right_8, g_fuglemanref12_Right_9, g_fuglemanref12_Right_10, g_fuglemanref12_Right_11, g_fuglemanref12_Right_12, g_fuglemanref12_Right_13, hr, hw, Ins.c, o1, o2, o3, o4, o5, o6, o7, o8, o9, oa, p3, p4, t1, t2, n1, n2]
  try simp -implicitDefEqProofs only [eqs, eqd, aCall, Sym.reach, Sym.pos, Sym.sub, lh_some, ↓reduceIte, reduceCtorEq, Nat.reduceEqDiff, Nat.reduceAdd, Nat.reduceSub, Nat.reduceMul, Nat.reduceLT, Nat.reduceLeDiff, Nat.reduceBEq, Nat.reduceBNe, Nat.reduceGT, Int.reduceEq, Int.reduceLT, Int.reduceLE, Int.reduceToNat, Int.reduceAdd, Int.reduceSub, Int.reduceMul, Int.reduceNeg, Int.reduceBEq, Int.reduceBNe, b_fuglemanref12_Right, g_fuglemanref12_Right_0, g_fuglemanref12_Right_1, g_fuglemanref12_Right_2, g_fuglemanref12_Right_3, g_fuglemanref12_Right_4, g_fuglemanref12_Right_5, g_fuglemanref12_Right_6, g_fuglemanref12_Right_7, g_fuglemanref12_Right_8, g_fuglemanref12_Right_9, g_fuglemanref12_Right_10, g_fuglemanref12_Right_11, g_fuglemanref12_Right_12, g_fuglemanref12_Right_13, hr, hw, Ins.c, o1, o2, o3, o4, o5, o6, o7, o8, o9, oa, p3, p4, t1, t2, n1, n2]
  cases k0 : (i.k == 0)
  · simp -implicitDefEqProofs only [eqs, eqd, aCall, Sym.reach, Sym.pos, Sym.sub, lh_some, ↓reduceIte, reduceCtorEq, Nat.reduceEqDiff, Nat.reduceAdd, Nat.reduceSub, Nat.reduceMul, Nat.reduceLT, Nat.reduceLeDiff, Nat.reduceBEq, Nat.reduceBNe, Nat.reduceGT, Int.reduceEq, Int.reduceLT, Int.reduceLE, Int.reduceToNat, Int.reduceAdd, Int.reduceSub, Int.reduceMul, Int.reduceNeg, Int.reduceBEq, Int.reduceBNe, b_fuglemanref12_Right, g_fuglemanref12_Right_0, g_fuglemanref12_Right_1, g_fuglemanref12_Right_2, g_fuglemanref12_Right_3, g_fuglemanref12_Right_4, g_fuglemanref12_Right_5, g_fuglemanref12_Right_6, g_fuglemanref12_Right_7, g_fuglemanref12_Right_8, g_fuglemanref12_Right_9, g_fuglemanref12_Right_10, g_fuglemanref12_Right_11, g_fuglemanref12_Right_12, g_fuglemanref12_Right_13, hr, hw, Ins.c, o1, o2, o3, o4, o5, o6, o7, o8, o9, oa, p3, p4, t1, t2, n1, n2, k0]
  simp -implicitDefEqProofs only [eqs, eqd, aCall, Sym.reach, Sym.pos, Sym.sub, lh_some, ↓reduceIte, reduceCtorEq, Nat.reduceEqDiff, Nat.reduceAdd, Nat.reduceSub, Nat.reduceMul, Nat.reduceLT, Nat.reduceLeDiff, Nat.reduceBEq, Nat.reduceBNe, Nat.reduceGT, Int.reduceEq, Int.reduceLT, Int.reduceLE, Int.reduceToNat, Int.reduceAdd, Int.reduceSub, Int.reduceMul, Int.reduceNeg, Int.reduceBEq, Int.reduceBNe, b_fuglemanref12_Right, g_fuglemanref12_Right_0, g_fuglemanref12_Right_1, g_fuglemanref12_Right_2, g_fuglemanref12_Right_3, g_fuglemanref12_Right_4, g_fuglemanref12_Right_5, g_fuglemanref12_Right_6, g_fuglemanref12_Right_7, g_fuglemanref12_Right_8, g_fuglemanref12_Right_9, g_fuglemanref12_Right_10, g_fuglemanref12_Right_11, g_fuglemanref12_Right_12, g_fuglemanref12_Right_13, hr, hw, Ins.c, o1, o2, o3, o4, o5, o6, o7, o8, o9, oa, p3, p4, t1, t2, n1, n2, k0]
theorem rright_7bz (k : Nat) (i : Ins) (hi : i.In) (hcl : cl i.op = 7) (ho : i.op = 35) (p3 : (i.ar == 3) = false) (p4 : (i.ar == 4) = false) : acall T (k + 11) 10 0 [.agg i.c] [] = some ⟨.v (.bool (right i)), [], 1⟩ := by
  rw [acall_go (body := b_fuglemanref12_Right) rfl rfl (Nat.zero_le _)]
  have hr := reads_a (k + 9) i.op
  have hw := writes_a (k + 9) i.op
  have w0 : (decide (3 ≤ i.op) && decide (i.op ≤ 6)) = false := by
    by_cases c1 : 3 ≤ i.op <;> by_cases c2 : i.op ≤ 6 <;> simp [c1, c2]
    omega
  rw [w0] at hw
  rw [rd1_cl, hcl, show ((7 : Int) == 1) = false from rfl] at hr
  unfold right
  rw [hcl]
  simp only [Int.reduceEq, if_true, if_false]
  have o1 : 25 ≤ i.op := by first | omega | (rw [beq_eq_false_iff_ne]; omega) | (rw [beq_iff_eq]; omega)
  have o2 : ¬ i.op ≤ 27 := by first | omega | (rw [beq_eq_false_iff_ne]; omega) | (rw [beq_iff_eq]; omega)
  have o3 : (i.op == 13) = false := by first | omega | (rw [beq_eq_false_iff_ne]; omega) | (rw [beq_iff_eq]; omega)
  have o4 : 28 ≤ i.op := by first | omega | (rw [beq_eq_false_iff_ne]; omega) | (rw [beq_iff_eq]; omega)
  have o5 : ¬ i.op ≤ 30 := by first | omega | (rw [beq_eq_false_iff_ne]; omega) | (rw [beq_iff_eq]; omega)
  have o6 : (i.op == 33) = false := by first | omega | (rw [beq_eq_false_iff_ne]; omega) | (rw [beq_iff_eq]; omega)
  have o7 : (i.op == 31) = false := by first | omega | (rw [beq_eq_false_iff_ne]; omega) | (rw [beq_iff_eq]; omega)
  have o8 : (i.op == 32) = false := by first | omega | (rw [beq_eq_false_iff_ne]; omega) | (rw [beq_iff_eq]; omega)
  have o9 : (i.op == 34) = false := by first | omega | (rw [beq_eq_false_iff_ne]; omega) | (rw [beq_iff_eq]; omega)
  have oa : (i.op == 35) = true := by first | omega | (rw [beq_eq_false_iff_ne]; omega) | (rw [beq_iff_eq]; omega)
  simp -implicitDefEqProofs only [eqs, eqd, aCall, Sym.reach, Sym.pos, Sym.sub, lh_some, ↓reduceIte, reduceCtorEq, Nat.reduceEqDiff, Nat.reduceAdd, Nat.reduceSub, Nat.reduceMul, Nat.reduceLT, Nat.reduceLeDiff, Nat.reduceBEq, Nat.reduceBNe, Nat.reduceGT, Int.reduceEq, Int.reduceLT, Int.reduceLE, Int.reduceToNat, Int.reduceAdd, Int.reduceSub, Int.reduceMul, Int.reduceNeg, Int.reduceBEq, Int.reduceBNe, b_fuglemanref12_Right, g_fuglemanref12_Right_0, g_fuglemanref12_Right_1, g_fuglemanref12_Right_2, g_fuglemanref12_Right_3, g_fuglemanref12_Right_4, g_fuglemanref12_Right_5, g_fuglemanref12_Right_6, g_fuglemanref12_Right_7, g_fuglemanref12_Right_8, g_fuglemanref12_Right_9, g_fuglemanref12_Right_10, g_fuglemanref12_Right_11, g_fuglemanref12_Right_12, g_fuglemanref12_Right_13, hr, hw, Ins.c, o1, o2, o3, o4, o5, o6, o7, o8, o9, oa, p3, p4]
theorem rright_0a (k : Nat) (i : Ins) (hi : i.In) (hcl : cl i.op = 0) (ho : 36 < i.op) : acall T (k + 11) 10 0 [.agg i.c] [] = some ⟨.v (.bool (right i)), [], 1⟩ := by
  rw [acall_go (body := b_fuglemanref12_Right) rfl rfl (Nat.zero_le _)]
  have hr := reads_a (k + 9) i.op
  have hw := writes_a (k + 9) i.op
  have w0 : (decide (3 ≤ i.op) && decide (i.op ≤ 6)) = false := by
    by_cases c1 : 3 ≤ i.op <;> by_cases c2 : i.op ≤ 6 <;> simp [c1, c2]
    omega
  rw [w0] at hw
  rw [rd1_cl, hcl, show ((0 : Int) == 1) = false from rfl] at hr
  unfold right
  rw [hcl]
  simp only [Int.reduceEq, if_true, if_false]
  have o1 : 25 ≤ i.op := by first | omega | (rw [beq_eq_false_iff_ne]; omega) | (rw [beq_iff_eq]; omega)
  have o2 : ¬ i.op ≤ 27 := by first | omega | (rw [beq_eq_false_iff_ne]; omega) | (rw [beq_iff_eq]; omega)
  have o3 : (i.op == 13) = false := by first | omega | (rw [beq_eq_false_iff_ne]; omega) | (rw [beq_iff_eq]; omega)
  have o4 : 28 ≤ i.op := by first | omega | (rw [beq_eq_false_iff_ne]; omega) | (rw [beq_iff_eq]; omega)
  have o5 : ¬ i.op ≤ 30 := by first | omega | (rw [beq_eq_false_iff_ne]; omega) | (rw [beq_iff_eq]; omega)
  have o6 : (i.op == 33) = false := by first | omega | (rw [beq_eq_false_iff_ne]; omega) | (rw [beq_iff_eq]; omega)
  have o7 : (i.op == 31) = false := by first | omega | (rw [beq_eq_false_iff_ne]; omega) | (rw [beq_iff_eq]; omega)
  have o8 : (i.op == 32) = false := by first | omega | (rw [beq_eq_false_iff_ne]; omega) | (rw [beq_iff_eq]; omega)
  have o9 : (i.op == 34) = false := by first | omega | (rw [beq_eq_false_iff_ne]; omega) | (rw [beq_iff_eq]; omega)
  have oa : (i.op == 35) = false := by first | omega | (rw [beq_eq_false_iff_ne]; omega) | (rw [beq_iff_eq]; omega)
  have ob : (i.op == 36) = false := by first | omega | (rw [beq_eq_false_iff_ne]; omega) | (rw [beq_iff_eq]; omega)
  simp -implicitDefEqProofs only [eqs, eqd, aCall, Sym.reach, Sym.pos, Sym.sub, lh_some, ↓reduceIte, reduceCtorEq, Nat.reduceEqDiff, Nat.reduceAdd, Nat.reduceSub, Nat.reduceMul, Nat.reduceLT, Nat.reduceLeDiff, Nat.reduceBEq, Nat.reduceBNe, Nat.reduceGT, Int.reduceEq, Int.reduceLT, Int.reduceLE, Int.reduceToNat, Int.reduceAdd, Int.reduceSub, Int.reduceMul, Int.reduceNeg, Int.reduceBEq, Int.reduceBNe, b_fuglemanref12_Right, g_fuglemanref12_Right_0, g_fuglemanref12_Right_1, g_fuglemanref12_Right_2, g_fuglemanref12_Right_3, g_fuglemanref12_Right_4, g_fuglemanref12_Right_5, g_fuglemanref12_Right_6, g_fuglemanref12_Right_7, g_fuglemanref12_Right_8, g_fuglemanref12_Right_9, g_fuglemanref12_Right_10, g_fuglemanref12_Right_11, g_fuglemanref12_Right_12, g_fuglemanref12_Right_13, hr, hw, Ins.c, o1, o2, o3, o4, o5, o6, o7, o8, o9, oa, ob]
theorem rright_0b (k : Nat) (i : Ins) (hi : i.In) (hcl : cl i.op = 0) (ho : i.op < 1) : acall T (k + 11) 10 0 [.agg i.c] [] = some ⟨.v (.bool (right i)), [], 1⟩ := by
  rw [acall_go (body := b_fuglemanref12_Right) rfl rfl (Nat.zero_le _)]
  have hr := reads_a (k + 9) i.op
  have hw := writes_a (k + 9) i.op
  have w0 : (decide (3 ≤ i.op) && decide (i.op ≤ 6)) = false := by
    by_cases c1 : 3 ≤ i.op <;> by_cases c2 : i.op ≤ 6 <;> simp [c1, c2]
    omega
  rw [w0] at hw
  rw [rd1_cl, hcl, show ((0 : Int) == 1) = false from rfl] at hr
  unfold right
  rw [hcl]
  simp only [Int.reduceEq, if_true, if_false]
  have o1 : ¬ 25 ≤ i.op := by first | omega | (rw [beq_eq_false_iff_ne]; omega) | (rw [beq_iff_eq]; omega)
  have o3 : (i.op == 13) = false := by first | omega | (rw [beq_eq_false_iff_ne]; omega) | (rw [beq_iff_eq]; omega)
  have o4 : ¬ 28 ≤ i.op := by first | omega | (rw [beq_eq_false_iff_ne]; omega) | (rw [beq_iff_eq]; omega)
  have o6 : (i.op == 33) = false := by first | omega | (rw [beq_eq_false_iff_ne]; omega) | (rw [beq_iff_eq]; omega)
  have o7 : (i.op == 31) = false := by first | omega | (rw [beq_eq_false_iff_ne]; omega) | (rw [beq_iff_eq]; omega)
  have o8 : (i.op == 32) = false := by first | omega | (rw [beq_eq_false_iff_ne]; omega) | (rw [beq_iff_eq]; omega)
  have o9 : (i.op == 34) = false := by first | omega | (rw [beq_eq_false_iff_ne]; omega) | (rw [beq_iff_eq]; omega)
  have oa : (i.op == 35) = false := by first | omega | (rw [beq_eq_false_iff_ne]; omega) | (rw [beq_iff_eq]; omega)
  have ob : (i.op == 36) = false := by first | omega | (rw [beq_eq_false_iff_ne]; omega) | (rw [beq_iff_eq]; omega)
  simp -implicitDefEqProofs only [eqs, eqd, aCall, Sym.reach, Sym.pos, Sym.sub, lh_some, ↓reduceIte, reduceCtorEq, Nat.reduceEqDiff, Nat.reduceAdd, Nat.reduceSub, Nat.reduceMul, Nat.reduceLT, Nat.reduceLeDiff, Nat.reduceBEq, Nat.reduceBNe, Nat.reduceGT, Int.reduceEq, Int.reduceLT, Int.reduceLE, Int.reduceToNat, Int.reduceAdd, Int.reduceSub, Int.reduceMul, Int.reduceNeg, Int.reduceBEq, Int.reduceBNe, b_fuglemanref12_Right, g_fuglemanref12_Right_0, g_fuglemanref12_Right_1, g_fuglemanref12_Right_2, g_fuglemanref12_Right_3, g_fuglemanref12_Right_4, g_fuglemanref12_Right_5, g_fuglemanref12_Right_6, g_fuglemanref12_Right_7, g_fuglemanref12_Right_8, g_fuglemanref12_Right_9, g_fuglemanref12_Right_10, g_fuglemanref12_Right_11, g_fuglemanref12_Right_12, g_fuglemanref12_Right_13, hr, hw, Ins.c, o1, o3, o4, o6, o7, o8, o9, oa, ob]
theorem cl_in (op : Int) : (cl op = 0 ∧ (op < 1 ∨ 36 < op)) ∨ (cl op = 1) ∨ (cl op = 2) ∨ (cl op = 3 ∧ 25 ≤ op ∧ op ≤ 27) ∨ (cl op = 4 ∧ (op = 13 ∨ (28 ≤ op ∧ op ≤ 30) ∨ op = 33)) ∨ (cl op = 5 ∧ op = 31) ∨ (cl op = 6 ∧ op = 32) ∨ (cl op = 7 ∧ (op = 34 ∨ op = 35)) ∨ (cl op = 8 ∧ op = 36) := by
  unfold cl
  repeat' split
  all_goals omega
theorem rright_a (k : Nat) (i : Ins) (hi : i.In) : acall T (k + 11) 10 0 [.agg i.c] [] = some ⟨.v (.bool (right i)), [], 1⟩ := by
  rcases cl_in i.op with ⟨h, h' | h'⟩ | h | h | ⟨h, h'⟩ | ⟨h, h' | h' | h'⟩ | ⟨h, h'⟩ | ⟨h, h'⟩ | ⟨h, h' | h'⟩ | ⟨h, h'⟩
  · exact rright_0b k i hi h h'
  · exact rright_0a k i hi h h'
  · exact rright_1 k i hi h
  · exact rright_2 k i hi h
  · exact rright_3 k i hi h h'
  · exact rright_4a k i hi h h'
  · exact rright_4b k i hi h h'
  · exact rright_4c k i hi h h'
  · exact rright_5 k i hi h h'
  · exact rright_6 k i hi h h'
  all_goals (cases p3 : (i.ar == 3)
             case true => first | exact rright_7ax k i hi h h' p3 | exact rright_7bx k i hi h h' p3 | exact rright_8x k i hi h h' p3
             cases p4 : (i.ar == 4) <;> first | exact rright_7ay k i hi h h' p3 p4 | exact rright_7az k i hi h h' p3 p4 | exact rright_7by k i hi h h' p3 p4 | exact rright_7bz k i hi h h' p3 p4 | exact rright_8y k i hi h h' p3 p4 | exact rright_8z k i hi h h' p3 p4)
end Go.Proofs.Ytlefnekfeeihaaa.Ver

/- What is ahead of an instruction: package verify's small functions. -/
namespace Go.Proofs.Ytlefnekfeeihaaa.Ver
open Go Go.Proofs.Ytlefnekfeeihaaa.Sym Go.Proofs.Ytlefnekfeeihaaa.Tab
set_option linter.unusedVariables false
set_option linter.unusedSimpArgs false
set_option maxHeartbeats 4000000
set_option maxRecDepth 20000
def brs (bs : List (Int × Int)) : List AV := bs.flatMap fun p => [.v (.int .i64 p.1), .v (.int .i64 p.2)]
theorem brs_len {bs : List (Int × Int)} : (brs bs).length = bs.length * 2 := by
  induction bs with
  | nil => rfl
  | cons p bs ih => rw [show brs (p :: bs) = .v (.int .i64 p.1) :: .v (.int .i64 p.2) :: brs bs from rfl]; simp only [List.length_cons, ih]; omega
theorem brs_flat {bs : List (Int × Int)} : (brs bs).all flat0 = true := by
  induction bs with
  | nil => rfl
  | cons p bs ih => rw [show brs (p :: bs) = .v (.int .i64 p.1) :: .v (.int .i64 p.2) :: brs bs from rfl]; simp only [List.all_cons, ih]; rfl
theorem brs_atom {bs : List (Int × Int)} : (brs bs).all atom = true := by
  induction bs with
  | nil => rfl
  | cons p bs ih => rw [show brs (p :: bs) = .v (.int .i64 p.1) :: .v (.int .i64 p.2) :: brs bs from rfl]; simp only [List.all_cons, ih]; rfl
theorem brs_snoc {bs : List (Int × Int)} {a b : Int} : brs bs ++ [.v (.int .i64 a), .v (.int .i64 b)] = brs (bs ++ [(a, b)]) := by simp [brs]
theorem brs_take {bs : List (Int × Int)} : (brs bs).take (bs.length * 2) = brs bs := by rw [← brs_len, List.take_length]
def openA (nil : Bool) (bs : List (Int × Int)) : AV := if nil = true then .v (.slice none 0 0) else .shr bs.length false (brs bs)
theorem open_atom {n : Bool} {bs : List (Int × Int)} : atom (openA n bs) = true := by cases n <;> rfl
theorem open_flat {n : Bool} {bs : List (Int × Int)} : flat0 (openA n bs) = true := by cases n <;> rfl
theorem open_refs {n : Bool} {bs : List (Int × Int)} : refs0 (openA n bs) = [] := by cases n <;> rfl
theorem open_ren {f : Nat → Nat} {n : Bool} {bs : List (Int × Int)} : ren0 f (openA n bs) = openA n bs := by cases n <;> rfl
structure Ah where
  k : Int
  nil : Bool
  bs : List (Int × Int)
def Ah.c (a : Ah) : List AV := [.v (.int .i64 a.k), openA a.nil a.bs]
structure Ah.In (a : Ah) : Prop where
  nil : a.nil = true → a.bs = []
  len : a.bs.length ≤ 8
def must (b : Bool) : Int := if b = true then 0 else 6
def logic (k : Int) : Bool := may 13 k
def made (op k : Int) : Int := if 19 ≤ op ∧ op ≤ 24 then 1 else k
theorem must_a (k : Nat) (b : Bool) : acall T (k + 1) 42 0 [.v (.bool b)] [] = some ⟨.v (.int .i64 (must b)), [], 0⟩ := by
  rw [acall_go (body := b_verify_must) rfl rfl (Nat.zero_le _)]
  cases b <;> simp -implicitDefEqProofs only [eqs, eqd, aCall, Sym.reach, Sym.pos, Sym.sub, lh_some, ↓reduceIte, reduceCtorEq, Nat.reduceEqDiff, Nat.reduceAdd, Nat.reduceSub, Nat.reduceMul, Nat.reduceLT, Nat.reduceLeDiff, Nat.reduceBEq, Nat.reduceBNe, Nat.reduceGT, Int.reduceEq, Int.reduceLT, Int.reduceLE, Int.reduceToNat, Int.reduceAdd, Int.reduceSub, Int.reduceMul, Int.reduceNeg, Int.reduceBEq, Int.reduceBNe, b_verify_must, must]
theorem logic_a (k : Nat) (n : Int) : acall T (k + 4) 43 0 [.v (.int .i64 n)] [] = some ⟨.v (.bool (logic n)), [], 1⟩ := by
  rw [acall_go (body := b_verify_logic) rfl rfl (Nat.zero_le _)]
  have h := may_a k 13 n
  simp -implicitDefEqProofs only [eqs, eqd, aCall, Sym.reach, Sym.pos, Sym.sub, lh_some, ↓reduceIte, reduceCtorEq, Nat.reduceEqDiff, Nat.reduceAdd, Nat.reduceSub, Nat.reduceMul, Nat.reduceLT, Nat.reduceLeDiff, Nat.reduceBEq, Nat.reduceBNe, Nat.reduceGT, Int.reduceEq, Int.reduceLT, Int.reduceLE, Int.reduceToNat, Int.reduceAdd, Int.reduceSub, Int.reduceMul, Int.reduceNeg, Int.reduceBEq, Int.reduceBNe, b_verify_logic, h, logic]
theorem rlogic_a (k : Nat) (n : Int) : acall T (k + 4) 31 0 [.v (.int .i64 n)] [] = some ⟨.v (.bool (logic n)), [], 1⟩ := by
  rw [acall_go (body := b_fuglemanref14_logic) rfl rfl (Nat.zero_le _)]
  have h := rmay_a k 13 n
  simp -implicitDefEqProofs only [eqs, eqd, aCall, Sym.reach, Sym.pos, Sym.sub, lh_some, ↓reduceIte, reduceCtorEq, Nat.reduceEqDiff, Nat.reduceAdd, Nat.reduceSub, Nat.reduceMul, Nat.reduceLT, Nat.reduceLeDiff, Nat.reduceBEq, Nat.reduceBNe, Nat.reduceGT, Int.reduceEq, Int.reduceLT, Int.reduceLE, Int.reduceToNat, Int.reduceAdd, Int.reduceSub, Int.reduceMul, Int.reduceNeg, Int.reduceBEq, Int.reduceBNe, b_fuglemanref14_logic, h, logic]
theorem made_a (k : Nat) (op n : Int) : acall T (k + 1) 47 0 [.v (.int .i64 op), .v (.int .i64 n)] [] = some ⟨.v (.int .i64 (made op n)), [], 0⟩ := by
  rw [acall_go (body := b_verify_made) rfl rfl (Nat.zero_le _)]
  unfold made
  by_cases c1 : 19 ≤ op <;> by_cases c2 : op ≤ 24 <;> simp -implicitDefEqProofs only [eqs, eqd, aCall, Sym.reach, Sym.pos, Sym.sub, lh_some, ↓reduceIte, reduceCtorEq, Nat.reduceEqDiff, Nat.reduceAdd, Nat.reduceSub, Nat.reduceMul, Nat.reduceLT, Nat.reduceLeDiff, Nat.reduceBEq, Nat.reduceBNe, Nat.reduceGT, Int.reduceEq, Int.reduceLT, Int.reduceLE, Int.reduceToNat, Int.reduceAdd, Int.reduceSub, Int.reduceMul, Int.reduceNeg, Int.reduceBEq, Int.reduceBNe, b_verify_made, c1, c2]
theorem with_a (k : Nat) (n : Int) (o : AV) (h1 : atom o = true) (h2 : flat0 o = true) (h3 : refs0 o = []) (h4 : ∀ f, ren0 f o = o) (m : Int) : acall T (k + 1) 41 0 [.agg [.v (.int .i64 n), o], .v (.int .i64 m)] [] = some ⟨.agg [.v (.int .i64 m), o], [], 1⟩ := by
  rw [acall_go (body := b_verify_ahead_with) rfl rfl (Nat.zero_le _)]
  generalize hf : (atom o) = ao at *
  subst h1
  cases o <;> first | (simp only [flat0, Bool.false_eq_true] at h2; done) | simp -implicitDefEqProofs only [eqs, eqd, aCall, Sym.reach, Sym.pos, Sym.sub, lh_some, ↓reduceIte, reduceCtorEq, Nat.reduceEqDiff, Nat.reduceAdd, Nat.reduceSub, Nat.reduceMul, Nat.reduceLT, Nat.reduceLeDiff, Nat.reduceBEq, Nat.reduceBNe, Nat.reduceGT, Int.reduceEq, Int.reduceLT, Int.reduceLE, Int.reduceToNat, Int.reduceAdd, Int.reduceSub, Int.reduceMul, Int.reduceNeg, Int.reduceBEq, Int.reduceBNe, b_verify_ahead_with]
theorem ret_a (k : Nat) (a : Ah) (ha : a.In) (op : Int) : acall T (k + 1) 44 0 [.agg a.c, .v (.int .i64 op)] [] = some ⟨.tup [.agg a.c, .v (.int .i64 (if op ≠ 28 ∧ a.k ≠ 1 then 6 else if 0 < a.bs.length then 3 else 0))], [], 1⟩ := by
  rw [acall_go (body := b_verify_ahead_ret) rfl rfl (Nat.zero_le _)]
  obtain ⟨n, nil, bs⟩ := a
  have hn := ha.nil
  simp only at hn
  have key : acall T 0 0 0 [] [] = none := rfl
  cases nil
  · simp only [Ah.c, openA, Bool.false_eq_true, if_false]
    by_cases c1 : op = 28
    · have d1 : (op != 28) = false := by simp [c1]
      by_cases c3 : 0 < bs.length
      · have c3' : (0 : Int) < bs.length := by omega
        simp -implicitDefEqProofs only [eqs, eqd, aCall, Sym.reach, Sym.pos, Sym.sub, lh_some, ↓reduceIte, reduceCtorEq, Nat.reduceEqDiff, Nat.reduceAdd, Nat.reduceSub, Nat.reduceMul, Nat.reduceLT, Nat.reduceLeDiff, Nat.reduceBEq, Nat.reduceBNe, Nat.reduceGT, Int.reduceEq, Int.reduceLT, Int.reduceLE, Int.reduceToNat, Int.reduceAdd, Int.reduceSub, Int.reduceMul, Int.reduceNeg, Int.reduceBEq, Int.reduceBNe, b_verify_ahead_ret, g_verify_ahead_ret_0, d1, c1, c3, c3']
      · have c3' : ¬ (0 : Int) < bs.length := by omega
        simp -implicitDefEqProofs only [eqs, eqd, aCall, Sym.reach, Sym.pos, Sym.sub, lh_some, ↓reduceIte, reduceCtorEq, Nat.reduceEqDiff, Nat.reduceAdd, Nat.reduceSub, Nat.reduceMul, Nat.reduceLT, Nat.reduceLeDiff, Nat.reduceBEq, Nat.reduceBNe, Nat.reduceGT, Int.reduceEq, Int.reduceLT, Int.reduceLE, Int.reduceToNat, Int.reduceAdd, Int.reduceSub, Int.reduceMul, Int.reduceNeg, Int.reduceBEq, Int.reduceBNe, b_verify_ahead_ret, g_verify_ahead_ret_0, d1, c1, c3, c3']
    · have d1 : (op != 28) = true := by simp [c1]
      by_cases c2 : n = 1
      · have d2 : (n != 1) = false := by simp [c2]
        by_cases c3 : 0 < bs.length
        · have c3' : (0 : Int) < bs.length := by omega
          simp -implicitDefEqProofs only [eqs, eqd, aCall, Sym.reach, Sym.pos, Sym.sub, lh_some, ↓reduceIte, reduceCtorEq, Nat.reduceEqDiff, Nat.reduceAdd, Nat.reduceSub, Nat.reduceMul, Nat.reduceLT, Nat.reduceLeDiff, Nat.reduceBEq, Nat.reduceBNe, Nat.reduceGT, Int.reduceEq, Int.reduceLT, Int.reduceLE, Int.reduceToNat, Int.reduceAdd, Int.reduceSub, Int.reduceMul, Int.reduceNeg, Int.reduceBEq, Int.reduceBNe, b_verify_ahead_ret, g_verify_ahead_ret_0, d1, d2, c1, c2, c3, c3']
        · have c3' : ¬ (0 : Int) < bs.length := by omega
          simp -implicitDefEqProofs only [eqs, eqd, aCall, Sym.reach, Sym.pos, Sym.sub, lh_some, ↓reduceIte, reduceCtorEq, Nat.reduceEqDiff, Nat.reduceAdd, Nat.reduceSub, Nat.reduceMul, Nat.reduceLT, Nat.reduceLeDiff, Nat.reduceBEq, Nat.reduceBNe, Nat.reduceGT, Int.reduceEq, Int.reduceLT, Int.reduceLE, Int.reduceToNat, Int.reduceAdd, Int.reduceSub, Int.reduceMul, Int.reduceNeg, Int.reduceBEq, Int.reduceBNe, b_verify_ahead_ret, g_verify_ahead_ret_0, d1, d2, c1, c2, c3, c3']
      · have d2 : (n != 1) = true := by simp [c2]
        simp -implicitDefEqProofs only [eqs, eqd, aCall, Sym.reach, Sym.pos, Sym.sub, lh_some, ↓reduceIte, reduceCtorEq, Nat.reduceEqDiff, Nat.reduceAdd, Nat.reduceSub, Nat.reduceMul, Nat.reduceLT, Nat.reduceLeDiff, Nat.reduceBEq, Nat.reduceBNe, Nat.reduceGT, Int.reduceEq, Int.reduceLT, Int.reduceLE, Int.reduceToNat, Int.reduceAdd, Int.reduceSub, Int.reduceMul, Int.reduceNeg, Int.reduceBEq, Int.reduceBNe, b_verify_ahead_ret, g_verify_ahead_ret_0, d1, d2, c1, c2]
  · obtain rfl := hn rfl
    simp only [Ah.c, openA, if_true]
    by_cases c1 : op = 28
    · have d1 : (op != 28) = false := by simp [c1]
      simp -implicitDefEqProofs only [eqs, eqd, aCall, Sym.reach, Sym.pos, Sym.sub, lh_some, ↓reduceIte, reduceCtorEq, Nat.reduceEqDiff, Nat.reduceAdd, Nat.reduceSub, Nat.reduceMul, Nat.reduceLT, Nat.reduceLeDiff, Nat.reduceBEq, Nat.reduceBNe, Nat.reduceGT, Int.reduceEq, Int.reduceLT, Int.reduceLE, Int.reduceToNat, Int.reduceAdd, Int.reduceSub, Int.reduceMul, Int.reduceNeg, Int.reduceBEq, Int.reduceBNe, b_verify_ahead_ret, g_verify_ahead_ret_0, d1, c1]
    · have d1 : (op != 28) = true := by simp [c1]
      by_cases c2 : n = 1
      · have d2 : (n != 1) = false := by simp [c2]
        simp -implicitDefEqProofs only [eqs, eqd, aCall, Sym.reach, Sym.pos, Sym.sub, lh_some, ↓reduceIte, reduceCtorEq, Nat.reduceEqDiff, Nat.reduceAdd, Nat.reduceSub, Nat.reduceMul, Nat.reduceLT, Nat.reduceLeDiff, Nat.reduceBEq, Nat.reduceBNe, Nat.reduceGT, Int.reduceEq, Int.reduceLT, Int.reduceLE, Int.reduceToNat, Int.reduceAdd, Int.reduceSub, Int.reduceMul, Int.reduceNeg, Int.reduceBEq, Int.reduceBNe, b_verify_ahead_ret, g_verify_ahead_ret_0, d1, d2, c1, c2]
      · have d2 : (n != 1) = true := by simp [c2]
        simp -implicitDefEqProofs only [eqs, eqd, aCall, Sym.reach, Sym.pos, Sym.sub, lh_some, ↓reduceIte, reduceCtorEq, Nat.reduceEqDiff, Nat.reduceAdd, Nat.reduceSub, Nat.reduceMul, Nat.reduceLT, Nat.reduceLeDiff, Nat.reduceBEq, Nat.reduceBNe, Nat.reduceGT, Int.reduceEq, Int.reduceLT, Int.reduceLE, Int.reduceToNat, Int.reduceAdd, Int.reduceSub, Int.reduceMul, Int.reduceNeg, Int.reduceBEq, Int.reduceBNe, b_verify_ahead_ret, g_verify_ahead_ret_0, d1, d2, c1, c2]
def push (a : Ah) (op : Int) : Ah × Int := if may op a.k = false then (a, 6) else if a.bs.length = 8 then (a, 8) else (⟨0, false, a.bs ++ [(op, a.k)]⟩, 0)
theorem clip_nil (k : Nat) : acall T (k + 1) 53 0 [.v (.slice none 0 0)] [] = some ⟨.v (.slice none 0 0), [], 0⟩ := by
  rw [acall_go (body := b_verify_bracket_53) rfl rfl (Nat.zero_le _)]
  simp -implicitDefEqProofs only [eqs, eqd, aCall, Sym.reach, Sym.pos, Sym.sub, lh_some, ↓reduceIte, reduceCtorEq, Nat.reduceEqDiff, Nat.reduceAdd, Nat.reduceSub, Nat.reduceMul, Nat.reduceLT, Nat.reduceLeDiff, Nat.reduceBEq, Nat.reduceBNe, Nat.reduceGT, Int.reduceEq, Int.reduceLT, Int.reduceLE, Int.reduceToNat, Int.reduceAdd, Int.reduceSub, Int.reduceMul, Int.reduceNeg, Int.reduceBEq, Int.reduceBNe, b_verify_bracket_53]
theorem clip_shr (k : Nat) (bs : List (Int × Int)) : acall T (k + 1) 53 0 [.shr bs.length false (brs bs)] [] = some ⟨.shr bs.length true (brs bs), [], 0⟩ := by
  rw [acall_go (body := b_verify_bracket_53) rfl rfl (Nat.zero_le _)]
  simp -implicitDefEqProofs only [eqs, eqd, aCall, Sym.reach, Sym.pos, Sym.sub, lh_some, ↓reduceIte, reduceCtorEq, Nat.reduceEqDiff, Nat.reduceAdd, Nat.reduceSub, Nat.reduceMul, Nat.reduceLT, Nat.reduceLeDiff, Nat.reduceBEq, Nat.reduceBNe, Nat.reduceGT, Int.reduceEq, Int.reduceLT, Int.reduceLE, Int.reduceToNat, Int.reduceAdd, Int.reduceSub, Int.reduceMul, Int.reduceNeg, Int.reduceBEq, Int.reduceBNe, b_verify_bracket_53, brs_take]
theorem push_a (k : Nat) (a : Ah) (ha : a.In) (op : Int) : acall T (k + 4) 45 0 [.agg a.c, .v (.int .i64 op)] [] = some ⟨.tup [.agg (push a op).1.c, .v (.int .i64 (push a op).2)], [], 1⟩ := by
  rw [acall_go (body := b_verify_ahead_push) rfl rfl (Nat.zero_le _)]
  obtain ⟨n, nil, bs⟩ := a
  have hn := ha.nil
  have hl := ha.len
  have hm := may_a k op n
  simp only at hn hl
  unfold push
  cases c0 : may op n
  · rw [c0] at hm
    cases nil
    · simp only [Ah.c, openA, Bool.false_eq_true, if_false, if_true]
      simp -implicitDefEqProofs only [eqs, eqd, aCall, Sym.reach, Sym.pos, Sym.sub, lh_some, ↓reduceIte, reduceCtorEq, Nat.reduceEqDiff, Nat.reduceAdd, Nat.reduceSub, Nat.reduceMul, Nat.reduceLT, Nat.reduceLeDiff, Nat.reduceBEq, Nat.reduceBNe, Nat.reduceGT, Int.reduceEq, Int.reduceLT, Int.reduceLE, Int.reduceToNat, Int.reduceAdd, Int.reduceSub, Int.reduceMul, Int.reduceNeg, Int.reduceBEq, Int.reduceBNe, b_verify_ahead_push, g_verify_ahead_push_0, hm]
    · obtain rfl := hn rfl
      simp only [Ah.c, openA, if_true]
      simp -implicitDefEqProofs only [eqs, eqd, aCall, Sym.reach, Sym.pos, Sym.sub, lh_some, ↓reduceIte, reduceCtorEq, Nat.reduceEqDiff, Nat.reduceAdd, Nat.reduceSub, Nat.reduceMul, Nat.reduceLT, Nat.reduceLeDiff, Nat.reduceBEq, Nat.reduceBNe, Nat.reduceGT, Int.reduceEq, Int.reduceLT, Int.reduceLE, Int.reduceToNat, Int.reduceAdd, Int.reduceSub, Int.reduceMul, Int.reduceNeg, Int.reduceBEq, Int.reduceBNe, b_verify_ahead_push, g_verify_ahead_push_0, hm]
  · rw [c0] at hm
    cases nil
    · have hc := clip_shr (k + 2) bs
      by_cases c1 : bs.length = 8
      · have c1' : ((bs.length : Int) == 8) = true := by rw [beq_iff_eq]; omega
        simp only [Ah.c, openA, c1, Bool.false_eq_true, reduceCtorEq, Bool.true_eq_false, if_false, if_true]
        rw [← c1]
        simp -implicitDefEqProofs only [eqs, eqd, aCall, Sym.reach, Sym.pos, Sym.sub, lh_some, ↓reduceIte, reduceCtorEq, Nat.reduceEqDiff, Nat.reduceAdd, Nat.reduceSub, Nat.reduceMul, Nat.reduceLT, Nat.reduceLeDiff, Nat.reduceBEq, Nat.reduceBNe, Nat.reduceGT, Int.reduceEq, Int.reduceLT, Int.reduceLE, Int.reduceToNat, Int.reduceAdd, Int.reduceSub, Int.reduceMul, Int.reduceNeg, Int.reduceBEq, Int.reduceBNe, b_verify_ahead_push, g_verify_ahead_push_0, hm, c1']
      · have c1' : ((bs.length : Int) == 8) = false := by rw [beq_eq_false_iff_ne]; omega
        have b1 : (bs.length + 1) * 16 ≤ 140737488355328 := by omega
        have b2 : bs.length ≤ 9223372036854775806 := by omega
        have b3 : bs.length * 2 = bs.length * 2 := rfl
        have b4 : bs.length + 1 ≤ 9223372036854775807 := by omega
        have b5 : (brs bs ++ [AV.v (.int .i64 op), AV.v (.int .i64 n)]).take ((bs.length + 1) * 2) = brs bs ++ [AV.v (.int .i64 op), AV.v (.int .i64 n)] := List.take_of_length_le (by rw [List.length_append, brs_len]; simp; omega)
        have b7 : (bs.length + 1) * 2 ≤ bs.length * 2 + 2 := by omega
        have b6 : (bs ++ [(op, n)]).length = bs.length + 1 := by simp
        simp only [Ah.c, openA, c1, Bool.false_eq_true, reduceCtorEq, Bool.true_eq_false, if_false, if_true, b6]
        rw [← brs_snoc]
        simp -implicitDefEqProofs only [eqs, eqd, aCall, Sym.reach, Sym.pos, Sym.sub, lh_some, ↓reduceIte, reduceCtorEq, Nat.reduceEqDiff, Nat.reduceAdd, Nat.reduceSub, Nat.reduceMul, Nat.reduceLT, Nat.reduceLeDiff, Nat.reduceBEq, Nat.reduceBNe, Nat.reduceGT, Int.reduceEq, Int.reduceLT, Int.reduceLE, Int.reduceToNat, Int.reduceAdd, Int.reduceSub, Int.reduceMul, Int.reduceNeg, Int.reduceBEq, Int.reduceBNe, b_verify_ahead_push, g_verify_ahead_push_0, hm, hc, c1', b1, b2, b4, b5, b7, brs_len, brs_flat, brs_atom, List.all_append, List.length_append]
    · obtain rfl := hn rfl
      have hc := clip_nil (k + 2)
      simp only [Ah.c, openA, List.length_nil, reduceCtorEq, Bool.false_eq_true, Bool.true_eq_false, Nat.reduceEqDiff, if_false, if_true]
      simp -implicitDefEqProofs only [eqs, eqd, aCall, Sym.reach, Sym.pos, Sym.sub, lh_some, ↓reduceIte, reduceCtorEq, Nat.reduceEqDiff, Nat.reduceAdd, Nat.reduceSub, Nat.reduceMul, Nat.reduceLT, Nat.reduceLeDiff, Nat.reduceBEq, Nat.reduceBNe, Nat.reduceGT, Int.reduceEq, Int.reduceLT, Int.reduceLE, Int.reduceToNat, Int.reduceAdd, Int.reduceSub, Int.reduceMul, Int.reduceNeg, Int.reduceBEq, Int.reduceBNe, b_verify_ahead_push, g_verify_ahead_push_0, hm, hc, brs]
end Go.Proofs.Ytlefnekfeeihaaa.Ver

/- What is ahead of an instruction: package verify's behind. -/
namespace Go.Proofs.Ytlefnekfeeihaaa.Ver
open Go Go.Proofs.Ytlefnekfeeihaaa.Sym Go.Proofs.Ytlefnekfeeihaaa.Tab
set_option linter.unusedVariables false
set_option linter.unusedSimpArgs false
set_option maxHeartbeats 4000000
set_option maxRecDepth 20000
def pop (a : Ah) : Ah × Int := match a.bs.getLast? with
  | none => (a, 3)
  | some p => if p.2 ≠ a.k then (a, 6) else (⟨made p.1 p.2, false, a.bs.dropLast⟩, 0)
theorem brs_at (bs : List (Int × Int)) (p : Int × Int) : ((brs (bs ++ [p])).drop (bs.length * 2)).take 2 = [.v (.int .i64 p.1), .v (.int .i64 p.2)] := by
  obtain ⟨x, y⟩ := p
  rw [← brs_snoc, ← brs_len, List.drop_left]
  rfl
theorem brs_front (bs : List (Int × Int)) (p : Int × Int) : (brs (bs ++ [p])).take (bs.length * 2) = brs bs := by
  obtain ⟨x, y⟩ := p
  rw [← brs_snoc, ← brs_len, List.take_left]
theorem pop_a (k : Nat) (a : Ah) (ha : a.In) : acall T (k + 2) 46 0 [.agg a.c] [] = some ⟨.tup [.agg (pop a).1.c, .v (.int .i64 (pop a).2)], [], 1⟩ := by
  rw [acall_go (body := b_verify_ahead_pop) rfl rfl (Nat.zero_le _)]
  obtain ⟨n, nil, bs⟩ := a
  have hn := ha.nil
  have hl := ha.len
  simp only at hn hl
  unfold pop
  rcases List.eq_nil_or_concat bs with rfl | ⟨bs, p, rfl⟩
  · cases nil
    · simp only [Ah.c, openA, Bool.false_eq_true, if_false, List.getLast?_nil]
      simp -implicitDefEqProofs only [eqs, eqd, aCall, Sym.reach, Sym.pos, Sym.sub, lh_some, ↓reduceIte, reduceCtorEq, Nat.reduceEqDiff, Nat.reduceAdd, Nat.reduceSub, Nat.reduceMul, Nat.reduceLT, Nat.reduceLeDiff, Nat.reduceBEq, Nat.reduceBNe, Nat.reduceGT, Int.reduceEq, Int.reduceLT, Int.reduceLE, Int.reduceToNat, Int.reduceAdd, Int.reduceSub, Int.reduceMul, Int.reduceNeg, Int.reduceBEq, Int.reduceBNe, b_verify_ahead_pop]
    · simp only [Ah.c, openA, if_true, List.getLast?_nil]
      simp -implicitDefEqProofs only [eqs, eqd, aCall, Sym.reach, Sym.pos, Sym.sub, lh_some, ↓reduceIte, reduceCtorEq, Nat.reduceEqDiff, Nat.reduceAdd, Nat.reduceSub, Nat.reduceMul, Nat.reduceLT, Nat.reduceLeDiff, Nat.reduceBEq, Nat.reduceBNe, Nat.reduceGT, Int.reduceEq, Int.reduceLT, Int.reduceLE, Int.reduceToNat, Int.reduceAdd, Int.reduceSub, Int.reduceMul, Int.reduceNeg, Int.reduceBEq, Int.reduceBNe, b_verify_ahead_pop]
  · cases nil
    · rw [List.concat_eq_append] at hl ⊢
      rw [List.length_append, List.length_singleton] at hl
      have e1 : (bs ++ [p]).length = bs.length + 1 := by simp
      have e2 : (((bs.length + 1 : Nat) : Int) == 0) = false := by rw [beq_eq_false_iff_ne]; omega
      have e3 : IntKind.i64.wrap (((bs.length + 1 : Nat) : Int) - 1) = (bs.length : Nat) := by rw [w64 (by omega) (by omega)]; omega
      have e4 : ((bs.length : Nat) : Int) < ((bs.length + 1 : Nat) : Int) := by omega
      have e5 := brs_at bs p
      have e6 := brs_front bs p
      have e7 : (brs (bs ++ [p])).length = bs.length * 2 + 2 := by rw [brs_len, e1]; omega
      have e8 : bs.length ≤ bs.length + 1 := by omega
      have e9 : bs.length * 2 + 2 ≤ bs.length * 2 + 2 := Nat.le_refl _
      have e10 : (bs.length == bs.length + 1) = false := by rw [beq_eq_false_iff_ne]; omega
      simp only [List.getLast?_append, List.getLast?_singleton, Option.or_some, Option.some_or, List.dropLast_concat]
      simp only [Ah.c, openA, Bool.false_eq_true, if_false, e1]
      by_cases c : p.2 = n
      · have c' : (p.2 != n) = false := by simp [c]
        have hm := made_a k p.1 n
        simp only [c, ne_eq, not_true_eq_false, if_false]
        rw [c] at e5
        generalize hX : bs.length + 1 = M at *
        simp -implicitDefEqProofs only [eqs, eqd, aCall, Sym.reach, Sym.pos, Sym.sub, lh_some, ↓reduceIte, reduceCtorEq, Nat.reduceEqDiff, Nat.reduceAdd, Nat.reduceSub, Nat.reduceMul, Nat.reduceLT, Nat.reduceLeDiff, Nat.reduceBEq, Nat.reduceBNe, Nat.reduceGT, Int.reduceEq, Int.reduceLT, Int.reduceLE, Int.reduceToNat, Int.reduceAdd, Int.reduceSub, Int.reduceMul, Int.reduceNeg, Int.reduceBEq, Int.reduceBNe, b_verify_ahead_pop, e2, e3, e4, e5, e6, e7, e8, e9, e10, c, c', hm]
      · have c' : (p.2 != n) = true := by simp [c]
        simp only [c, ne_eq, not_false_eq_true, if_true]
        generalize hX : bs.length + 1 = M at *
        simp -implicitDefEqProofs only [eqs, eqd, aCall, Sym.reach, Sym.pos, Sym.sub, lh_some, ↓reduceIte, reduceCtorEq, Nat.reduceEqDiff, Nat.reduceAdd, Nat.reduceSub, Nat.reduceMul, Nat.reduceLT, Nat.reduceLeDiff, Nat.reduceBEq, Nat.reduceBNe, Nat.reduceGT, Int.reduceEq, Int.reduceLT, Int.reduceLE, Int.reduceToNat, Int.reduceAdd, Int.reduceSub, Int.reduceMul, Int.reduceNeg, Int.reduceBEq, Int.reduceBNe, b_verify_ahead_pop, e2, e3, e4, e5, e6, e7, e8, e9, e10, c, c', e1]
    · have := hn rfl
      simp at this
/-- An instruction, if it may stand there. -/
def beh (a : Ah) (i : Ins) : Ah × Int :=
  if i.op = 1 then ({ a with k := i.k }, 0)
  else if i.op = 2 then ({ a with k := i.k }, must (logic i.k))
  else if i.op = 3 then (a, must (a.k == i.k))
  else if i.op = 4 then (a, must ((a.k == i.k) && logic i.k))
  else if i.op = 5 ∨ i.op = 6 then (a, must ((a.k == 1) && (i.k == 1)))
  else if i.op = 13 then (a, must (logic a.k))
  else if i.op = 25 then (a, 0)
  else if i.op = 26 ∨ i.op = 27 ∨ i.op = 34 ∨ i.op = 35 ∨ i.op = 36 then (a, must (a.k == 1))
  else if i.op = 28 ∨ i.op = 29 ∨ i.op = 30 then (a, if i.op ≠ 28 ∧ a.k ≠ 1 then 6 else if 0 < a.bs.length then 3 else 0)
  else if i.op = 31 then ({ a with k := i.k }, must (a.k != 0))
  else if i.op = 32 then push a i.at_
  else if i.op = 33 then pop a
  else ({ a with k := made i.op i.k }, must ((a.k == i.k) && may i.op i.k))
end Go.Proofs.Ytlefnekfeeihaaa.Ver
