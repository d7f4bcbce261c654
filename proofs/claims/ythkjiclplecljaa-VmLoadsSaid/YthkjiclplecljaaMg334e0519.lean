/- Instructions that may be: the document's answer. Written by a program for this claim. -/
import Derived.Test.YthkjiclplecljaaMgdc55c505
namespace Go.Proofs.Ythkjiclplecljaa.Ver
open Go Go.Proofs.Ythkjiclplecljaa.Sym Go.Proofs.Ythkjiclplecljaa.Tab
set_option linter.unusedVariables false
set_option linter.unusedSimpArgs false
set_option maxHeartbeats 4000000
set_option maxRecDepth 20000
def rd1 (op : Int) : Bool := op == 1 || (op == 2 || ((decide (7 ≤ op) && decide (op ≤ 12)) || (decide (14 ≤ op) && decide (op ≤ 24))))
theorem reads_a (k : Nat) (op : Int) : acall T (k + 1) 41 0 [.v (.int .i64 op)] [] = some ⟨.v (.bool (rd1 op)), [], 0⟩ := by
  rw [acall_go (body := b_fuglemanref12_reads) rfl rfl (Nat.zero_le _)]
  unfold rd1
  cases h1 : (op == 1)
  case true => simp -implicitDefEqProofs only [eqs, eqd, eqe, lh_some, ↓reduceIte, reduceCtorEq, Nat.reduceEqDiff, Nat.reduceAdd, Nat.reduceSub, Nat.reduceMul, Nat.reduceLT, Nat.reduceLeDiff, Nat.reduceBEq, Nat.reduceBNe, Nat.reduceGT, Int.reduceEq, Int.reduceLT, Int.reduceLE, Int.reduceToNat, Int.reduceAdd, Int.reduceSub, Int.reduceMul, Int.reduceNeg, Int.reduceBEq, Int.reduceBNe, b_fuglemanref12_reads, h1]
  cases h2 : (op == 2)
  case true => simp -implicitDefEqProofs only [eqs, eqd, eqe, lh_some, ↓reduceIte, reduceCtorEq, Nat.reduceEqDiff, Nat.reduceAdd, Nat.reduceSub, Nat.reduceMul, Nat.reduceLT, Nat.reduceLeDiff, Nat.reduceBEq, Nat.reduceBNe, Nat.reduceGT, Int.reduceEq, Int.reduceLT, Int.reduceLE, Int.reduceToNat, Int.reduceAdd, Int.reduceSub, Int.reduceMul, Int.reduceNeg, Int.reduceBEq, Int.reduceBNe, b_fuglemanref12_reads, h1, h2]
  cases h3 : decide (7 ≤ op) <;> cases h4 : decide (op ≤ 12) <;> cases h5 : decide (14 ≤ op) <;> cases h6 : decide (op ≤ 24) <;> simp -implicitDefEqProofs only [eqs, eqd, eqe, lh_some, ↓reduceIte, reduceCtorEq, Nat.reduceEqDiff, Nat.reduceAdd, Nat.reduceSub, Nat.reduceMul, Nat.reduceLT, Nat.reduceLeDiff, Nat.reduceBEq, Nat.reduceBNe, Nat.reduceGT, Int.reduceEq, Int.reduceLT, Int.reduceLE, Int.reduceToNat, Int.reduceAdd, Int.reduceSub, Int.reduceMul, Int.reduceNeg, Int.reduceBEq, Int.reduceBNe, b_fuglemanref12_reads, h1, h2, h3, h4, h5, h6]
theorem rd1_cl (op : Int) : rd1 op = (cl op == 1) := by
  have key : rd1 op = true ↔ cl op = 1 := by
    unfold rd1 cl
    simp only [Bool.or_eq_true, Bool.and_eq_true, beq_iff_eq, decide_eq_true_eq]
    repeat' split
    all_goals omega
  cases h : rd1 op
  · rw [eq_comm, beq_eq_false_iff_ne]; intro e; rw [key.2 e] at h; cases h
  · rw [eq_comm, beq_iff_eq]; exact key.1 h
theorem writes_a (k : Nat) (op : Int) : acall T (k + 1) 43 0 [.v (.int .i64 op)] [] = some ⟨.v (.bool (decide (3 ≤ op) && decide (op ≤ 6))), [], 0⟩ := by
  rw [acall_go (body := b_fuglemanref12_writes) rfl rfl (Nat.zero_le _)]
  try simp -implicitDefEqProofs only [eqs, eqd, eqe, lh_some, ↓reduceIte, reduceCtorEq, Nat.reduceEqDiff, Nat.reduceAdd, Nat.reduceSub, Nat.reduceMul, Nat.reduceLT, Nat.reduceLeDiff, Nat.reduceBEq, Nat.reduceBNe, Nat.reduceGT, Int.reduceEq, Int.reduceLT, Int.reduceLE, Int.reduceToNat, Int.reduceAdd, Int.reduceSub, Int.reduceMul, Int.reduceNeg, Int.reduceBEq, Int.reduceBNe, b_fuglemanref12_writes]
  cases h0 : decide (3 ≤ op)
  · simp -implicitDefEqProofs only [eqs, eqd, eqe, lh_some, ↓reduceIte, reduceCtorEq, Nat.reduceEqDiff, Nat.reduceAdd, Nat.reduceSub, Nat.reduceMul, Nat.reduceLT, Nat.reduceLeDiff, Nat.reduceBEq, Nat.reduceBNe, Nat.reduceGT, Int.reduceEq, Int.reduceLT, Int.reduceLE, Int.reduceToNat, Int.reduceAdd, Int.reduceSub, Int.reduceMul, Int.reduceNeg, Int.reduceBEq, Int.reduceBNe, b_fuglemanref12_writes, h0]
  simp -implicitDefEqProofs only [eqs, eqd, eqe, lh_some, ↓reduceIte, reduceCtorEq, Nat.reduceEqDiff, Nat.reduceAdd, Nat.reduceSub, Nat.reduceMul, Nat.reduceLT, Nat.reduceLeDiff, Nat.reduceBEq, Nat.reduceBNe, Nat.reduceGT, Int.reduceEq, Int.reduceLT, Int.reduceLE, Int.reduceToNat, Int.reduceAdd, Int.reduceSub, Int.reduceMul, Int.reduceNeg, Int.reduceBEq, Int.reduceBNe, b_fuglemanref12_writes, h0]
theorem there_a (k : Nat) (at_ n : Int) (hat : -9223372036854775808 ≤ at_ ∧ at_ ≤ 9223372036854775807) : acall T (k + 3) 44 0 [.v (.int .i64 64), .v (.int .i64 at_), .v (.int .i64 n)] [] = some ⟨.v (.bool (decide (0 < ksz n) && (decide (0 ≤ at_) && decide (at_ ≤ 64 - ksz n)))), [], 1⟩ := by
  rw [acall_go (body := b_fuglemanref11_There) rfl rfl (Nat.zero_le _)]
  have h := rsize_a k n
  have hk := ksz_in n
  by_cases h1 : 0 < ksz n
  · by_cases h2 : 0 ≤ at_
    · have e : IntKind.i64.wrap (64 - at_) = 64 - at_ := w64 (by omega) (by omega)
      by_cases h3 : at_ ≤ 64 - ksz n
      · have h4 : at_ ≤ 64 := by omega
        have h5 : ksz n ≤ 64 - at_ := by omega
        simp -implicitDefEqProofs only [eqs, eqd, eqe, lh_some, ↓reduceIte, reduceCtorEq, Nat.reduceEqDiff, Nat.reduceAdd, Nat.reduceSub, Nat.reduceMul, Nat.reduceLT, Nat.reduceLeDiff, Nat.reduceBEq, Nat.reduceBNe, Nat.reduceGT, Int.reduceEq, Int.reduceLT, Int.reduceLE, Int.reduceToNat, Int.reduceAdd, Int.reduceSub, Int.reduceMul, Int.reduceNeg, Int.reduceBEq, Int.reduceBNe, b_fuglemanref11_There, h, h1, h2, h3, h4, h5, e]
      · by_cases h4 : at_ ≤ 64
        · have h5 : ¬ ksz n ≤ 64 - at_ := by omega
          simp -implicitDefEqProofs only [eqs, eqd, eqe, lh_some, ↓reduceIte, reduceCtorEq, Nat.reduceEqDiff, Nat.reduceAdd, Nat.reduceSub, Nat.reduceMul, Nat.reduceLT, Nat.reduceLeDiff, Nat.reduceBEq, Nat.reduceBNe, Nat.reduceGT, Int.reduceEq, Int.reduceLT, Int.reduceLE, Int.reduceToNat, Int.reduceAdd, Int.reduceSub, Int.reduceMul, Int.reduceNeg, Int.reduceBEq, Int.reduceBNe, b_fuglemanref11_There, h, h1, h2, h3, h4, h5, e]
        · have h5 : ¬ ksz n ≤ 64 - at_ := by omega
          simp -implicitDefEqProofs only [eqs, eqd, eqe, lh_some, ↓reduceIte, reduceCtorEq, Nat.reduceEqDiff, Nat.reduceAdd, Nat.reduceSub, Nat.reduceMul, Nat.reduceLT, Nat.reduceLeDiff, Nat.reduceBEq, Nat.reduceBNe, Nat.reduceGT, Int.reduceEq, Int.reduceLT, Int.reduceLE, Int.reduceToNat, Int.reduceAdd, Int.reduceSub, Int.reduceMul, Int.reduceNeg, Int.reduceBEq, Int.reduceBNe, b_fuglemanref11_There, h, h1, h2, h3, h4, h5, e]
    · have e : IntKind.i64.wrap (64 - at_) = IntKind.i64.wrap (64 - at_) := rfl
      simp -implicitDefEqProofs only [eqs, eqd, eqe, lh_some, ↓reduceIte, reduceCtorEq, Nat.reduceEqDiff, Nat.reduceAdd, Nat.reduceSub, Nat.reduceMul, Nat.reduceLT, Nat.reduceLeDiff, Nat.reduceBEq, Nat.reduceBNe, Nat.reduceGT, Int.reduceEq, Int.reduceLT, Int.reduceLE, Int.reduceToNat, Int.reduceAdd, Int.reduceSub, Int.reduceMul, Int.reduceNeg, Int.reduceBEq, Int.reduceBNe, b_fuglemanref11_There, h, h1, h2]
  · simp -implicitDefEqProofs only [eqs, eqd, eqe, lh_some, ↓reduceIte, reduceCtorEq, Nat.reduceEqDiff, Nat.reduceAdd, Nat.reduceSub, Nat.reduceMul, Nat.reduceLT, Nat.reduceLeDiff, Nat.reduceBEq, Nat.reduceBNe, Nat.reduceGT, Int.reduceEq, Int.reduceLT, Int.reduceLE, Int.reduceToNat, Int.reduceAdd, Int.reduceSub, Int.reduceMul, Int.reduceNeg, Int.reduceBEq, Int.reduceBNe, b_fuglemanref11_There, h, h1]
structure Ins.In (i : Ins) : Prop where
  op : -9223372036854775808 ≤ i.op ∧ i.op ≤ 9223372036854775807
  k : -9223372036854775808 ≤ i.k ∧ i.k ≤ 9223372036854775807
  ar : -9223372036854775808 ≤ i.ar ∧ i.ar ≤ 9223372036854775807
  at_ : -9223372036854775808 ≤ i.at_ ∧ i.at_ ≤ 9223372036854775807
  n : -9223372036854775808 ≤ i.n ∧ i.n ≤ 9223372036854775807
theorem rright_1 (k : Nat) (i : Ins) (hi : i.In) (hcl : cl i.op = 1) : acall T (k + 11) 28 0 [.agg i.c] [] = some ⟨.v (.bool (right i)), [], 1⟩ := by
  rw [acall_go (body := b_fuglemanref12_Right) rfl rfl (Nat.zero_le _)]
  have hr := reads_a (k + 9) i.op
  have hw := writes_a (k + 9) i.op
  have w0 : (decide (3 ≤ i.op) && decide (i.op ≤ 6)) = false := by
    unfold cl at hcl
    by_cases c1 : 3 ≤ i.op <;> by_cases c2 : i.op ≤ 6 <;> simp [c1, c2]
    split at hcl
    · omega
    · split at hcl <;> omega
  rw [w0] at hw
  rw [rd1_cl, hcl, show ((1 : Int) == 1) = true from rfl] at hr
  unfold right stands
  rw [hcl, if_pos rfl]
  by_cases c0 : i.ar = 0
  · have hs := ris_a k i.k i.n
    rw [if_pos c0]
    have c0' : (i.ar == 0) = true := by rw [c0]; rfl
    cases h1 : isK i.k i.n <;> rw [h1] at hs <;> cases h2 : (i.at_ == 0) <;> simp -implicitDefEqProofs only [eqs, eqd, eqe, lh_some, ↓reduceIte, reduceCtorEq, Nat.reduceEqDiff, Nat.reduceAdd, Nat.reduceSub, Nat.reduceMul, Nat.reduceLT, Nat.reduceLeDiff, Nat.reduceBEq, Nat.reduceBNe, Nat.reduceGT, Int.reduceEq, Int.reduceLT, Int.reduceLE, Int.reduceToNat, Int.reduceAdd, Int.reduceSub, Int.reduceMul, Int.reduceNeg, Int.reduceBEq, Int.reduceBNe, b_fuglemanref12_Right, gs_fuglemanref12_Right, hr, hw, Ins.c, hs, c0', h2]
  · have c0' : (i.ar == 0) = false := by simpa using c0
    have hs := there_a (k + 7) i.at_ i.k hi.at_
    rw [if_neg c0]
    cases h1 : decide (0 < ksz i.k) <;> rw [h1] at hs
    case false => simp -implicitDefEqProofs only [eqs, eqd, eqe, lh_some, ↓reduceIte, reduceCtorEq, Nat.reduceEqDiff, Nat.reduceAdd, Nat.reduceSub, Nat.reduceMul, Nat.reduceLT, Nat.reduceLeDiff, Nat.reduceBEq, Nat.reduceBNe, Nat.reduceGT, Int.reduceEq, Int.reduceLT, Int.reduceLE, Int.reduceToNat, Int.reduceAdd, Int.reduceSub, Int.reduceMul, Int.reduceNeg, Int.reduceBEq, Int.reduceBNe, b_fuglemanref12_Right, gs_fuglemanref12_Right, hr, hw, Ins.c, hs, c0']
    cases h2 : decide (0 ≤ i.at_) <;> rw [h2] at hs
    case false => cases h3 : decide (1 ≤ i.ar) <;> cases h4 : decide (i.ar ≤ 4) <;> simp -implicitDefEqProofs only [eqs, eqd, eqe, lh_some, ↓reduceIte, reduceCtorEq, Nat.reduceEqDiff, Nat.reduceAdd, Nat.reduceSub, Nat.reduceMul, Nat.reduceLT, Nat.reduceLeDiff, Nat.reduceBEq, Nat.reduceBNe, Nat.reduceGT, Int.reduceEq, Int.reduceLT, Int.reduceLE, Int.reduceToNat, Int.reduceAdd, Int.reduceSub, Int.reduceMul, Int.reduceNeg, Int.reduceBEq, Int.reduceBNe, b_fuglemanref12_Right, gs_fuglemanref12_Right, hr, hw, Ins.c, hs, c0', h3, h4]
    cases h5 : decide (i.at_ ≤ 64 - ksz i.k) <;> rw [h5] at hs
    case false => cases h3 : decide (1 ≤ i.ar) <;> cases h4 : decide (i.ar ≤ 4) <;> simp -implicitDefEqProofs only [eqs, eqd, eqe, lh_some, ↓reduceIte, reduceCtorEq, Nat.reduceEqDiff, Nat.reduceAdd, Nat.reduceSub, Nat.reduceMul, Nat.reduceLT, Nat.reduceLeDiff, Nat.reduceBEq, Nat.reduceBNe, Nat.reduceGT, Int.reduceEq, Int.reduceLT, Int.reduceLE, Int.reduceToNat, Int.reduceAdd, Int.reduceSub, Int.reduceMul, Int.reduceNeg, Int.reduceBEq, Int.reduceBNe, b_fuglemanref12_Right, gs_fuglemanref12_Right, hr, hw, Ins.c, hs, c0', h3, h4]
    cases h3 : decide (1 ≤ i.ar)
    case false => simp -implicitDefEqProofs only [eqs, eqd, eqe, lh_some, ↓reduceIte, reduceCtorEq, Nat.reduceEqDiff, Nat.reduceAdd, Nat.reduceSub, Nat.reduceMul, Nat.reduceLT, Nat.reduceLeDiff, Nat.reduceBEq, Nat.reduceBNe, Nat.reduceGT, Int.reduceEq, Int.reduceLT, Int.reduceLE, Int.reduceToNat, Int.reduceAdd, Int.reduceSub, Int.reduceMul, Int.reduceNeg, Int.reduceBEq, Int.reduceBNe, b_fuglemanref12_Right, gs_fuglemanref12_Right, hr, hw, Ins.c, hs, c0', h3]
    cases h4 : decide (i.ar ≤ 4) <;> cases h6 : (i.n == 0) <;> simp -implicitDefEqProofs only [eqs, eqd, eqe, lh_some, ↓reduceIte, reduceCtorEq, Nat.reduceEqDiff, Nat.reduceAdd, Nat.reduceSub, Nat.reduceMul, Nat.reduceLT, Nat.reduceLeDiff, Nat.reduceBEq, Nat.reduceBNe, Nat.reduceGT, Int.reduceEq, Int.reduceLT, Int.reduceLE, Int.reduceToNat, Int.reduceAdd, Int.reduceSub, Int.reduceMul, Int.reduceNeg, Int.reduceBEq, Int.reduceBNe, b_fuglemanref12_Right, gs_fuglemanref12_Right, hr, hw, Ins.c, hs, c0', h3, h4, h6]
theorem rright_2 (k : Nat) (i : Ins) (hi : i.In) (hcl : cl i.op = 2) : acall T (k + 11) 28 0 [.agg i.c] [] = some ⟨.v (.bool (right i)), [], 1⟩ := by
  rw [acall_go (body := b_fuglemanref12_Right) rfl rfl (Nat.zero_le _)]
  have hr := reads_a (k + 9) i.op
  have hw := writes_a (k + 9) i.op
  have w0 : (decide (3 ≤ i.op) && decide (i.op ≤ 6)) = true := by
    unfold cl at hcl
    split at hcl
    · omega
    · split at hcl
      · rename_i h
        simp [h.1, h.2]
      · repeat' split at hcl
        all_goals omega
  rw [w0] at hw
  rw [rd1_cl, hcl, show ((2 : Int) == 1) = false from rfl] at hr
  unfold right stands
  rw [hcl, if_neg (by decide), if_pos rfl]
  have hs := there_a (k + 7) i.at_ i.k hi.at_
  cases h1 : decide (0 < ksz i.k) <;> rw [h1] at hs
  case false => simp -implicitDefEqProofs only [eqs, eqd, eqe, lh_some, ↓reduceIte, reduceCtorEq, Nat.reduceEqDiff, Nat.reduceAdd, Nat.reduceSub, Nat.reduceMul, Nat.reduceLT, Nat.reduceLeDiff, Nat.reduceBEq, Nat.reduceBNe, Nat.reduceGT, Int.reduceEq, Int.reduceLT, Int.reduceLE, Int.reduceToNat, Int.reduceAdd, Int.reduceSub, Int.reduceMul, Int.reduceNeg, Int.reduceBEq, Int.reduceBNe, b_fuglemanref12_Right, gs_fuglemanref12_Right, hr, hw, Ins.c, hs]
  by_cases a1 : 2 ≤ i.ar
  · have a2 : 1 ≤ i.ar := by omega
    have a3 : (i.ar == 1) = false := by rw [beq_eq_false_iff_ne]; omega
    cases h2 : decide (0 ≤ i.at_) <;> rw [h2] at hs
    case false => cases h4 : decide (i.ar ≤ 4) <;> simp -implicitDefEqProofs only [eqs, eqd, eqe, lh_some, ↓reduceIte, reduceCtorEq, Nat.reduceEqDiff, Nat.reduceAdd, Nat.reduceSub, Nat.reduceMul, Nat.reduceLT, Nat.reduceLeDiff, Nat.reduceBEq, Nat.reduceBNe, Nat.reduceGT, Int.reduceEq, Int.reduceLT, Int.reduceLE, Int.reduceToNat, Int.reduceAdd, Int.reduceSub, Int.reduceMul, Int.reduceNeg, Int.reduceBEq, Int.reduceBNe, b_fuglemanref12_Right, gs_fuglemanref12_Right, hr, hw, Ins.c, hs, a1, a2, a3, h4]
    cases h5 : decide (i.at_ ≤ 64 - ksz i.k) <;> rw [h5] at hs
    case false => cases h4 : decide (i.ar ≤ 4) <;> simp -implicitDefEqProofs only [eqs, eqd, eqe, lh_some, ↓reduceIte, reduceCtorEq, Nat.reduceEqDiff, Nat.reduceAdd, Nat.reduceSub, Nat.reduceMul, Nat.reduceLT, Nat.reduceLeDiff, Nat.reduceBEq, Nat.reduceBNe, Nat.reduceGT, Int.reduceEq, Int.reduceLT, Int.reduceLE, Int.reduceToNat, Int.reduceAdd, Int.reduceSub, Int.reduceMul, Int.reduceNeg, Int.reduceBEq, Int.reduceBNe, b_fuglemanref12_Right, gs_fuglemanref12_Right, hr, hw, Ins.c, hs, a1, a2, a3, h4]
    cases h4 : decide (i.ar ≤ 4) <;> cases h6 : (i.n == 0) <;> simp -implicitDefEqProofs only [eqs, eqd, eqe, lh_some, ↓reduceIte, reduceCtorEq, Nat.reduceEqDiff, Nat.reduceAdd, Nat.reduceSub, Nat.reduceMul, Nat.reduceLT, Nat.reduceLeDiff, Nat.reduceBEq, Nat.reduceBNe, Nat.reduceGT, Int.reduceEq, Int.reduceLT, Int.reduceLE, Int.reduceToNat, Int.reduceAdd, Int.reduceSub, Int.reduceMul, Int.reduceNeg, Int.reduceBEq, Int.reduceBNe, b_fuglemanref12_Right, gs_fuglemanref12_Right, hr, hw, Ins.c, hs, a1, a2, a3, h4, h6]
  · generalize hq : (decide (0 ≤ i.at_) && decide (i.at_ ≤ 64 - ksz i.k)) = q at hs
    by_cases a2 : 1 ≤ i.ar
    · have a3 : (i.ar == 1) = true := by rw [beq_iff_eq]; omega
      cases q <;> cases h4 : decide (i.ar ≤ 4) <;> simp -implicitDefEqProofs only [eqs, eqd, eqe, lh_some, ↓reduceIte, reduceCtorEq, Nat.reduceEqDiff, Nat.reduceAdd, Nat.reduceSub, Nat.reduceMul, Nat.reduceLT, Nat.reduceLeDiff, Nat.reduceBEq, Nat.reduceBNe, Nat.reduceGT, Int.reduceEq, Int.reduceLT, Int.reduceLE, Int.reduceToNat, Int.reduceAdd, Int.reduceSub, Int.reduceMul, Int.reduceNeg, Int.reduceBEq, Int.reduceBNe, b_fuglemanref12_Right, gs_fuglemanref12_Right, hr, hw, Ins.c, hs, a1, a2, a3, h4]
    · cases q <;> simp -implicitDefEqProofs only [eqs, eqd, eqe, lh_some, ↓reduceIte, reduceCtorEq, Nat.reduceEqDiff, Nat.reduceAdd, Nat.reduceSub, Nat.reduceMul, Nat.reduceLT, Nat.reduceLeDiff, Nat.reduceBEq, Nat.reduceBNe, Nat.reduceGT, Int.reduceEq, Int.reduceLT, Int.reduceLE, Int.reduceToNat, Int.reduceAdd, Int.reduceSub, Int.reduceMul, Int.reduceNeg, Int.reduceBEq, Int.reduceBNe, b_fuglemanref12_Right, gs_fuglemanref12_Right, hr, hw, Ins.c, hs, a1, a2]
theorem rright_3 (k : Nat) (i : Ins) (hi : i.In) (hcl : cl i.op = 3) (ho : 25 ≤ i.op ∧ i.op ≤ 27) : acall T (k + 11) 28 0 [.agg i.c] [] = some ⟨.v (.bool (right i)), [], 1⟩ := by
  rw [acall_go (body := b_fuglemanref12_Right) rfl rfl (Nat.zero_le _)]
  have hr := reads_a (k + 9) i.op
  have hw := writes_a (k + 9) i.op
  have w0 : (decide (3 ≤ i.op) && decide (i.op ≤ 6)) = false := by
    by_cases c1 : 3 ≤ i.op <;> by_cases c2 : i.op ≤ 6 <;> simp [c1, c2]
    omega
  rw [w0] at hw
  rw [rd1_cl, hcl, show ((3 : Int) == 1) = false from rfl] at hr
  unfold right
  rw [hcl]
  simp only [Int.reduceEq, if_true, if_false]
  have o1 : 25 ≤ i.op := by first | omega | (rw [beq_eq_false_iff_ne]; omega) | (rw [beq_iff_eq]; omega)
  have o2 : i.op ≤ 27 := by first | omega | (rw [beq_eq_false_iff_ne]; omega) | (rw [beq_iff_eq]; omega)
  try simp -implicitDefEqProofs only [eqs, eqd, eqe, lh_some, ↓reduceIte, reduceCtorEq, Nat.reduceEqDiff, Nat.reduceAdd, Nat.reduceSub, Nat.reduceMul, Nat.reduceLT, Nat.reduceLeDiff, Nat.reduceBEq, Nat.reduceBNe, Nat.reduceGT, Int.reduceEq, Int.reduceLT, Int.reduceLE, Int.reduceToNat, Int.reduceAdd, Int.reduceSub, Int.reduceMul, Int.reduceNeg, Int.reduceBEq, Int.reduceBNe, b_fuglemanref12_Right, gs_fuglemanref12_Right, hr, hw, Ins.c, o1, o2]
  cases t1 : decide (0 ≤ i.at_)
  · simp -implicitDefEqProofs only [eqs, eqd, eqe, lh_some, ↓reduceIte, reduceCtorEq, Nat.reduceEqDiff, Nat.reduceAdd, Nat.reduceSub, Nat.reduceMul, Nat.reduceLT, Nat.reduceLeDiff, Nat.reduceBEq, Nat.reduceBNe, Nat.reduceGT, Int.reduceEq, Int.reduceLT, Int.reduceLE, Int.reduceToNat, Int.reduceAdd, Int.reduceSub, Int.reduceMul, Int.reduceNeg, Int.reduceBEq, Int.reduceBNe, b_fuglemanref12_Right, gs_fuglemanref12_Right, hr, hw, Ins.c, o1, o2, t1]
  try simp -implicitDefEqProofs only [eqs, eqd, eqe, lh_some, ↓reduceIte, reduceCtorEq, Nat.reduceEqDiff, Nat.reduceAdd, Nat.reduceSub, Nat.reduceMul, Nat.reduceLT, Nat.reduceLeDiff, Nat.reduceBEq, Nat.reduceBNe, Nat.reduceGT, Int.reduceEq, Int.reduceLT, Int.reduceLE, Int.reduceToNat, Int.reduceAdd, Int.reduceSub, Int.reduceMul, Int.reduceNeg, Int.reduceBEq, Int.reduceBNe, b_fuglemanref12_Right, gs_fuglemanref12_Right, hr, hw, Ins.c, o1, o2, t1]
  cases t2 : decide (i.at_ ≤ 200)
  · simp -implicitDefEqProofs only [eqs, eqd, eqe, lh_some, ↓reduceIte, reduceCtorEq, Nat.reduceEqDiff, Nat.reduceAdd, Nat.reduceSub, Nat.reduceMul, Nat.reduceLT, Nat.reduceLeDiff, Nat.reduceBEq, Nat.reduceBNe, Nat.reduceGT, Int.reduceEq, Int.reduceLT, Int.reduceLE, Int.reduceToNat, Int.reduceAdd, Int.reduceSub, Int.reduceMul, Int.reduceNeg, Int.reduceBEq, Int.reduceBNe, b_fuglemanref12_Right, gs_fuglemanref12_Right, hr, hw, Ins.c, o1, o2, t1, t2]
  try simp -implicitDefEqProofs only [eqs, eqd, eqe, lh_some, ↓reduceIte, reduceCtorEq, Nat.reduceEqDiff, Nat.reduceAdd, Nat.reduceSub, Nat.reduceMul, Nat.reduceLT, Nat.reduceLeDiff, Nat.reduceBEq, Nat.reduceBNe, Nat.reduceGT, Int.reduceEq, Int.reduceLT, Int.reduceLE, Int.reduceToNat, Int.reduceAdd, Int.reduceSub, Int.reduceMul, Int.reduceNeg, Int.reduceBEq, Int.reduceBNe, b_fuglemanref12_Right, gs_fuglemanref12_Right, hr, hw, Ins.c, o1, o2, t1, t2]
  cases k0 : (i.k == 0)
  · simp -implicitDefEqProofs only [eqs, eqd, eqe, lh_some, ↓reduceIte, reduceCtorEq, Nat.reduceEqDiff, Nat.reduceAdd, Nat.reduceSub, Nat.reduceMul, Nat.reduceLT, Nat.reduceLeDiff, Nat.reduceBEq, Nat.reduceBNe, Nat.reduceGT, Int.reduceEq, Int.reduceLT, Int.reduceLE, Int.reduceToNat, Int.reduceAdd, Int.reduceSub, Int.reduceMul, Int.reduceNeg, Int.reduceBEq, Int.reduceBNe, b_fuglemanref12_Right, gs_fuglemanref12_Right, hr, hw, Ins.c, o1, o2, t1, t2, k0]
  try simp -implicitDefEqProofs only [eqs, eqd, eqe, lh_some, ↓reduceIte, reduceCtorEq, Nat.reduceEqDiff, Nat.reduceAdd, Nat.reduceSub, Nat.reduceMul, Nat.reduceLT, Nat.reduceLeDiff, Nat.reduceBEq, Nat.reduceBNe, Nat.reduceGT, Int.reduceEq, Int.reduceLT, Int.reduceLE, Int.reduceToNat, Int.reduceAdd, Int.reduceSub, Int.reduceMul, Int.reduceNeg, Int.reduceBEq, Int.reduceBNe, b_fuglemanref12_Right, gs_fuglemanref12_Right, hr, hw, Ins.c, o1, o2, t1, t2, k0]
  cases a0 : (i.ar == 0)
  · simp -implicitDefEqProofs only [eqs, eqd, eqe, lh_some, ↓reduceIte, reduceCtorEq, Nat.reduceEqDiff, Nat.reduceAdd, Nat.reduceSub, Nat.reduceMul, Nat.reduceLT, Nat.reduceLeDiff, Nat.reduceBEq, Nat.reduceBNe, Nat.reduceGT, Int.reduceEq, Int.reduceLT, Int.reduceLE, Int.reduceToNat, Int.reduceAdd, Int.reduceSub, Int.reduceMul, Int.reduceNeg, Int.reduceBEq, Int.reduceBNe, b_fuglemanref12_Right, gs_fuglemanref12_Right, hr, hw, Ins.c, o1, o2, t1, t2, k0, a0]
  try simp -implicitDefEqProofs only [eqs, eqd, eqe, lh_some, ↓reduceIte, reduceCtorEq, Nat.reduceEqDiff, Nat.reduceAdd, Nat.reduceSub, Nat.reduceMul, Nat.reduceLT, Nat.reduceLeDiff, Nat.reduceBEq, Nat.reduceBNe, Nat.reduceGT, Int.reduceEq, Int.reduceLT, Int.reduceLE, Int.reduceToNat, Int.reduceAdd, Int.reduceSub, Int.reduceMul, Int.reduceNeg, Int.reduceBEq, Int.reduceBNe, b_fuglemanref12_Right, gs_fuglemanref12_Right, hr, hw, Ins.c, o1, o2, t1, t2, k0, a0]
  cases n0 : (i.n == 0)
  · simp -implicitDefEqProofs only [eqs, eqd, eqe, lh_some, ↓reduceIte, reduceCtorEq, Nat.reduceEqDiff, Nat.reduceAdd, Nat.reduceSub, Nat.reduceMul, Nat.reduceLT, Nat.reduceLeDiff, Nat.reduceBEq, Nat.reduceBNe, Nat.reduceGT, Int.reduceEq, Int.reduceLT, Int.reduceLE, Int.reduceToNat, Int.reduceAdd, Int.reduceSub, Int.reduceMul, Int.reduceNeg, Int.reduceBEq, Int.reduceBNe, b_fuglemanref12_Right, gs_fuglemanref12_Right, hr, hw, Ins.c, o1, o2, t1, t2, k0, a0, n0]
  simp -implicitDefEqProofs only [eqs, eqd, eqe, lh_some, ↓reduceIte, reduceCtorEq, Nat.reduceEqDiff, Nat.reduceAdd, Nat.reduceSub, Nat.reduceMul, Nat.reduceLT, Nat.reduceLeDiff, Nat.reduceBEq, Nat.reduceBNe, Nat.reduceGT, Int.reduceEq, Int.reduceLT, Int.reduceLE, Int.reduceToNat, Int.reduceAdd, Int.reduceSub, Int.reduceMul, Int.reduceNeg, Int.reduceBEq, Int.reduceBNe, b_fuglemanref12_Right, gs_fuglemanref12_Right, hr, hw, Ins.c, o1, o2, t1, t2, k0, a0, n0]
theorem rright_4a (k : Nat) (i : Ins) (hi : i.In) (hcl : cl i.op = 4) (ho : i.op = 13) : acall T (k + 11) 28 0 [.agg i.c] [] = some ⟨.v (.bool (right i)), [], 1⟩ := by
  rw [acall_go (body := b_fuglemanref12_Right) rfl rfl (Nat.zero_le _)]
  have hr := reads_a (k + 9) i.op
  have hw := writes_a (k + 9) i.op
  have w0 : (decide (3 ≤ i.op) && decide (i.op ≤ 6)) = false := by
    by_cases c1 : 3 ≤ i.op <;> by_cases c2 : i.op ≤ 6 <;> simp [c1, c2]
    omega
  rw [w0] at hw
  rw [rd1_cl, hcl, show ((4 : Int) == 1) = false from rfl] at hr
  unfold right
  rw [hcl]
  simp only [Int.reduceEq, if_true, if_false]
  have o1 : ¬ 25 ≤ i.op := by first | omega | (rw [beq_eq_false_iff_ne]; omega) | (rw [beq_iff_eq]; omega)
  have o3 : (i.op == 13) = true := by first | omega | (rw [beq_eq_false_iff_ne]; omega) | (rw [beq_iff_eq]; omega)
  try simp -implicitDefEqProofs only [eqs, eqd, eqe, lh_some, ↓reduceIte, reduceCtorEq, Nat.reduceEqDiff, Nat.reduceAdd, Nat.reduceSub, Nat.reduceMul, Nat.reduceLT, Nat.reduceLeDiff, Nat.reduceBEq, Nat.reduceBNe, Nat.reduceGT, Int.reduceEq, Int.reduceLT, Int.reduceLE, Int.reduceToNat, Int.reduceAdd, Int.reduceSub, Int.reduceMul, Int.reduceNeg, Int.reduceBEq, Int.reduceBNe, b_fuglemanref12_Right, gs_fuglemanref12_Right, hr, hw, Ins.c, o1, o3]
  cases k0 : (i.k == 0)
  · simp -implicitDefEqProofs only [eqs, eqd, eqe, lh_some, ↓reduceIte, reduceCtorEq, Nat.reduceEqDiff, Nat.reduceAdd, Nat.reduceSub, Nat.reduceMul, Nat.reduceLT, Nat.reduceLeDiff, Nat.reduceBEq, Nat.reduceBNe, Nat.reduceGT, Int.reduceEq, Int.reduceLT, Int.reduceLE, Int.reduceToNat, Int.reduceAdd, Int.reduceSub, Int.reduceMul, Int.reduceNeg, Int.reduceBEq, Int.reduceBNe, b_fuglemanref12_Right, gs_fuglemanref12_Right, hr, hw, Ins.c, o1, o3, k0]
  try simp -implicitDefEqProofs only [eqs, eqd, eqe, lh_some, ↓reduceIte, reduceCtorEq, Nat.reduceEqDiff, Nat.reduceAdd, Nat.reduceSub, Nat.reduceMul, Nat.reduceLT, Nat.reduceLeDiff, Nat.reduceBEq, Nat.reduceBNe, Nat.reduceGT, Int.reduceEq, Int.reduceLT, Int.reduceLE, Int.reduceToNat, Int.reduceAdd, Int.reduceSub, Int.reduceMul, Int.reduceNeg, Int.reduceBEq, Int.reduceBNe, b_fuglemanref12_Right, gs_fuglemanref12_Right, hr, hw, Ins.c, o1, o3, k0]
  cases a0 : (i.ar == 0)
  · simp -implicitDefEqProofs only [eqs, eqd, eqe, lh_some, ↓reduceIte, reduceCtorEq, Nat.reduceEqDiff, Nat.reduceAdd, Nat.reduceSub, Nat.reduceMul, Nat.reduceLT, Nat.reduceLeDiff, Nat.reduceBEq, Nat.reduceBNe, Nat.reduceGT, Int.reduceEq, Int.reduceLT, Int.reduceLE, Int.reduceToNat, Int.reduceAdd, Int.reduceSub, Int.reduceMul, Int.reduceNeg, Int.reduceBEq, Int.reduceBNe, b_fuglemanref12_Right, gs_fuglemanref12_Right, hr, hw, Ins.c, o1, o3, k0, a0]
  try simp -implicitDefEqProofs only [eqs, eqd, eqe, lh_some, ↓reduceIte, reduceCtorEq, Nat.reduceEqDiff, Nat.reduceAdd, Nat.reduceSub, Nat.reduceMul, Nat.reduceLT, Nat.reduceLeDiff, Nat.reduceBEq, Nat.reduceBNe, Nat.reduceGT, Int.reduceEq, Int.reduceLT, Int.reduceLE, Int.reduceToNat, Int.reduceAdd, Int.reduceSub, Int.reduceMul, Int.reduceNeg, Int.reduceBEq, Int.reduceBNe, b_fuglemanref12_Right, gs_fuglemanref12_Right, hr, hw, Ins.c, o1, o3, k0, a0]
  cases n0 : (i.n == 0)
  · simp -implicitDefEqProofs only [eqs, eqd, eqe, lh_some, ↓reduceIte, reduceCtorEq, Nat.reduceEqDiff, Nat.reduceAdd, Nat.reduceSub, Nat.reduceMul, Nat.reduceLT, Nat.reduceLeDiff, Nat.reduceBEq, Nat.reduceBNe, Nat.reduceGT, Int.reduceEq, Int.reduceLT, Int.reduceLE, Int.reduceToNat, Int.reduceAdd, Int.reduceSub, Int.reduceMul, Int.reduceNeg, Int.reduceBEq, Int.reduceBNe, b_fuglemanref12_Right, gs_fuglemanref12_Right, hr, hw, Ins.c, o1, o3, k0, a0, n0]
  try simp -implicitDefEqProofs only [eqs, eqd, eqe, lh_some, ↓reduceIte, reduceCtorEq, Nat.reduceEqDiff, Nat.reduceAdd, Nat.reduceSub, Nat.reduceMul, Nat.reduceLT, Nat.reduceLeDiff, Nat.reduceBEq, Nat.reduceBNe, Nat.reduceGT, Int.reduceEq, Int.reduceLT, Int.reduceLE, Int.reduceToNat, Int.reduceAdd, Int.reduceSub, Int.reduceMul, Int.reduceNeg, Int.reduceBEq, Int.reduceBNe, b_fuglemanref12_Right, gs_fuglemanref12_Right, hr, hw, Ins.c, o1, o3, k0, a0, n0]
  cases t0 : (i.at_ == 0)
  · simp -implicitDefEqProofs only [eqs, eqd, eqe, lh_some, ↓reduceIte, reduceCtorEq, Nat.reduceEqDiff, Nat.reduceAdd, Nat.reduceSub, Nat.reduceMul, Nat.reduceLT, Nat.reduceLeDiff, Nat.reduceBEq, Nat.reduceBNe, Nat.reduceGT, Int.reduceEq, Int.reduceLT, Int.reduceLE, Int.reduceToNat, Int.reduceAdd, Int.reduceSub, Int.reduceMul, Int.reduceNeg, Int.reduceBEq, Int.reduceBNe, b_fuglemanref12_Right, gs_fuglemanref12_Right, hr, hw, Ins.c, o1, o3, k0, a0, n0, t0]
  simp -implicitDefEqProofs only [eqs, eqd, eqe, lh_some, ↓reduceIte, reduceCtorEq, Nat.reduceEqDiff, Nat.reduceAdd, Nat.reduceSub, Nat.reduceMul, Nat.reduceLT, Nat.reduceLeDiff, Nat.reduceBEq, Nat.reduceBNe, Nat.reduceGT, Int.reduceEq, Int.reduceLT, Int.reduceLE, Int.reduceToNat, Int.reduceAdd, Int.reduceSub, Int.reduceMul, Int.reduceNeg, Int.reduceBEq, Int.reduceBNe, b_fuglemanref12_Right, gs_fuglemanref12_Right, hr, hw, Ins.c, o1, o3, k0, a0, n0, t0]
theorem rright_4b (k : Nat) (i : Ins) (hi : i.In) (hcl : cl i.op = 4) (ho : 28 ≤ i.op ∧ i.op ≤ 30) : acall T (k + 11) 28 0 [.agg i.c] [] = some ⟨.v (.bool (right i)), [], 1⟩ := by
  rw [acall_go (body := b_fuglemanref12_Right) rfl rfl (Nat.zero_le _)]
  have hr := reads_a (k + 9) i.op
  have hw := writes_a (k + 9) i.op
  have w0 : (decide (3 ≤ i.op) && decide (i.op ≤ 6)) = false := by
    by_cases c1 : 3 ≤ i.op <;> by_cases c2 : i.op ≤ 6 <;> simp [c1, c2]
    omega
  rw [w0] at hw
  rw [rd1_cl, hcl, show ((4 : Int) == 1) = false from rfl] at hr
  unfold right
  rw [hcl]
  simp only [Int.reduceEq, if_true, if_false]
  have o1 : 25 ≤ i.op := by first | omega | (rw [beq_eq_false_iff_ne]; omega) | (rw [beq_iff_eq]; omega)
  have o2 : ¬ i.op ≤ 27 := by first | omega | (rw [beq_eq_false_iff_ne]; omega) | (rw [beq_iff_eq]; omega)
  have o3 : (i.op == 13) = false := by first | omega | (rw [beq_eq_false_iff_ne]; omega) | (rw [beq_iff_eq]; omega)
  have o4 : 28 ≤ i.op := by first | omega | (rw [beq_eq_false_iff_ne]; omega) | (rw [beq_iff_eq]; omega)
  have o5 : i.op ≤ 30 := by first | omega | (rw [beq_eq_false_iff_ne]; omega) | (rw [beq_iff_eq]; omega)
  try simp -implicitDefEqProofs only [eqs, eqd, eqe, lh_some, ↓reduceIte, reduceCtorEq, Nat.reduceEqDiff, Nat.reduceAdd, Nat.reduceSub, Nat.reduceMul, Nat.reduceLT, Nat.reduceLeDiff, Nat.reduceBEq, Nat.reduceBNe, Nat.reduceGT, Int.reduceEq, Int.reduceLT, Int.reduceLE, Int.reduceToNat, Int.reduceAdd, Int.reduceSub, Int.reduceMul, Int.reduceNeg, Int.reduceBEq, Int.reduceBNe, b_fuglemanref12_Right, gs_fuglemanref12_Right, hr, hw, Ins.c, o1, o2, o3, o4, o5]
  cases k0 : (i.k == 0)
  · simp -implicitDefEqProofs only [eqs, eqd, eqe, lh_some, ↓reduceIte, reduceCtorEq, Nat.reduceEqDiff, Nat.reduceAdd, Nat.reduceSub, Nat.reduceMul, Nat.reduceLT, Nat.reduceLeDiff, Nat.reduceBEq, Nat.reduceBNe, Nat.reduceGT, Int.reduceEq, Int.reduceLT, Int.reduceLE, Int.reduceToNat, Int.reduceAdd, Int.reduceSub, Int.reduceMul, Int.reduceNeg, Int.reduceBEq, Int.reduceBNe, b_fuglemanref12_Right, gs_fuglemanref12_Right, hr, hw, Ins.c, o1, o2, o3, o4, o5, k0]
  try simp -implicitDefEqProofs only [eqs, eqd, eqe, lh_some, ↓reduceIte, reduceCtorEq, Nat.reduceEqDiff, Nat.reduceAdd, Nat.reduceSub, Nat.reduceMul, Nat.reduceLT, Nat.reduceLeDiff, Nat.reduceBEq, Nat.reduceBNe, Nat.reduceGT, Int.reduceEq, Int.reduceLT, Int.reduceLE, Int.reduceToNat, Int.reduceAdd, Int.reduceSub, Int.reduceMul, Int.reduceNeg, Int.reduceBEq, Int.reduceBNe, b_fuglemanref12_Right, gs_fuglemanref12_Right, hr, hw, Ins.c, o1, o2, o3, o4, o5, k0]
  cases a0 : (i.ar == 0)
  · simp -implicitDefEqProofs only [eqs, eqd, eqe, lh_some, ↓reduceIte, reduceCtorEq, Nat.reduceEqDiff, Nat.reduceAdd, Nat.reduceSub, Nat.reduceMul, Nat.reduceLT, Nat.reduceLeDiff, Nat.reduceBEq, Nat.reduceBNe, Nat.reduceGT, Int.reduceEq, Int.reduceLT, Int.reduceLE, Int.reduceToNat, Int.reduceAdd, Int.reduceSub, Int.reduceMul, Int.reduceNeg, Int.reduceBEq, Int.reduceBNe, b_fuglemanref12_Right, gs_fuglemanref12_Right, hr, hw, Ins.c, o1, o2, o3, o4, o5, k0, a0]
  try simp -implicitDefEqProofs only [eqs, eqd, eqe, lh_some, ↓reduceIte, reduceCtorEq, Nat.reduceEqDiff, Nat.reduceAdd, Nat.reduceSub, Nat.reduceMul, Nat.reduceLT, Nat.reduceLeDiff, Nat.reduceBEq, Nat.reduceBNe, Nat.reduceGT, Int.reduceEq, Int.reduceLT, Int.reduceLE, Int.reduceToNat, Int.reduceAdd, Int.reduceSub, Int.reduceMul, Int.reduceNeg, Int.reduceBEq, Int.reduceBNe, b_fuglemanref12_Right, gs_fuglemanref12_Right, hr, hw, Ins.c, o1, o2, o3, o4, o5, k0, a0]
  cases n0 : (i.n == 0)
  · simp -implicitDefEqProofs only [eqs, eqd, eqe, lh_some, ↓reduceIte, reduceCtorEq, Nat.reduceEqDiff, Nat.reduceAdd, Nat.reduceSub, Nat.reduceMul, Nat.reduceLT, Nat.reduceLeDiff, Nat.reduceBEq, Nat.reduceBNe, Nat.reduceGT, Int.reduceEq, Int.reduceLT, Int.reduceLE, Int.reduceToNat, Int.reduceAdd, Int.reduceSub, Int.reduceMul, Int.reduceNeg, Int.reduceBEq, Int.reduceBNe, b_fuglemanref12_Right, gs_fuglemanref12_Right, hr, hw, Ins.c, o1, o2, o3, o4, o5, k0, a0, n0]
  try simp -implicitDefEqProofs only [eqs, eqd, eqe, lh_some, ↓reduceIte, reduceCtorEq, Nat.reduceEqDiff, Nat.reduceAdd, Nat.reduceSub, Nat.reduceMul, Nat.reduceLT, Nat.reduceLeDiff, Nat.reduceBEq, Nat.reduceBNe, Nat.reduceGT, Int.reduceEq, Int.reduceLT, Int.reduceLE, Int.reduceToNat, Int.reduceAdd, Int.reduceSub, Int.reduceMul, Int.reduceNeg, Int.reduceBEq, Int.reduceBNe, b_fuglemanref12_Right, gs_fuglemanref12_Right, hr, hw, Ins.c, o1, o2, o3, o4, o5, k0, a0, n0]
  cases t0 : (i.at_ == 0)
  · simp -implicitDefEqProofs only [eqs, eqd, eqe, lh_some, ↓reduceIte, reduceCtorEq, Nat.reduceEqDiff, Nat.reduceAdd, Nat.reduceSub, Nat.reduceMul, Nat.reduceLT, Nat.reduceLeDiff, Nat.reduceBEq, Nat.reduceBNe, Nat.reduceGT, Int.reduceEq, Int.reduceLT, Int.reduceLE, Int.reduceToNat, Int.reduceAdd, Int.reduceSub, Int.reduceMul, Int.reduceNeg, Int.reduceBEq, Int.reduceBNe, b_fuglemanref12_Right, gs_fuglemanref12_Right, hr, hw, Ins.c, o1, o2, o3, o4, o5, k0, a0, n0, t0]
  simp -implicitDefEqProofs only [eqs, eqd, eqe, lh_some, ↓reduceIte, reduceCtorEq, Nat.reduceEqDiff, Nat.reduceAdd, Nat.reduceSub, Nat.reduceMul, Nat.reduceLT, Nat.reduceLeDiff, Nat.reduceBEq, Nat.reduceBNe, Nat.reduceGT, Int.reduceEq, Int.reduceLT, Int.reduceLE, Int.reduceToNat, Int.reduceAdd, Int.reduceSub, Int.reduceMul, Int.reduceNeg, Int.reduceBEq, Int.reduceBNe, b_fuglemanref12_Right, gs_fuglemanref12_Right, hr, hw, Ins.c, o1, o2, o3, o4, o5, k0, a0, n0, t0]
theorem rright_4c (k : Nat) (i : Ins) (hi : i.In) (hcl : cl i.op = 4) (ho : i.op = 33) : acall T (k + 11) 28 0 [.agg i.c] [] = some ⟨.v (.bool (right i)), [], 1⟩ := by
  rw [acall_go (body := b_fuglemanref12_Right) rfl rfl (Nat.zero_le _)]
  have hr := reads_a (k + 9) i.op
  have hw := writes_a (k + 9) i.op
  have w0 : (decide (3 ≤ i.op) && decide (i.op ≤ 6)) = false := by
    by_cases c1 : 3 ≤ i.op <;> by_cases c2 : i.op ≤ 6 <;> simp [c1, c2]
    omega
  rw [w0] at hw
  rw [rd1_cl, hcl, show ((4 : Int) == 1) = false from rfl] at hr
  unfold right
  rw [hcl]
  simp only [Int.reduceEq, if_true, if_false]
  have o1 : 25 ≤ i.op := by first | omega | (rw [beq_eq_false_iff_ne]; omega) | (rw [beq_iff_eq]; omega)
  have o2 : ¬ i.op ≤ 27 := by first | omega | (rw [beq_eq_false_iff_ne]; omega) | (rw [beq_iff_eq]; omega)
  have o3 : (i.op == 13) = false := by first | omega | (rw [beq_eq_false_iff_ne]; omega) | (rw [beq_iff_eq]; omega)
  have o4 : 28 ≤ i.op := by first | omega | (rw [beq_eq_false_iff_ne]; omega) | (rw [beq_iff_eq]; omega)
  have o5 : ¬ i.op ≤ 30 := by first | omega | (rw [beq_eq_false_iff_ne]; omega) | (rw [beq_iff_eq]; omega)
  have o6 : (i.op == 33) = true := by first | omega | (rw [beq_eq_false_iff_ne]; omega) | (rw [beq_iff_eq]; omega)
  try simp -implicitDefEqProofs only [eqs, eqd, eqe, lh_some, ↓reduceIte, reduceCtorEq, Nat.reduceEqDiff, Nat.reduceAdd, Nat.reduceSub, Nat.reduceMul, Nat.reduceLT, Nat.reduceLeDiff, Nat.reduceBEq, Nat.reduceBNe, Nat.reduceGT, Int.reduceEq, Int.reduceLT, Int.reduceLE, Int.reduceToNat, Int.reduceAdd, Int.reduceSub, Int.reduceMul, Int.reduceNeg, Int.reduceBEq, Int.reduceBNe, b_fuglemanref12_Right, gs_fuglemanref12_Right, hr, hw, Ins.c, o1, o2, o3, o4, o5, o6]
  cases k0 : (i.k == 0)
  · simp -implicitDefEqProofs only [eqs, eqd, eqe, lh_some, ↓reduceIte, reduceCtorEq, Nat.reduceEqDiff, Nat.reduceAdd, Nat.reduceSub, Nat.reduceMul, Nat.reduceLT, Nat.reduceLeDiff, Nat.reduceBEq, Nat.reduceBNe, Nat.reduceGT, Int.reduceEq, Int.reduceLT, Int.reduceLE, Int.reduceToNat, Int.reduceAdd, Int.reduceSub, Int.reduceMul, Int.reduceNeg, Int.reduceBEq, Int.reduceBNe, b_fuglemanref12_Right, gs_fuglemanref12_Right, hr, hw, Ins.c, o1, o2, o3, o4, o5, o6, k0]
  try simp -implicitDefEqProofs only [eqs, eqd, eqe, lh_some, ↓reduceIte, reduceCtorEq, Nat.reduceEqDiff, Nat.reduceAdd, Nat.reduceSub, Nat.reduceMul, Nat.reduceLT, Nat.reduceLeDiff, Nat.reduceBEq, Nat.reduceBNe, Nat.reduceGT, Int.reduceEq, Int.reduceLT, Int.reduceLE, Int.reduceToNat, Int.reduceAdd, Int.reduceSub, Int.reduceMul, Int.reduceNeg, Int.reduceBEq, Int.reduceBNe, b_fuglemanref12_Right, gs_fuglemanref12_Right, hr, hw, Ins.c, o1, o2, o3, o4, o5, o6, k0]
  cases a0 : (i.ar == 0)
  · simp -implicitDefEqProofs only [eqs, eqd, eqe, lh_some, ↓reduceIte, reduceCtorEq, Nat.reduceEqDiff, Nat.reduceAdd, Nat.reduceSub, Nat.reduceMul, Nat.reduceLT, Nat.reduceLeDiff, Nat.reduceBEq, Nat.reduceBNe, Nat.reduceGT, Int.reduceEq, Int.reduceLT, Int.reduceLE, Int.reduceToNat, Int.reduceAdd, Int.reduceSub, Int.reduceMul, Int.reduceNeg, Int.reduceBEq, Int.reduceBNe, b_fuglemanref12_Right, gs_fuglemanref12_Right, hr, hw, Ins.c, o1, o2, o3, o4, o5, o6, k0, a0]
  try simp -implicitDefEqProofs only [eqs, eqd, eqe, lh_some, ↓reduceIte, reduceCtorEq, Nat.reduceEqDiff, Nat.reduceAdd, Nat.reduceSub, Nat.reduceMul, Nat.reduceLT, Nat.reduceLeDiff, Nat.reduceBEq, Nat.reduceBNe, Nat.reduceGT, Int.reduceEq, Int.reduceLT, Int.reduceLE, Int.reduceToNat, Int.reduceAdd, Int.reduceSub, Int.reduceMul, Int.reduceNeg, Int.reduceBEq, Int.reduceBNe, b_fuglemanref12_Right, gs_fuglemanref12_Right, hr, hw, Ins.c, o1, o2, o3, o4, o5, o6, k0, a0]
  cases n0 : (i.n == 0)
  · simp -implicitDefEqProofs only [eqs, eqd, eqe, lh_some, ↓reduceIte, reduceCtorEq, Nat.reduceEqDiff, Nat.reduceAdd, Nat.reduceSub, Nat.reduceMul, Nat.reduceLT, Nat.reduceLeDiff, Nat.reduceBEq, Nat.reduceBNe, Nat.reduceGT, Int.reduceEq, Int.reduceLT, Int.reduceLE, Int.reduceToNat, Int.reduceAdd, Int.reduceSub, Int.reduceMul, Int.reduceNeg, Int.reduceBEq, Int.reduceBNe, b_fuglemanref12_Right, gs_fuglemanref12_Right, hr, hw, Ins.c, o1, o2, o3, o4, o5, o6, k0, a0, n0]
  try simp -implicitDefEqProofs only [eqs, eqd, eqe, lh_some, ↓reduceIte, reduceCtorEq, Nat.reduceEqDiff, Nat.reduceAdd, Nat.reduceSub, Nat.reduceMul, Nat.reduceLT, Nat.reduceLeDiff, Nat.reduceBEq, Nat.reduceBNe, Nat.reduceGT, Int.reduceEq, Int.reduceLT, Int.reduceLE, Int.reduceToNat, Int.reduceAdd, Int.reduceSub, Int.reduceMul, Int.reduceNeg, Int.reduceBEq, Int.reduceBNe, b_fuglemanref12_Right, gs_fuglemanref12_Right, hr, hw, Ins.c, o1, o2, o3, o4, o5, o6, k0, a0, n0]
  cases t0 : (i.at_ == 0)
  · simp -implicitDefEqProofs only [eqs, eqd, eqe, lh_some, ↓reduceIte, reduceCtorEq, Nat.reduceEqDiff, Nat.reduceAdd, Nat.reduceSub, Nat.reduceMul, Nat.reduceLT, Nat.reduceLeDiff, Nat.reduceBEq, Nat.reduceBNe, Nat.reduceGT, Int.reduceEq, Int.reduceLT, Int.reduceLE, Int.reduceToNat, Int.reduceAdd, Int.reduceSub, Int.reduceMul, Int.reduceNeg, Int.reduceBEq, Int.reduceBNe, b_fuglemanref12_Right, gs_fuglemanref12_Right, hr, hw, Ins.c, o1, o2, o3, o4, o5, o6, k0, a0, n0, t0]
  simp -implicitDefEqProofs only [eqs, eqd, eqe, lh_some, ↓reduceIte, reduceCtorEq, Nat.reduceEqDiff, Nat.reduceAdd, Nat.reduceSub, Nat.reduceMul, Nat.reduceLT, Nat.reduceLeDiff, Nat.reduceBEq, Nat.reduceBNe, Nat.reduceGT, Int.reduceEq, Int.reduceLT, Int.reduceLE, Int.reduceToNat, Int.reduceAdd, Int.reduceSub, Int.reduceMul, Int.reduceNeg, Int.reduceBEq, Int.reduceBNe, b_fuglemanref12_Right, gs_fuglemanref12_Right, hr, hw, Ins.c, o1, o2, o3, o4, o5, o6, k0, a0, n0, t0]
theorem rright_5 (k : Nat) (i : Ins) (hi : i.In) (hcl : cl i.op = 5) (ho : i.op = 31) : acall T (k + 11) 28 0 [.agg i.c] [] = some ⟨.v (.bool (right i)), [], 1⟩ := by
  rw [acall_go (body := b_fuglemanref12_Right) rfl rfl (Nat.zero_le _)]
  have hr := reads_a (k + 9) i.op
  have hw := writes_a (k + 9) i.op
  have w0 : (decide (3 ≤ i.op) && decide (i.op ≤ 6)) = false := by
    by_cases c1 : 3 ≤ i.op <;> by_cases c2 : i.op ≤ 6 <;> simp [c1, c2]
    omega
  rw [w0] at hw
  rw [rd1_cl, hcl, show ((5 : Int) == 1) = false from rfl] at hr
  unfold right
  rw [hcl]
  simp only [Int.reduceEq, if_true, if_false]
  have o1 : 25 ≤ i.op := by first | omega | (rw [beq_eq_false_iff_ne]; omega) | (rw [beq_iff_eq]; omega)
  have o2 : ¬ i.op ≤ 27 := by first | omega | (rw [beq_eq_false_iff_ne]; omega) | (rw [beq_iff_eq]; omega)
  have o3 : (i.op == 13) = false := by first | omega | (rw [beq_eq_false_iff_ne]; omega) | (rw [beq_iff_eq]; omega)
  have o4 : 28 ≤ i.op := by first | omega | (rw [beq_eq_false_iff_ne]; omega) | (rw [beq_iff_eq]; omega)
  have o5 : ¬ i.op ≤ 30 := by first | omega | (rw [beq_eq_false_iff_ne]; omega) | (rw [beq_iff_eq]; omega)
  have o6 : (i.op == 33) = false := by first | omega | (rw [beq_eq_false_iff_ne]; omega) | (rw [beq_iff_eq]; omega)
  have o7 : (i.op == 31) = true := by first | omega | (rw [beq_eq_false_iff_ne]; omega) | (rw [beq_iff_eq]; omega)
  have hz := rsize_a (k + 8) i.k
  try simp -implicitDefEqProofs only [eqs, eqd, eqe, lh_some, ↓reduceIte, reduceCtorEq, Nat.reduceEqDiff, Nat.reduceAdd, Nat.reduceSub, Nat.reduceMul, Nat.reduceLT, Nat.reduceLeDiff, Nat.reduceBEq, Nat.reduceBNe, Nat.reduceGT, Int.reduceEq, Int.reduceLT, Int.reduceLE, Int.reduceToNat, Int.reduceAdd, Int.reduceSub, Int.reduceMul, Int.reduceNeg, Int.reduceBEq, Int.reduceBNe, b_fuglemanref12_Right, gs_fuglemanref12_Right, hr, hw, Ins.c, o1, o2, o3, o4, o5, o6, o7, hz]
  cases z0 : decide (0 < ksz i.k)
  · simp -implicitDefEqProofs only [eqs, eqd, eqe, lh_some, ↓reduceIte, reduceCtorEq, Nat.reduceEqDiff, Nat.reduceAdd, Nat.reduceSub, Nat.reduceMul, Nat.reduceLT, Nat.reduceLeDiff, Nat.reduceBEq, Nat.reduceBNe, Nat.reduceGT, Int.reduceEq, Int.reduceLT, Int.reduceLE, Int.reduceToNat, Int.reduceAdd, Int.reduceSub, Int.reduceMul, Int.reduceNeg, Int.reduceBEq, Int.reduceBNe, b_fuglemanref12_Right, gs_fuglemanref12_Right, hr, hw, Ins.c, o1, o2, o3, o4, o5, o6, o7, hz, z0]
  try simp -implicitDefEqProofs only [eqs, eqd, eqe, lh_some, ↓reduceIte, reduceCtorEq, Nat.reduceEqDiff, Nat.reduceAdd, Nat.reduceSub, Nat.reduceMul, Nat.reduceLT, Nat.reduceLeDiff, Nat.reduceBEq, Nat.reduceBNe, Nat.reduceGT, Int.reduceEq, Int.reduceLT, Int.reduceLE, Int.reduceToNat, Int.reduceAdd, Int.reduceSub, Int.reduceMul, Int.reduceNeg, Int.reduceBEq, Int.reduceBNe, b_fuglemanref12_Right, gs_fuglemanref12_Right, hr, hw, Ins.c, o1, o2, o3, o4, o5, o6, o7, hz, z0]
  cases a0 : (i.ar == 0)
  · simp -implicitDefEqProofs only [eqs, eqd, eqe, lh_some, ↓reduceIte, reduceCtorEq, Nat.reduceEqDiff, Nat.reduceAdd, Nat.reduceSub, Nat.reduceMul, Nat.reduceLT, Nat.reduceLeDiff, Nat.reduceBEq, Nat.reduceBNe, Nat.reduceGT, Int.reduceEq, Int.reduceLT, Int.reduceLE, Int.reduceToNat, Int.reduceAdd, Int.reduceSub, Int.reduceMul, Int.reduceNeg, Int.reduceBEq, Int.reduceBNe, b_fuglemanref12_Right, gs_fuglemanref12_Right, hr, hw, Ins.c, o1, o2, o3, o4, o5, o6, o7, hz, z0, a0]
  try simp -implicitDefEqProofs only [eqs, eqd, eqe, lh_some, ↓reduceIte, reduceCtorEq, Nat.reduceEqDiff, Nat.reduceAdd, Nat.reduceSub, Nat.reduceMul, Nat.reduceLT, Nat.reduceLeDiff, Nat.reduceBEq, Nat.reduceBNe, Nat.reduceGT, Int.reduceEq, Int.reduceLT, Int.reduceLE, Int.reduceToNat, Int.reduceAdd, Int.reduceSub, Int.reduceMul, Int.reduceNeg, Int.reduceBEq, Int.reduceBNe, b_fuglemanref12_Right, gs_fuglemanref12_Right, hr, hw, Ins.c, o1, o2, o3, o4, o5, o6, o7, hz, z0, a0]
  cases n0 : (i.n == 0)
  · simp -implicitDefEqProofs only [eqs, eqd, eqe, lh_some, ↓reduceIte, reduceCtorEq, Nat.reduceEqDiff, Nat.reduceAdd, Nat.reduceSub, Nat.reduceMul, Nat.reduceLT, Nat.reduceLeDiff, Nat.reduceBEq, Nat.reduceBNe, Nat.reduceGT, Int.reduceEq, Int.reduceLT, Int.reduceLE, Int.reduceToNat, Int.reduceAdd, Int.reduceSub, Int.reduceMul, Int.reduceNeg, Int.reduceBEq, Int.reduceBNe, b_fuglemanref12_Right, gs_fuglemanref12_Right, hr, hw, Ins.c, o1, o2, o3, o4, o5, o6, o7, hz, z0, a0, n0]
  try simp -implicitDefEqProofs only [eqs, eqd, eqe, lh_some, ↓reduceIte, reduceCtorEq, Nat.reduceEqDiff, Nat.reduceAdd, Nat.reduceSub, Nat.reduceMul, Nat.reduceLT, Nat.reduceLeDiff, Nat.reduceBEq, Nat.reduceBNe, Nat.reduceGT, Int.reduceEq, Int.reduceLT, Int.reduceLE, Int.reduceToNat, Int.reduceAdd, Int.reduceSub, Int.reduceMul, Int.reduceNeg, Int.reduceBEq, Int.reduceBNe, b_fuglemanref12_Right, gs_fuglemanref12_Right, hr, hw, Ins.c, o1, o2, o3, o4, o5, o6, o7, hz, z0, a0, n0]
  cases t0 : (i.at_ == 0)
  · simp -implicitDefEqProofs only [eqs, eqd, eqe, lh_some, ↓reduceIte, reduceCtorEq, Nat.reduceEqDiff, Nat.reduceAdd, Nat.reduceSub, Nat.reduceMul, Nat.reduceLT, Nat.reduceLeDiff, Nat.reduceBEq, Nat.reduceBNe, Nat.reduceGT, Int.reduceEq, Int.reduceLT, Int.reduceLE, Int.reduceToNat, Int.reduceAdd, Int.reduceSub, Int.reduceMul, Int.reduceNeg, Int.reduceBEq, Int.reduceBNe, b_fuglemanref12_Right, gs_fuglemanref12_Right, hr, hw, Ins.c, o1, o2, o3, o4, o5, o6, o7, hz, z0, a0, n0, t0]
  simp -implicitDefEqProofs only [eqs, eqd, eqe, lh_some, ↓reduceIte, reduceCtorEq, Nat.reduceEqDiff, Nat.reduceAdd, Nat.reduceSub, Nat.reduceMul, Nat.reduceLT, Nat.reduceLeDiff, Nat.reduceBEq, Nat.reduceBNe, Nat.reduceGT, Int.reduceEq, Int.reduceLT, Int.reduceLE, Int.reduceToNat, Int.reduceAdd, Int.reduceSub, Int.reduceMul, Int.reduceNeg, Int.reduceBEq, Int.reduceBNe, b_fuglemanref12_Right, gs_fuglemanref12_Right, hr, hw, Ins.c, o1, o2, o3, o4, o5, o6, o7, hz, z0, a0, n0, t0]
theorem rright_6 (k : Nat) (i : Ins) (hi : i.In) (hcl : cl i.op = 6) (ho : i.op = 32) : acall T (k + 11) 28 0 [.agg i.c] [] = some ⟨.v (.bool (right i)), [], 1⟩ := by
  rw [acall_go (body := b_fuglemanref12_Right) rfl rfl (Nat.zero_le _)]
  have hr := reads_a (k + 9) i.op
  have hw := writes_a (k + 9) i.op
  have w0 : (decide (3 ≤ i.op) && decide (i.op ≤ 6)) = false := by
    by_cases c1 : 3 ≤ i.op <;> by_cases c2 : i.op ≤ 6 <;> simp [c1, c2]
    omega
  rw [w0] at hw
  rw [rd1_cl, hcl, show ((6 : Int) == 1) = false from rfl] at hr
  unfold right
  rw [hcl]
  simp only [Int.reduceEq, if_true, if_false]
  have o1 : 25 ≤ i.op := by first | omega | (rw [beq_eq_false_iff_ne]; omega) | (rw [beq_iff_eq]; omega)
  have o2 : ¬ i.op ≤ 27 := by first | omega | (rw [beq_eq_false_iff_ne]; omega) | (rw [beq_iff_eq]; omega)
  have o3 : (i.op == 13) = false := by first | omega | (rw [beq_eq_false_iff_ne]; omega) | (rw [beq_iff_eq]; omega)
  have o4 : 28 ≤ i.op := by first | omega | (rw [beq_eq_false_iff_ne]; omega) | (rw [beq_iff_eq]; omega)
  have o5 : ¬ i.op ≤ 30 := by first | omega | (rw [beq_eq_false_iff_ne]; omega) | (rw [beq_iff_eq]; omega)
  have o6 : (i.op == 33) = false := by first | omega | (rw [beq_eq_false_iff_ne]; omega) | (rw [beq_iff_eq]; omega)
  have o7 : (i.op == 31) = false := by first | omega | (rw [beq_eq_false_iff_ne]; omega) | (rw [beq_iff_eq]; omega)
  have o8 : (i.op == 32) = true := by first | omega | (rw [beq_eq_false_iff_ne]; omega) | (rw [beq_iff_eq]; omega)
  have hz := reads_a (k + 9) i.at_
  rw [rd1_cl] at hz
  have hq : (cl i.at_ == 1 && decide (7 ≤ i.at_)) = (cl i.at_ == 1 && decide (2 < i.at_)) := by
    cases e : (cl i.at_ == 1)
    · rfl
    · have e' : cl i.at_ = 1 := by simpa using e
      rw [Bool.true_and, Bool.true_and, decide_eq_decide]
      unfold cl at e'
      split at e'
      · omega
      · exfalso
        repeat' split at e'
        all_goals omega
  rw [hq]
  try simp -implicitDefEqProofs only [eqs, eqd, eqe, lh_some, ↓reduceIte, reduceCtorEq, Nat.reduceEqDiff, Nat.reduceAdd, Nat.reduceSub, Nat.reduceMul, Nat.reduceLT, Nat.reduceLeDiff, Nat.reduceBEq, Nat.reduceBNe, Nat.reduceGT, Int.reduceEq, Int.reduceLT, Int.reduceLE, Int.reduceToNat, Int.reduceAdd, Int.reduceSub, Int.reduceMul, Int.reduceNeg, Int.reduceBEq, Int.reduceBNe, b_fuglemanref12_Right, gs_fuglemanref12_Right, hr, hw, Ins.c, o1, o2, o3, o4, o5, o6, o7, o8, hz]
  cases r1 : (cl i.at_ == 1)
  · simp -implicitDefEqProofs only [eqs, eqd, eqe, lh_some, ↓reduceIte, reduceCtorEq, Nat.reduceEqDiff, Nat.reduceAdd, Nat.reduceSub, Nat.reduceMul, Nat.reduceLT, Nat.reduceLeDiff, Nat.reduceBEq, Nat.reduceBNe, Nat.reduceGT, Int.reduceEq, Int.reduceLT, Int.reduceLE, Int.reduceToNat, Int.reduceAdd, Int.reduceSub, Int.reduceMul, Int.reduceNeg, Int.reduceBEq, Int.reduceBNe, b_fuglemanref12_Right, gs_fuglemanref12_Right, hr, hw, Ins.c, o1, o2, o3, o4, o5, o6, o7, o8, hz, r1]
  try simp -implicitDefEqProofs only [eqs, eqd, eqe, lh_some, ↓reduceIte, reduceCtorEq, Nat.reduceEqDiff, Nat.reduceAdd, Nat.reduceSub, Nat.reduceMul, Nat.reduceLT, Nat.reduceLeDiff, Nat.reduceBEq, Nat.reduceBNe, Nat.reduceGT, Int.reduceEq, Int.reduceLT, Int.reduceLE, Int.reduceToNat, Int.reduceAdd, Int.reduceSub, Int.reduceMul, Int.reduceNeg, Int.reduceBEq, Int.reduceBNe, b_fuglemanref12_Right, gs_fuglemanref12_Right, hr, hw, Ins.c, o1, o2, o3, o4, o5, o6, o7, o8, hz, r1]
  cases t1 : decide (2 < i.at_)
  · simp -implicitDefEqProofs only [eqs, eqd, eqe, lh_some, ↓reduceIte, reduceCtorEq, Nat.reduceEqDiff, Nat.reduceAdd, Nat.reduceSub, Nat.reduceMul, Nat.reduceLT, Nat.reduceLeDiff, Nat.reduceBEq, Nat.reduceBNe, Nat.reduceGT, Int.reduceEq, Int.reduceLT, Int.reduceLE, Int.reduceToNat, Int.reduceAdd, Int.reduceSub, Int.reduceMul, Int.reduceNeg, Int.reduceBEq, Int.reduceBNe, b_fuglemanref12_Right, gs_fuglemanref12_Right, hr, hw, Ins.c, o1, o2, o3, o4, o5, o6, o7, o8, hz, r1, t1]
  try simp -implicitDefEqProofs only [eqs, eqd, eqe, lh_some, ↓reduceIte, reduceCtorEq, Nat.reduceEqDiff, Nat.reduceAdd, Nat.reduceSub, Nat.reduceMul, Nat.reduceLT, Nat.reduceLeDiff, Nat.reduceBEq, Nat.reduceBNe, Nat.reduceGT, Int.reduceEq, Int.reduceLT, Int.reduceLE, Int.reduceToNat, Int.reduceAdd, Int.reduceSub, Int.reduceMul, Int.reduceNeg, Int.reduceBEq, Int.reduceBNe, b_fuglemanref12_Right, gs_fuglemanref12_Right, hr, hw, Ins.c, o1, o2, o3, o4, o5, o6, o7, o8, hz, r1, t1]
  cases k0 : (i.k == 0)
  · simp -implicitDefEqProofs only [eqs, eqd, eqe, lh_some, ↓reduceIte, reduceCtorEq, Nat.reduceEqDiff, Nat.reduceAdd, Nat.reduceSub, Nat.reduceMul, Nat.reduceLT, Nat.reduceLeDiff, Nat.reduceBEq, Nat.reduceBNe, Nat.reduceGT, Int.reduceEq, Int.reduceLT, Int.reduceLE, Int.reduceToNat, Int.reduceAdd, Int.reduceSub, Int.reduceMul, Int.reduceNeg, Int.reduceBEq, Int.reduceBNe, b_fuglemanref12_Right, gs_fuglemanref12_Right, hr, hw, Ins.c, o1, o2, o3, o4, o5, o6, o7, o8, hz, r1, t1, k0]
  try simp -implicitDefEqProofs only [eqs, eqd, eqe, lh_some, ↓reduceIte, reduceCtorEq, Nat.reduceEqDiff, Nat.reduceAdd, Nat.reduceSub, Nat.reduceMul, Nat.reduceLT, Nat.reduceLeDiff, Nat.reduceBEq, Nat.reduceBNe, Nat.reduceGT, Int.reduceEq, Int.reduceLT, Int.reduceLE, Int.reduceToNat, Int.reduceAdd, Int.reduceSub, Int.reduceMul, Int.reduceNeg, Int.reduceBEq, Int.reduceBNe, b_fuglemanref12_Right, gs_fuglemanref12_Right, hr, hw, Ins.c, o1, o2, o3, o4, o5, o6, o7, o8, hz, r1, t1, k0]
  cases a0 : (i.ar == 0)
  · simp -implicitDefEqProofs only [eqs, eqd, eqe, lh_some, ↓reduceIte, reduceCtorEq, Nat.reduceEqDiff, Nat.reduceAdd, Nat.reduceSub, Nat.reduceMul, Nat.reduceLT, Nat.reduceLeDiff, Nat.reduceBEq, Nat.reduceBNe, Nat.reduceGT, Int.reduceEq, Int.reduceLT, Int.reduceLE, Int.reduceToNat, Int.reduceAdd, Int.reduceSub, Int.reduceMul, Int.reduceNeg, Int.reduceBEq, Int.reduceBNe, b_fuglemanref12_Right, gs_fuglemanref12_Right, hr, hw, Ins.c, o1, o2, o3, o4, o5, o6, o7, o8, hz, r1, t1, k0, a0]
  try simp -implicitDefEqProofs only [eqs, eqd, eqe, lh_some, ↓reduceIte, reduceCtorEq, Nat.reduceEqDiff, Nat.reduceAdd, Nat.reduceSub, Nat.reduceMul, Nat.reduceLT, Nat.reduceLeDiff, Nat.reduceBEq, Nat.reduceBNe, Nat.reduceGT, Int.reduceEq, Int.reduceLT, Int.reduceLE, Int.reduceToNat, Int.reduceAdd, Int.reduceSub, Int.reduceMul, Int.reduceNeg, Int.reduceBEq, Int.reduceBNe, b_fuglemanref12_Right, gs_fuglemanref12_Right, hr, hw, Ins.c, o1, o2, o3, o4, o5, o6, o7, o8, hz, r1, t1, k0, a0]
  cases n0 : (i.n == 0)
  · simp -implicitDefEqProofs only [eqs, eqd, eqe, lh_some, ↓reduceIte, reduceCtorEq, Nat.reduceEqDiff, Nat.reduceAdd, Nat.reduceSub, Nat.reduceMul, Nat.reduceLT, Nat.reduceLeDiff, Nat.reduceBEq, Nat.reduceBNe, Nat.reduceGT, Int.reduceEq, Int.reduceLT, Int.reduceLE, Int.reduceToNat, Int.reduceAdd, Int.reduceSub, Int.reduceMul, Int.reduceNeg, Int.reduceBEq, Int.reduceBNe, b_fuglemanref12_Right, gs_fuglemanref12_Right, hr, hw, Ins.c, o1, o2, o3, o4, o5, o6, o7, o8, hz, r1, t1, k0, a0, n0]
  simp -implicitDefEqProofs only [eqs, eqd, eqe, lh_some, ↓reduceIte, reduceCtorEq, Nat.reduceEqDiff, Nat.reduceAdd, Nat.reduceSub, Nat.reduceMul, Nat.reduceLT, Nat.reduceLeDiff, Nat.reduceBEq, Nat.reduceBNe, Nat.reduceGT, Int.reduceEq, Int.reduceLT, Int.reduceLE, Int.reduceToNat, Int.reduceAdd, Int.reduceSub, Int.reduceMul, Int.reduceNeg, Int.reduceBEq, Int.reduceBNe, b_fuglemanref12_Right, gs_fuglemanref12_Right, hr, hw, Ins.c, o1, o2, o3, o4, o5, o6, o7, o8, hz, r1, t1, k0, a0, n0]
theorem rright_8x (k : Nat) (i : Ins) (hi : i.In) (hcl : cl i.op = 8) (ho : i.op = 36) (p3 : (i.ar == 3) = true) : acall T (k + 11) 28 0 [.agg i.c] [] = some ⟨.v (.bool (right i)), [], 1⟩ := by
  rw [acall_go (body := b_fuglemanref12_Right) rfl rfl (Nat.zero_le _)]
  have hr := reads_a (k + 9) i.op
  have hw := writes_a (k + 9) i.op
  have w0 : (decide (3 ≤ i.op) && decide (i.op ≤ 6)) = false := by
    by_cases c1 : 3 ≤ i.op <;> by_cases c2 : i.op ≤ 6 <;> simp [c1, c2]
    omega
  rw [w0] at hw
  rw [rd1_cl, hcl, show ((8 : Int) == 1) = false from rfl] at hr
  unfold right
  rw [hcl]
  simp only [Int.reduceEq, if_true, if_false]
  have o1 : 25 ≤ i.op := by first | omega | (rw [beq_eq_false_iff_ne]; omega) | (rw [beq_iff_eq]; omega)
  have o2 : ¬ i.op ≤ 27 := by first | omega | (rw [beq_eq_false_iff_ne]; omega) | (rw [beq_iff_eq]; omega)
  have o3 : (i.op == 13) = false := by first | omega | (rw [beq_eq_false_iff_ne]; omega) | (rw [beq_iff_eq]; omega)
  have o4 : 28 ≤ i.op := by first | omega | (rw [beq_eq_false_iff_ne]; omega) | (rw [beq_iff_eq]; omega)
  have o5 : ¬ i.op ≤ 30 := by first | omega | (rw [beq_eq_false_iff_ne]; omega) | (rw [beq_iff_eq]; omega)
  have o6 : (i.op == 33) = false := by first | omega | (rw [beq_eq_false_iff_ne]; omega) | (rw [beq_iff_eq]; omega)
  have o7 : (i.op == 31) = false := by first | omega | (rw [beq_eq_false_iff_ne]; omega) | (rw [beq_iff_eq]; omega)
  have o8 : (i.op == 32) = false := by first | omega | (rw [beq_eq_false_iff_ne]; omega) | (rw [beq_iff_eq]; omega)
  have o9 : (i.op == 34) = false := by first | omega | (rw [beq_eq_false_iff_ne]; omega) | (rw [beq_iff_eq]; omega)
  have oa : (i.op == 35) = false := by first | omega | (rw [beq_eq_false_iff_ne]; omega) | (rw [beq_iff_eq]; omega)
  have ob : (i.op == 36) = true := by first | omega | (rw [beq_eq_false_iff_ne]; omega) | (rw [beq_iff_eq]; omega)
  have hlt : decide (i.at_ < 64) = decide (i.at_ ≤ 63) := by rw [decide_eq_decide]; omega
  rw [hlt]
  try simp -implicitDefEqProofs only [eqs, eqd, eqe, lh_some, ↓reduceIte, reduceCtorEq, Nat.reduceEqDiff, Nat.reduceAdd, Nat.reduceSub, Nat.reduceMul, Nat.reduceLT, Nat.reduceLeDiff, Nat.reduceBEq, Nat.reduceBNe, Nat.reduceGT, Int.reduceEq, Int.reduceLT, Int.reduceLE, Int.reduceToNat, Int.reduceAdd, Int.reduceSub, Int.reduceMul, Int.reduceNeg, Int.reduceBEq, Int.reduceBNe, b_fuglemanref12_Right, gs_fuglemanref12_Right, hr, hw, Ins.c, o1, o2, o3, o4, o5, o6, o7, o8, o9, oa, ob, p3]
  cases t1 : decide (0 ≤ i.at_)
  · simp -implicitDefEqProofs only [eqs, eqd, eqe, lh_some, ↓reduceIte, reduceCtorEq, Nat.reduceEqDiff, Nat.reduceAdd, Nat.reduceSub, Nat.reduceMul, Nat.reduceLT, Nat.reduceLeDiff, Nat.reduceBEq, Nat.reduceBNe, Nat.reduceGT, Int.reduceEq, Int.reduceLT, Int.reduceLE, Int.reduceToNat, Int.reduceAdd, Int.reduceSub, Int.reduceMul, Int.reduceNeg, Int.reduceBEq, Int.reduceBNe, b_fuglemanref12_Right, gs_fuglemanref12_Right, hr, hw, Ins.c, o1, o2, o3, o4, o5, o6, o7, o8, o9, oa, ob, p3, t1]
  try simp -implicitDefEqProofs only [eqs, eqd, eqe, lh_some, ↓reduceIte, reduceCtorEq, Nat.reduceEqDiff, Nat.reduceAdd, Nat.reduceSub, Nat.reduceMul, Nat.reduceLT, Nat.reduceLeDiff, Nat.reduceBEq, Nat.reduceBNe, Nat.reduceGT, Int.reduceEq, Int.reduceLT, Int.reduceLE, Int.reduceToNat, Int.reduceAdd, Int.reduceSub, Int.reduceMul, Int.reduceNeg, Int.reduceBEq, Int.reduceBNe, b_fuglemanref12_Right, gs_fuglemanref12_Right, hr, hw, Ins.c, o1, o2, o3, o4, o5, o6, o7, o8, o9, oa, ob, p3, t1]
  cases t2 : decide (i.at_ ≤ 63)
  · simp -implicitDefEqProofs only [eqs, eqd, eqe, lh_some, ↓reduceIte, reduceCtorEq, Nat.reduceEqDiff, Nat.reduceAdd, Nat.reduceSub, Nat.reduceMul, Nat.reduceLT, Nat.reduceLeDiff, Nat.reduceBEq, Nat.reduceBNe, Nat.reduceGT, Int.reduceEq, Int.reduceLT, Int.reduceLE, Int.reduceToNat, Int.reduceAdd, Int.reduceSub, Int.reduceMul, Int.reduceNeg, Int.reduceBEq, Int.reduceBNe, b_fuglemanref12_Right, gs_fuglemanref12_Right, hr, hw, Ins.c, o1, o2, o3, o4, o5, o6, o7, o8, o9, oa, ob, p3, t1, t2]
  try simp -implicitDefEqProofs only [eqs, eqd, eqe, lh_some, ↓reduceIte, reduceCtorEq, Nat.reduceEqDiff, Nat.reduceAdd, Nat.reduceSub, Nat.reduceMul, Nat.reduceLT, Nat.reduceLeDiff, Nat.reduceBEq, Nat.reduceBNe, Nat.reduceGT, Int.reduceEq, Int.reduceLT, Int.reduceLE, Int.reduceToNat, Int.reduceAdd, Int.reduceSub, Int.reduceMul, Int.reduceNeg, Int.reduceBEq, Int.reduceBNe, b_fuglemanref12_Right, gs_fuglemanref12_Right, hr, hw, Ins.c, o1, o2, o3, o4, o5, o6, o7, o8, o9, oa, ob, p3, t1, t2]
  cases k0 : (i.k == 0)
  · simp -implicitDefEqProofs only [eqs, eqd, eqe, lh_some, ↓reduceIte, reduceCtorEq, Nat.reduceEqDiff, Nat.reduceAdd, Nat.reduceSub, Nat.reduceMul, Nat.reduceLT, Nat.reduceLeDiff, Nat.reduceBEq, Nat.reduceBNe, Nat.reduceGT, Int.reduceEq, Int.reduceLT, Int.reduceLE, Int.reduceToNat, Int.reduceAdd, Int.reduceSub, Int.reduceMul, Int.reduceNeg, Int.reduceBEq, Int.reduceBNe, b_fuglemanref12_Right, gs_fuglemanref12_Right, hr, hw, Ins.c, o1, o2, o3, o4, o5, o6, o7, o8, o9, oa, ob, p3, t1, t2, k0]
  try simp -implicitDefEqProofs only [eqs, eqd, eqe, lh_some, ↓reduceIte, reduceCtorEq, Nat.reduceEqDiff, Nat.reduceAdd, Nat.reduceSub, Nat.reduceMul, Nat.reduceLT, Nat.reduceLeDiff, Nat.reduceBEq, Nat.reduceBNe, Nat.reduceGT, Int.reduceEq, Int.reduceLT, Int.reduceLE, Int.reduceToNat, Int.reduceAdd, Int.reduceSub, Int.reduceMul, Int.reduceNeg, Int.reduceBEq, Int.reduceBNe, b_fuglemanref12_Right, gs_fuglemanref12_Right, hr, hw, Ins.c, o1, o2, o3, o4, o5, o6, o7, o8, o9, oa, ob, p3, t1, t2, k0]
  cases n0 : (i.n == 0)
  · simp -implicitDefEqProofs only [eqs, eqd, eqe, lh_some, ↓reduceIte, reduceCtorEq, Nat.reduceEqDiff, Nat.reduceAdd, Nat.reduceSub, Nat.reduceMul, Nat.reduceLT, Nat.reduceLeDiff, Nat.reduceBEq, Nat.reduceBNe, Nat.reduceGT, Int.reduceEq, Int.reduceLT, Int.reduceLE, Int.reduceToNat, Int.reduceAdd, Int.reduceSub, Int.reduceMul, Int.reduceNeg, Int.reduceBEq, Int.reduceBNe, b_fuglemanref12_Right, gs_fuglemanref12_Right, hr, hw, Ins.c, o1, o2, o3, o4, o5, o6, o7, o8, o9, oa, ob, p3, t1, t2, k0, n0]
  simp -implicitDefEqProofs only [eqs, eqd, eqe, lh_some, ↓reduceIte, reduceCtorEq, Nat.reduceEqDiff, Nat.reduceAdd, Nat.reduceSub, Nat.reduceMul, Nat.reduceLT, Nat.reduceLeDiff, Nat.reduceBEq, Nat.reduceBNe, Nat.reduceGT, Int.reduceEq, Int.reduceLT, Int.reduceLE, Int.reduceToNat, Int.reduceAdd, Int.reduceSub, Int.reduceMul, Int.reduceNeg, Int.reduceBEq, Int.reduceBNe, b_fuglemanref12_Right, gs_fuglemanref12_Right, hr, hw, Ins.c, o1, o2, o3, o4, o5, o6, o7, o8, o9, oa, ob, p3, t1, t2, k0, n0]
theorem rright_8y (k : Nat) (i : Ins) (hi : i.In) (hcl : cl i.op = 8) (ho : i.op = 36) (p3 : (i.ar == 3) = false) (p4 : (i.ar == 4) = true) : acall T (k + 11) 28 0 [.agg i.c] [] = some ⟨.v (.bool (right i)), [], 1⟩ := by
  rw [acall_go (body := b_fuglemanref12_Right) rfl rfl (Nat.zero_le _)]
  have hr := reads_a (k + 9) i.op
  have hw := writes_a (k + 9) i.op
  have w0 : (decide (3 ≤ i.op) && decide (i.op ≤ 6)) = false := by
    by_cases c1 : 3 ≤ i.op <;> by_cases c2 : i.op ≤ 6 <;> simp [c1, c2]
    omega
  rw [w0] at hw
  rw [rd1_cl, hcl, show ((8 : Int) == 1) = false from rfl] at hr
  unfold right
  rw [hcl]
  simp only [Int.reduceEq, if_true, if_false]
  have o1 : 25 ≤ i.op := by first | omega | (rw [beq_eq_false_iff_ne]; omega) | (rw [beq_iff_eq]; omega)
  have o2 : ¬ i.op ≤ 27 := by first | omega | (rw [beq_eq_false_iff_ne]; omega) | (rw [beq_iff_eq]; omega)
  have o3 : (i.op == 13) = false := by first | omega | (rw [beq_eq_false_iff_ne]; omega) | (rw [beq_iff_eq]; omega)
  have o4 : 28 ≤ i.op := by first | omega | (rw [beq_eq_false_iff_ne]; omega) | (rw [beq_iff_eq]; omega)
  have o5 : ¬ i.op ≤ 30 := by first | omega | (rw [beq_eq_false_iff_ne]; omega) | (rw [beq_iff_eq]; omega)
  have o6 : (i.op == 33) = false := by first | omega | (rw [beq_eq_false_iff_ne]; omega) | (rw [beq_iff_eq]; omega)
  have o7 : (i.op == 31) = false := by first | omega | (rw [beq_eq_false_iff_ne]; omega) | (rw [beq_iff_eq]; omega)
  have o8 : (i.op == 32) = false := by first | omega | (rw [beq_eq_false_iff_ne]; omega) | (rw [beq_iff_eq]; omega)
  have o9 : (i.op == 34) = false := by first | omega | (rw [beq_eq_false_iff_ne]; omega) | (rw [beq_iff_eq]; omega)
  have oa : (i.op == 35) = false := by first | omega | (rw [beq_eq_false_iff_ne]; omega) | (rw [beq_iff_eq]; omega)
  have ob : (i.op == 36) = true := by first | omega | (rw [beq_eq_false_iff_ne]; omega) | (rw [beq_iff_eq]; omega)
  have hlt : decide (i.at_ < 64) = decide (i.at_ ≤ 63) := by rw [decide_eq_decide]; omega
  rw [hlt]
  try simp -implicitDefEqProofs only [eqs, eqd, eqe, lh_some, ↓reduceIte, reduceCtorEq, Nat.reduceEqDiff, Nat.reduceAdd, Nat.reduceSub, Nat.reduceMul, Nat.reduceLT, Nat.reduceLeDiff, Nat.reduceBEq, Nat.reduceBNe, Nat.reduceGT, Int.reduceEq, Int.reduceLT, Int.reduceLE, Int.reduceToNat, Int.reduceAdd, Int.reduceSub, Int.reduceMul, Int.reduceNeg, Int.reduceBEq, Int.reduceBNe, b_fuglemanref12_Right, gs_fuglemanref12_Right, hr, hw, Ins.c, o1, o2, o3, o4, o5, o6, o7, o8, o9, oa, ob, p3, p4]
  cases t1 : decide (0 ≤ i.at_)
  · simp -implicitDefEqProofs only [eqs, eqd, eqe, lh_some, ↓reduceIte, reduceCtorEq, Nat.reduceEqDiff, Nat.reduceAdd, Nat.reduceSub, Nat.reduceMul, Nat.reduceLT, Nat.reduceLeDiff, Nat.reduceBEq, Nat.reduceBNe, Nat.reduceGT, Int.reduceEq, Int.reduceLT, Int.reduceLE, Int.reduceToNat, Int.reduceAdd, Int.reduceSub, Int.reduceMul, Int.reduceNeg, Int.reduceBEq, Int.reduceBNe, b_fuglemanref12_Right, gs_fuglemanref12_Right, hr, hw, Ins.c, o1, o2, o3, o4, o5, o6, o7, o8, o9, oa, ob, p3, p4, t1]
  try simp -implicitDefEqProofs only [eqs, eqd, eqe, lh_some, ↓reduceIte, reduceCtorEq, Nat.reduceEqDiff, Nat.reduceAdd, Nat.reduceSub, Nat.reduceMul, Nat.reduceLT, Nat.reduceLeDiff, Nat.reduceBEq, Nat.reduceBNe, Nat.reduceGT, Int.reduceEq, Int.reduceLT, Int.reduceLE, Int.reduceToNat, Int.reduceAdd, Int.reduceSub, Int.reduceMul, Int.reduceNeg, Int.reduceBEq, Int.reduceBNe, b_fuglemanref12_Right, gs_fuglemanref12_Right, hr, hw, Ins.c, o1, o2, o3, o4, o5, o6, o7, o8, o9, oa, ob, p3, p4, t1]
  cases t2 : decide (i.at_ ≤ 63)
  · simp -implicitDefEqProofs only [eqs, eqd, eqe, lh_some, ↓reduceIte, reduceCtorEq, Nat.reduceEqDiff, Nat.reduceAdd, Nat.reduceSub, Nat.reduceMul, Nat.reduceLT, Nat.reduceLeDiff, Nat.reduceBEq, Nat.reduceBNe, Nat.reduceGT, Int.reduceEq, Int.reduceLT, Int.reduceLE, Int.reduceToNat, Int.reduceAdd, Int.reduceSub, Int.reduceMul, Int.reduceNeg, Int.reduceBEq, Int.reduceBNe, b_fuglemanref12_Right, gs_fuglemanref12_Right, hr, hw, Ins.c, o1, o2, o3, o4, o5, o6, o7, o8, o9, oa, ob, p3, p4, t1, t2]
  try simp -implicitDefEqProofs only [eqs, eqd, eqe, lh_some, ↓reduceIte, reduceCtorEq, Nat.reduceEqDiff, Nat.reduceAdd, Nat.reduceSub, Nat.reduceMul, Nat.reduceLT, Nat.reduceLeDiff, Nat.reduceBEq, Nat.reduceBNe, Nat.reduceGT, Int.reduceEq, Int.reduceLT, Int.reduceLE, Int.reduceToNat, Int.reduceAdd, Int.reduceSub, Int.reduceMul, Int.reduceNeg, Int.reduceBEq, Int.reduceBNe, b_fuglemanref12_Right, gs_fuglemanref12_Right, hr, hw, Ins.c, o1, o2, o3, o4, o5, o6, o7, o8, o9, oa, ob, p3, p4, t1, t2]
  cases k0 : (i.k == 0)
  · simp -implicitDefEqProofs only [eqs, eqd, eqe, lh_some, ↓reduceIte, reduceCtorEq, Nat.reduceEqDiff, Nat.reduceAdd, Nat.reduceSub, Nat.reduceMul, Nat.reduceLT, Nat.reduceLeDiff, Nat.reduceBEq, Nat.reduceBNe, Nat.reduceGT, Int.reduceEq, Int.reduceLT, Int.reduceLE, Int.reduceToNat, Int.reduceAdd, Int.reduceSub, Int.reduceMul, Int.reduceNeg, Int.reduceBEq, Int.reduceBNe, b_fuglemanref12_Right, gs_fuglemanref12_Right, hr, hw, Ins.c, o1, o2, o3, o4, o5, o6, o7, o8, o9, oa, ob, p3, p4, t1, t2, k0]
  try simp -implicitDefEqProofs only [eqs, eqd, eqe, lh_some, ↓reduceIte, reduceCtorEq, Nat.reduceEqDiff, Nat.reduceAdd, Nat.reduceSub, Nat.reduceMul, Nat.reduceLT, Nat.reduceLeDiff, Nat.reduceBEq, Nat.reduceBNe, Nat.reduceGT, Int.reduceEq, Int.reduceLT, Int.reduceLE, Int.reduceToNat, Int.reduceAdd, Int.reduceSub, Int.reduceMul, Int.reduceNeg, Int.reduceBEq, Int.reduceBNe, b_fuglemanref12_Right, gs_fuglemanref12_Right, hr, hw, Ins.c, o1, o2, o3, o4, o5, o6, o7, o8, o9, oa, ob, p3, p4, t1, t2, k0]
  cases n0 : (i.n == 0)
  · simp -implicitDefEqProofs only [eqs, eqd, eqe, lh_some, ↓reduceIte, reduceCtorEq, Nat.reduceEqDiff, Nat.reduceAdd, Nat.reduceSub, Nat.reduceMul, Nat.reduceLT, Nat.reduceLeDiff, Nat.reduceBEq, Nat.reduceBNe, Nat.reduceGT, Int.reduceEq, Int.reduceLT, Int.reduceLE, Int.reduceToNat, Int.reduceAdd, Int.reduceSub, Int.reduceMul, Int.reduceNeg, Int.reduceBEq, Int.reduceBNe, b_fuglemanref12_Right, gs_fuglemanref12_Right, hr, hw, Ins.c, o1, o2, o3, o4, o5, o6, o7, o8, o9, oa, ob, p3, p4, t1, t2, k0, n0]
  simp -implicitDefEqProofs only [eqs, eqd, eqe, lh_some, ↓reduceIte, reduceCtorEq, Nat.reduceEqDiff, Nat.reduceAdd, Nat.reduceSub, Nat.reduceMul, Nat.reduceLT, Nat.reduceLeDiff, Nat.reduceBEq, Nat.reduceBNe, Nat.reduceGT, Int.reduceEq, Int.reduceLT, Int.reduceLE, Int.reduceToNat, Int.reduceAdd, Int.reduceSub, Int.reduceMul, Int.reduceNeg, Int.reduceBEq, Int.reduceBNe, b_fuglemanref12_Right, gs_fuglemanref12_Right, hr, hw, Ins.c, o1, o2, o3, o4, o5, o6, o7, o8, o9, oa, ob, p3, p4, t1, t2, k0, n0]
theorem rright_8z (k : Nat) (i : Ins) (hi : i.In) (hcl : cl i.op = 8) (ho : i.op = 36) (p3 : (i.ar == 3) = false) (p4 : (i.ar == 4) = false) : acall T (k + 11) 28 0 [.agg i.c] [] = some ⟨.v (.bool (right i)), [], 1⟩ := by
  rw [acall_go (body := b_fuglemanref12_Right) rfl rfl (Nat.zero_le _)]
  have hr := reads_a (k + 9) i.op
  have hw := writes_a (k + 9) i.op
  have w0 : (decide (3 ≤ i.op) && decide (i.op ≤ 6)) = false := by
    by_cases c1 : 3 ≤ i.op <;> by_cases c2 : i.op ≤ 6 <;> simp [c1, c2]
    omega
  rw [w0] at hw
  rw [rd1_cl, hcl, show ((8 : Int) == 1) = false from rfl] at hr
  unfold right
  rw [hcl]
  simp only [Int.reduceEq, if_true, if_false]
  have o1 : 25 ≤ i.op := by first | omega | (rw [beq_eq_false_iff_ne]; omega) | (rw [beq_iff_eq]; omega)
  have o2 : ¬ i.op ≤ 27 := by first | omega | (rw [beq_eq_false_iff_ne]; omega) | (rw [beq_iff_eq]; omega)
  have o3 : (i.op == 13) = false := by first | omega | (rw [beq_eq_false_iff_ne]; omega) | (rw [beq_iff_eq]; omega)
  have o4 : 28 ≤ i.op := by first | omega | (rw [beq_eq_false_iff_ne]; omega) | (rw [beq_iff_eq]; omega)
  have o5 : ¬ i.op ≤ 30 := by first | omega | (rw [beq_eq_false_iff_ne]; omega) | (rw [beq_iff_eq]; omega)
  have o6 : (i.op == 33) = false := by first | omega | (rw [beq_eq_false_iff_ne]; omega) | (rw [beq_iff_eq]; omega)
  have o7 : (i.op == 31) = false := by first | omega | (rw [beq_eq_false_iff_ne]; omega) | (rw [beq_iff_eq]; omega)
  have o8 : (i.op == 32) = false := by first | omega | (rw [beq_eq_false_iff_ne]; omega) | (rw [beq_iff_eq]; omega)
  have o9 : (i.op == 34) = false := by first | omega | (rw [beq_eq_false_iff_ne]; omega) | (rw [beq_iff_eq]; omega)
  have oa : (i.op == 35) = false := by first | omega | (rw [beq_eq_false_iff_ne]; omega) | (rw [beq_iff_eq]; omega)
  have ob : (i.op == 36) = true := by first | omega | (rw [beq_eq_false_iff_ne]; omega) | (rw [beq_iff_eq]; omega)
  have hlt : decide (i.at_ < 64) = decide (i.at_ ≤ 63) := by rw [decide_eq_decide]; omega
  rw [hlt]
  simp -implicitDefEqProofs only [eqs, eqd, eqe, lh_some, ↓reduceIte, reduceCtorEq, Nat.reduceEqDiff, Nat.reduceAdd, Nat.reduceSub, Nat.reduceMul, Nat.reduceLT, Nat.reduceLeDiff, Nat.reduceBEq, Nat.reduceBNe, Nat.reduceGT, Int.reduceEq, Int.reduceLT, Int.reduceLE, Int.reduceToNat, Int.reduceAdd, Int.reduceSub, Int.reduceMul, Int.reduceNeg, Int.reduceBEq, Int.reduceBNe, b_fuglemanref12_Right, gs_fuglemanref12_Right, hr, hw, Ins.c, o1, o2, o3, o4, o5, o6, o7, o8, o9, oa, ob, p3, p4]
theorem rright_7ax (k : Nat) (i : Ins) (hi : i.In) (hcl : cl i.op = 7) (ho : i.op = 34) (p3 : (i.ar == 3) = true) : acall T (k + 11) 28 0 [.agg i.c] [] = some ⟨.v (.bool (right i)), [], 1⟩ := by
  rw [acall_go (body := b_fuglemanref12_Right) rfl rfl (Nat.zero_le _)]
  have hr := reads_a (k + 9) i.op
  have hw := writes_a (k + 9) i.op
  have w0 : (decide (3 ≤ i.op) && decide (i.op ≤ 6)) = false := by
    by_cases c1 : 3 ≤ i.op <;> by_cases c2 : i.op ≤ 6 <;> simp [c1, c2]
    omega
  rw [w0] at hw
  rw [rd1_cl, hcl, show ((7 : Int) == 1) = false from rfl] at hr
  unfold right
  rw [hcl]
  simp only [Int.reduceEq, if_true, if_false]
  have o1 : 25 ≤ i.op := by first | omega | (rw [beq_eq_false_iff_ne]; omega) | (rw [beq_iff_eq]; omega)
  have o2 : ¬ i.op ≤ 27 := by first | omega | (rw [beq_eq_false_iff_ne]; omega) | (rw [beq_iff_eq]; omega)
  have o3 : (i.op == 13) = false := by first | omega | (rw [beq_eq_false_iff_ne]; omega) | (rw [beq_iff_eq]; omega)
  have o4 : 28 ≤ i.op := by first | omega | (rw [beq_eq_false_iff_ne]; omega) | (rw [beq_iff_eq]; omega)
  have o5 : ¬ i.op ≤ 30 := by first | omega | (rw [beq_eq_false_iff_ne]; omega) | (rw [beq_iff_eq]; omega)
  have o6 : (i.op == 33) = false := by first | omega | (rw [beq_eq_false_iff_ne]; omega) | (rw [beq_iff_eq]; omega)
  have o7 : (i.op == 31) = false := by first | omega | (rw [beq_eq_false_iff_ne]; omega) | (rw [beq_iff_eq]; omega)
  have o8 : (i.op == 32) = false := by first | omega | (rw [beq_eq_false_iff_ne]; omega) | (rw [beq_iff_eq]; omega)
  have o9 : (i.op == 34) = true := by first | omega | (rw [beq_eq_false_iff_ne]; omega) | (rw [beq_iff_eq]; omega)
  try simp -implicitDefEqProofs only [eqs, eqd, eqe, lh_some, ↓reduceIte, reduceCtorEq, Nat.reduceEqDiff, Nat.reduceAdd, Nat.reduceSub, Nat.reduceMul, Nat.reduceLT, Nat.reduceLeDiff, Nat.reduceBEq, Nat.reduceBNe, Nat.reduceGT, Int.reduceEq, Int.reduceLT, Int.reduceLE, Int.reduceToNat, Int.reduceAdd, Int.reduceSub, Int.reduceMul, Int.reduceNeg, Int.reduceBEq, Int.reduceBNe, b_fuglemanref12_Right, gs_fuglemanref12_Right, hr, hw, Ins.c, o1, o2, o3, o4, o5, o6, o7, o8, o9, p3]
  cases t1 : decide (0 ≤ i.at_)
  · simp -implicitDefEqProofs only [eqs, eqd, eqe, lh_some, ↓reduceIte, reduceCtorEq, Nat.reduceEqDiff, Nat.reduceAdd, Nat.reduceSub, Nat.reduceMul, Nat.reduceLT, Nat.reduceLeDiff, Nat.reduceBEq, Nat.reduceBNe, Nat.reduceGT, Int.reduceEq, Int.reduceLT, Int.reduceLE, Int.reduceToNat, Int.reduceAdd, Int.reduceSub, Int.reduceMul, Int.reduceNeg, Int.reduceBEq, Int.reduceBNe, b_fuglemanref12_Right, gs_fuglemanref12_Right, hr, hw, Ins.c, o1, o2, o3, o4, o5, o6, o7, o8, o9, p3, t1]
  try simp -implicitDefEqProofs only [eqs, eqd, eqe, lh_some, ↓reduceIte, reduceCtorEq, Nat.reduceEqDiff, Nat.reduceAdd, Nat.reduceSub, Nat.reduceMul, Nat.reduceLT, Nat.reduceLeDiff, Nat.reduceBEq, Nat.reduceBNe, Nat.reduceGT, Int.reduceEq, Int.reduceLT, Int.reduceLE, Int.reduceToNat, Int.reduceAdd, Int.reduceSub, Int.reduceMul, Int.reduceNeg, Int.reduceBEq, Int.reduceBNe, b_fuglemanref12_Right, gs_fuglemanref12_Right, hr, hw, Ins.c, o1, o2, o3, o4, o5, o6, o7, o8, o9, p3, t1]
  cases t2 : decide (i.at_ ≤ 59)
  · simp -implicitDefEqProofs only [eqs, eqd, eqe, lh_some, ↓reduceIte, reduceCtorEq, Nat.reduceEqDiff, Nat.reduceAdd, Nat.reduceSub, Nat.reduceMul, Nat.reduceLT, Nat.reduceLeDiff, Nat.reduceBEq, Nat.reduceBNe, Nat.reduceGT, Int.reduceEq, Int.reduceLT, Int.reduceLE, Int.reduceToNat, Int.reduceAdd, Int.reduceSub, Int.reduceMul, Int.reduceNeg, Int.reduceBEq, Int.reduceBNe, b_fuglemanref12_Right, gs_fuglemanref12_Right, hr, hw, Ins.c, o1, o2, o3, o4, o5, o6, o7, o8, o9, p3, t1, t2]
  try simp -implicitDefEqProofs only [eqs, eqd, eqe, lh_some, ↓reduceIte, reduceCtorEq, Nat.reduceEqDiff, Nat.reduceAdd, Nat.reduceSub, Nat.reduceMul, Nat.reduceLT, Nat.reduceLeDiff, Nat.reduceBEq, Nat.reduceBNe, Nat.reduceGT, Int.reduceEq, Int.reduceLT, Int.reduceLE, Int.reduceToNat, Int.reduceAdd, Int.reduceSub, Int.reduceMul, Int.reduceNeg, Int.reduceBEq, Int.reduceBNe, b_fuglemanref12_Right, gs_fuglemanref12_Right, hr, hw, Ins.c, o1, o2, o3, o4, o5, o6, o7, o8, o9, p3, t1, t2]
  cases n1 : decide (1 ≤ i.n)
  · simp -implicitDefEqProofs only [eqs, eqd, eqe, lh_some, ↓reduceIte, reduceCtorEq, Nat.reduceEqDiff, Nat.reduceAdd, Nat.reduceSub, Nat.reduceMul, Nat.reduceLT, Nat.reduceLeDiff, Nat.reduceBEq, Nat.reduceBNe, Nat.reduceGT, Int.reduceEq, Int.reduceLT, Int.reduceLE, Int.reduceToNat, Int.reduceAdd, Int.reduceSub, Int.reduceMul, Int.reduceNeg, Int.reduceBEq, Int.reduceBNe, b_fuglemanref12_Right, gs_fuglemanref12_Right, hr, hw, Ins.c, o1, o2, o3, o4, o5, o6, o7, o8, o9, p3, t1, t2, n1]
  try simp -implicitDefEqProofs only [eqs, eqd, eqe, lh_some, ↓reduceIte, reduceCtorEq, Nat.reduceEqDiff, Nat.reduceAdd, Nat.reduceSub, Nat.reduceMul, Nat.reduceLT, Nat.reduceLeDiff, Nat.reduceBEq, Nat.reduceBNe, Nat.reduceGT, Int.reduceEq, Int.reduceLT, Int.reduceLE, Int.reduceToNat, Int.reduceAdd, Int.reduceSub, Int.reduceMul, Int.reduceNeg, Int.reduceBEq, Int.reduceBNe, b_fuglemanref12_Right, gs_fuglemanref12_Right, hr, hw, Ins.c, o1, o2, o3, o4, o5, o6, o7, o8, o9, p3, t1, t2, n1]
  cases n2 : decide (i.n ≤ 9999)
  · simp -implicitDefEqProofs only [eqs, eqd, eqe, lh_some, ↓reduceIte, reduceCtorEq, Nat.reduceEqDiff, Nat.reduceAdd, Nat.reduceSub, Nat.reduceMul, Nat.reduceLT, Nat.reduceLeDiff, Nat.reduceBEq, Nat.reduceBNe, Nat.reduceGT, Int.reduceEq, Int.reduceLT, Int.reduceLE, Int.reduceToNat, Int.reduceAdd, Int.reduceSub, Int.reduceMul, Int.reduceNeg, Int.reduceBEq, Int.reduceBNe, b_fuglemanref12_Right, gs_fuglemanref12_Right, hr, hw, Ins.c, o1, o2, o3, o4, o5, o6, o7, o8, o9, p3, t1, t2, n1, n2]
  try simp -implicitDefEqProofs only [eqs, eqd, eqe, lh_some, ↓reduceIte, reduceCtorEq, Nat.reduceEqDiff, Nat.reduceAdd, Nat.reduceSub, Nat.reduceMul, Nat.reduceLT, Nat.reduceLeDiff, Nat.reduceBEq, Nat.reduceBNe, Nat.reduceGT, Int.reduceEq, Int.reduceLT, Int.reduceLE, Int.reduceToNat, Int.reduceAdd, Int.reduceSub, Int.reduceMul, Int.reduceNeg, Int.reduceBEq, Int.reduceBNe, b_fuglemanref12_Right, gs_fuglemanref12_Right, hr, hw, Ins.c, o1, o2, o3, o4, o5, o6, o7, o8, o9, p3, t1, t2, n1, n2]
  cases k0 : (i.k == 0)
  · simp -implicitDefEqProofs only [eqs, eqd, eqe, lh_some, ↓reduceIte, reduceCtorEq, Nat.reduceEqDiff, Nat.reduceAdd, Nat.reduceSub, Nat.reduceMul, Nat.reduceLT, Nat.reduceLeDiff, Nat.reduceBEq, Nat.reduceBNe, Nat.reduceGT, Int.reduceEq, Int.reduceLT, Int.reduceLE, Int.reduceToNat, Int.reduceAdd, Int.reduceSub, Int.reduceMul, Int.reduceNeg, Int.reduceBEq, Int.reduceBNe, b_fuglemanref12_Right, gs_fuglemanref12_Right, hr, hw, Ins.c, o1, o2, o3, o4, o5, o6, o7, o8, o9, p3, t1, t2, n1, n2, k0]
  simp -implicitDefEqProofs only [eqs, eqd, eqe, lh_some, ↓reduceIte, reduceCtorEq, Nat.reduceEqDiff, Nat.reduceAdd, Nat.reduceSub, Nat.reduceMul, Nat.reduceLT, Nat.reduceLeDiff, Nat.reduceBEq, Nat.reduceBNe, Nat.reduceGT, Int.reduceEq, Int.reduceLT, Int.reduceLE, Int.reduceToNat, Int.reduceAdd, Int.reduceSub, Int.reduceMul, Int.reduceNeg, Int.reduceBEq, Int.reduceBNe, b_fuglemanref12_Right, gs_fuglemanref12_Right, hr, hw, Ins.c, o1, o2, o3, o4, o5, o6, o7, o8, o9, p3, t1, t2, n1, n2, k0]
theorem rright_7ay (k : Nat) (i : Ins) (hi : i.In) (hcl : cl i.op = 7) (ho : i.op = 34) (p3 : (i.ar == 3) = false) (p4 : (i.ar == 4) = true) : acall T (k + 11) 28 0 [.agg i.c] [] = some ⟨.v (.bool (right i)), [], 1⟩ := by
  rw [acall_go (body := b_fuglemanref12_Right) rfl rfl (Nat.zero_le _)]
  have hr := reads_a (k + 9) i.op
  have hw := writes_a (k + 9) i.op
  have w0 : (decide (3 ≤ i.op) && decide (i.op ≤ 6)) = false := by
    by_cases c1 : 3 ≤ i.op <;> by_cases c2 : i.op ≤ 6 <;> simp [c1, c2]
    omega
  rw [w0] at hw
  rw [rd1_cl, hcl, show ((7 : Int) == 1) = false from rfl] at hr
  unfold right
  rw [hcl]
  simp only [Int.reduceEq, if_true, if_false]
  have o1 : 25 ≤ i.op := by first | omega | (rw [beq_eq_false_iff_ne]; omega) | (rw [beq_iff_eq]; omega)
  have o2 : ¬ i.op ≤ 27 := by first | omega | (rw [beq_eq_false_iff_ne]; omega) | (rw [beq_iff_eq]; omega)
  have o3 : (i.op == 13) = false := by first | omega | (rw [beq_eq_false_iff_ne]; omega) | (rw [beq_iff_eq]; omega)
  have o4 : 28 ≤ i.op := by first | omega | (rw [beq_eq_false_iff_ne]; omega) | (rw [beq_iff_eq]; omega)
  have o5 : ¬ i.op ≤ 30 := by first | omega | (rw [beq_eq_false_iff_ne]; omega) | (rw [beq_iff_eq]; omega)
  have o6 : (i.op == 33) = false := by first | omega | (rw [beq_eq_false_iff_ne]; omega) | (rw [beq_iff_eq]; omega)
  have o7 : (i.op == 31) = false := by first | omega | (rw [beq_eq_false_iff_ne]; omega) | (rw [beq_iff_eq]; omega)
  have o8 : (i.op == 32) = false := by first | omega | (rw [beq_eq_false_iff_ne]; omega) | (rw [beq_iff_eq]; omega)
  have o9 : (i.op == 34) = true := by first | omega | (rw [beq_eq_false_iff_ne]; omega) | (rw [beq_iff_eq]; omega)
  try simp -implicitDefEqProofs only [eqs, eqd, eqe, lh_some, ↓reduceIte, reduceCtorEq, Nat.reduceEqDiff, Nat.reduceAdd, Nat.reduceSub, Nat.reduceMul, Nat.reduceLT, Nat.reduceLeDiff, Nat.reduceBEq, Nat.reduceBNe, Nat.reduceGT, Int.reduceEq, Int.reduceLT, Int.reduceLE, Int.reduceToNat, Int.reduceAdd, Int.reduceSub, Int.reduceMul, Int.reduceNeg, Int.reduceBEq, Int.reduceBNe, b_fuglemanref12_Right, gs_fuglemanref12_Right, hr, hw, Ins.c, o1, o2, o3, o4, o5, o6, o7, o8, o9, p3, p4]
  cases t1 : decide (0 ≤ i.at_)
  · simp -implicitDefEqProofs only [eqs, eqd, eqe, lh_some, ↓reduceIte, reduceCtorEq, Nat.reduceEqDiff, Nat.reduceAdd, Nat.reduceSub, Nat.reduceMul, Nat.reduceLT, Nat.reduceLeDiff, Nat.reduceBEq, Nat.reduceBNe, Nat.reduceGT, Int.reduceEq, Int.reduceLT, Int.reduceLE, Int.reduceToNat, Int.reduceAdd, Int.reduceSub, Int.reduceMul, Int.reduceNeg, Int.reduceBEq, Int.reduceBNe, b_fuglemanref12_Right, gs_fuglemanref12_Right, hr, hw, Ins.c, o1, o2, o3, o4, o5, o6, o7, o8, o9, p3, p4, t1]
  try simp -implicitDefEqProofs only [eqs, eqd, eqe, lh_some, ↓reduceIte, reduceCtorEq, Nat.reduceEqDiff, Nat.reduceAdd, Nat.reduceSub, Nat.reduceMul, Nat.reduceLT, Nat.reduceLeDiff, Nat.reduceBEq, Nat.reduceBNe, Nat.reduceGT, Int.reduceEq, Int.reduceLT, Int.reduceLE, Int.reduceToNat, Int.reduceAdd, Int.reduceSub, Int.reduceMul, Int.reduceNeg, Int.reduceBEq, Int.reduceBNe, b_fuglemanref12_Right, gs_fuglemanref12_Right, hr, hw, Ins.c, o1, o2, o3, o4, o5, o6, o7, o8, o9, p3, p4, t1]
  cases t2 : decide (i.at_ ≤ 59)
  · simp -implicitDefEqProofs only [eqs, eqd, eqe, lh_some, ↓reduceIte, reduceCtorEq, Nat.reduceEqDiff, Nat.reduceAdd, Nat.reduceSub, Nat.reduceMul, Nat.reduceLT, Nat.reduceLeDiff, Nat.reduceBEq, Nat.reduceBNe, Nat.reduceGT, Int.reduceEq, Int.reduceLT, Int.reduceLE, Int.reduceToNat, Int.reduceAdd, Int.reduceSub, Int.reduceMul, Int.reduceNeg, Int.reduceBEq, Int.reduceBNe, b_fuglemanref12_Right, gs_fuglemanref12_Right, hr, hw, Ins.c, o1, o2, o3, o4, o5, o6, o7, o8, o9, p3, p4, t1, t2]
  try simp -implicitDefEqProofs only [eqs, eqd, eqe, lh_some, ↓reduceIte, reduceCtorEq, Nat.reduceEqDiff, Nat.reduceAdd, Nat.reduceSub, Nat.reduceMul, Nat.reduceLT, Nat.reduceLeDiff, Nat.reduceBEq, Nat.reduceBNe, Nat.reduceGT, Int.reduceEq, Int.reduceLT, Int.reduceLE, Int.reduceToNat, Int.reduceAdd, Int.reduceSub, Int.reduceMul, Int.reduceNeg, Int.reduceBEq, Int.reduceBNe, b_fuglemanref12_Right, gs_fuglemanref12_Right, hr, hw, Ins.c, o1, o2, o3, o4, o5, o6, o7, o8, o9, p3, p4, t1, t2]
  cases n1 : decide (1 ≤ i.n)
  · simp -implicitDefEqProofs only [eqs, eqd, eqe, lh_some, ↓reduceIte, reduceCtorEq, Nat.reduceEqDiff, Nat.reduceAdd, Nat.reduceSub, Nat.reduceMul, Nat.reduceLT, Nat.reduceLeDiff, Nat.reduceBEq, Nat.reduceBNe, Nat.reduceGT, Int.reduceEq, Int.reduceLT, Int.reduceLE, Int.reduceToNat, Int.reduceAdd, Int.reduceSub, Int.reduceMul, Int.reduceNeg, Int.reduceBEq, Int.reduceBNe, b_fuglemanref12_Right, gs_fuglemanref12_Right, hr, hw, Ins.c, o1, o2, o3, o4, o5, o6, o7, o8, o9, p3, p4, t1, t2, n1]
  try simp -implicitDefEqProofs only [eqs, eqd, eqe, lh_some, ↓reduceIte, reduceCtorEq, Nat.reduceEqDiff, Nat.reduceAdd, Nat.reduceSub, Nat.reduceMul, Nat.reduceLT, Nat.reduceLeDiff, Nat.reduceBEq, Nat.reduceBNe, Nat.reduceGT, Int.reduceEq, Int.reduceLT, Int.reduceLE, Int.reduceToNat, Int.reduceAdd, Int.reduceSub, Int.reduceMul, Int.reduceNeg, Int.reduceBEq, Int.reduceBNe, b_fuglemanref12_Right, gs_fuglemanref12_Right, hr, hw, Ins.c, o1, o2, o3, o4, o5, o6, o7, o8, o9, p3, p4, t1, t2, n1]
  cases n2 : decide (i.n ≤ 9999)
  · simp -implicitDefEqProofs only [eqs, eqd, eqe, lh_some, ↓reduceIte, reduceCtorEq, Nat.reduceEqDiff, Nat.reduceAdd, Nat.reduceSub, Nat.reduceMul, Nat.reduceLT, Nat.reduceLeDiff, Nat.reduceBEq, Nat.reduceBNe, Nat.reduceGT, Int.reduceEq, Int.reduceLT, Int.reduceLE, Int.reduceToNat, Int.reduceAdd, Int.reduceSub, Int.reduceMul, Int.reduceNeg, Int.reduceBEq, Int.reduceBNe, b_fuglemanref12_Right, gs_fuglemanref12_Right, hr, hw, Ins.c, o1, o2, o3, o4, o5, o6, o7, o8, o9, p3, p4, t1, t2, n1, n2]
  try simp -implicitDefEqProofs only [eqs, eqd, eqe, lh_some, ↓reduceIte, reduceCtorEq, Nat.reduceEqDiff, Nat.reduceAdd, Nat.reduceSub, Nat.reduceMul, Nat.reduceLT, Nat.reduceLeDiff, Nat.reduceBEq, Nat.reduceBNe, Nat.reduceGT, Int.reduceEq, Int.reduceLT, Int.reduceLE, Int.reduceToNat, Int.reduceAdd, Int.reduceSub, Int.reduceMul, Int.reduceNeg, Int.reduceBEq, Int.reduceBNe, b_fuglemanref12_Right, gs_fuglemanref12_Right, hr, hw, Ins.c, o1, o2, o3, o4, o5, o6, o7, o8, o9, p3, p4, t1, t2, n1, n2]
  cases k0 : (i.k == 0)
  · simp -implicitDefEqProofs only [eqs, eqd, eqe, lh_some, ↓reduceIte, reduceCtorEq, Nat.reduceEqDiff, Nat.reduceAdd, Nat.reduceSub, Nat.reduceMul, Nat.reduceLT, Nat.reduceLeDiff, Nat.reduceBEq, Nat.reduceBNe, Nat.reduceGT, Int.reduceEq, Int.reduceLT, Int.reduceLE, Int.reduceToNat, Int.reduceAdd, Int.reduceSub, Int.reduceMul, Int.reduceNeg, Int.reduceBEq, Int.reduceBNe, b_fuglemanref12_Right, gs_fuglemanref12_Right, hr, hw, Ins.c, o1, o2, o3, o4, o5, o6, o7, o8, o9, p3, p4, t1, t2, n1, n2, k0]
  simp -implicitDefEqProofs only [eqs, eqd, eqe, lh_some, ↓reduceIte, reduceCtorEq, Nat.reduceEqDiff, Nat.reduceAdd, Nat.reduceSub, Nat.reduceMul, Nat.reduceLT, Nat.reduceLeDiff, Nat.reduceBEq, Nat.reduceBNe, Nat.reduceGT, Int.reduceEq, Int.reduceLT, Int.reduceLE, Int.reduceToNat, Int.reduceAdd, Int.reduceSub, Int.reduceMul, Int.reduceNeg, Int.reduceBEq, Int.reduceBNe, b_fuglemanref12_Right, gs_fuglemanref12_Right, hr, hw, Ins.c, o1, o2, o3, o4, o5, o6, o7, o8, o9, p3, p4, t1, t2, n1, n2, k0]
theorem rright_7az (k : Nat) (i : Ins) (hi : i.In) (hcl : cl i.op = 7) (ho : i.op = 34) (p3 : (i.ar == 3) = false) (p4 : (i.ar == 4) = false) : acall T (k + 11) 28 0 [.agg i.c] [] = some ⟨.v (.bool (right i)), [], 1⟩ := by
  rw [acall_go (body := b_fuglemanref12_Right) rfl rfl (Nat.zero_le _)]
  have hr := reads_a (k + 9) i.op
  have hw := writes_a (k + 9) i.op
  have w0 : (decide (3 ≤ i.op) && decide (i.op ≤ 6)) = false := by
    by_cases c1 : 3 ≤ i.op <;> by_cases c2 : i.op ≤ 6 <;> simp [c1, c2]
    omega
  rw [w0] at hw
  rw [rd1_cl, hcl, show ((7 : Int) == 1) = false from rfl] at hr
  unfold right
  rw [hcl]
  simp only [Int.reduceEq, if_true, if_false]
  have o1 : 25 ≤ i.op := by first | omega | (rw [beq_eq_false_iff_ne]; omega) | (rw [beq_iff_eq]; omega)
  have o2 : ¬ i.op ≤ 27 := by first | omega | (rw [beq_eq_false_iff_ne]; omega) | (rw [beq_iff_eq]; omega)
  have o3 : (i.op == 13) = false := by first | omega | (rw [beq_eq_false_iff_ne]; omega) | (rw [beq_iff_eq]; omega)
  have o4 : 28 ≤ i.op := by first | omega | (rw [beq_eq_false_iff_ne]; omega) | (rw [beq_iff_eq]; omega)
  have o5 : ¬ i.op ≤ 30 := by first | omega | (rw [beq_eq_false_iff_ne]; omega) | (rw [beq_iff_eq]; omega)
  have o6 : (i.op == 33) = false := by first | omega | (rw [beq_eq_false_iff_ne]; omega) | (rw [beq_iff_eq]; omega)
  have o7 : (i.op == 31) = false := by first | omega | (rw [beq_eq_false_iff_ne]; omega) | (rw [beq_iff_eq]; omega)
  have o8 : (i.op == 32) = false := by first | omega | (rw [beq_eq_false_iff_ne]; omega) | (rw [beq_iff_eq]; omega)
  have o9 : (i.op == 34) = true := by first | omega | (rw [beq_eq_false_iff_ne]; omega) | (rw [beq_iff_eq]; omega)
  simp -implicitDefEqProofs only [eqs, eqd, eqe, lh_some, ↓reduceIte, reduceCtorEq, Nat.reduceEqDiff, Nat.reduceAdd, Nat.reduceSub, Nat.reduceMul, Nat.reduceLT, Nat.reduceLeDiff, Nat.reduceBEq, Nat.reduceBNe, Nat.reduceGT, Int.reduceEq, Int.reduceLT, Int.reduceLE, Int.reduceToNat, Int.reduceAdd, Int.reduceSub, Int.reduceMul, Int.reduceNeg, Int.reduceBEq, Int.reduceBNe, b_fuglemanref12_Right, gs_fuglemanref12_Right, hr, hw, Ins.c, o1, o2, o3, o4, o5, o6, o7, o8, o9, p3, p4]
theorem rright_7bx (k : Nat) (i : Ins) (hi : i.In) (hcl : cl i.op = 7) (ho : i.op = 35) (p3 : (i.ar == 3) = true) : acall T (k + 11) 28 0 [.agg i.c] [] = some ⟨.v (.bool (right i)), [], 1⟩ := by
  rw [acall_go (body := b_fuglemanref12_Right) rfl rfl (Nat.zero_le _)]
  have hr := reads_a (k + 9) i.op
  have hw := writes_a (k + 9) i.op
  have w0 : (decide (3 ≤ i.op) && decide (i.op ≤ 6)) = false := by
    by_cases c1 : 3 ≤ i.op <;> by_cases c2 : i.op ≤ 6 <;> simp [c1, c2]
    omega
  rw [w0] at hw
  rw [rd1_cl, hcl, show ((7 : Int) == 1) = false from rfl] at hr
  unfold right
  rw [hcl]
  simp only [Int.reduceEq, if_true, if_false]
  have o1 : 25 ≤ i.op := by first | omega | (rw [beq_eq_false_iff_ne]; omega) | (rw [beq_iff_eq]; omega)
  have o2 : ¬ i.op ≤ 27 := by first | omega | (rw [beq_eq_false_iff_ne]; omega) | (rw [beq_iff_eq]; omega)
  have o3 : (i.op == 13) = false := by first | omega | (rw [beq_eq_false_iff_ne]; omega) | (rw [beq_iff_eq]; omega)
  have o4 : 28 ≤ i.op := by first | omega | (rw [beq_eq_false_iff_ne]; omega) | (rw [beq_iff_eq]; omega)
  have o5 : ¬ i.op ≤ 30 := by first | omega | (rw [beq_eq_false_iff_ne]; omega) | (rw [beq_iff_eq]; omega)
  have o6 : (i.op == 33) = false := by first | omega | (rw [beq_eq_false_iff_ne]; omega) | (rw [beq_iff_eq]; omega)
  have o7 : (i.op == 31) = false := by first | omega | (rw [beq_eq_false_iff_ne]; omega) | (rw [beq_iff_eq]; omega)
  have o8 : (i.op == 32) = false := by first | omega | (rw [beq_eq_false_iff_ne]; omega) | (rw [beq_iff_eq]; omega)
  have o9 : (i.op == 34) = false := by first | omega | (rw [beq_eq_false_iff_ne]; omega) | (rw [beq_iff_eq]; omega)
  have oa : (i.op == 35) = true := by first | omega | (rw [beq_eq_false_iff_ne]; omega) | (rw [beq_iff_eq]; omega)
  try simp -implicitDefEqProofs only [eqs, eqd, eqe, lh_some, ↓reduceIte, reduceCtorEq, Nat.reduceEqDiff, Nat.reduceAdd, Nat.reduceSub, Nat.reduceMul, Nat.reduceLT, Nat.reduceLeDiff, Nat.reduceBEq, Nat.reduceBNe, Nat.reduceGT, Int.reduceEq, Int.reduceLT, Int.reduceLE, Int.reduceToNat, Int.reduceAdd, Int.reduceSub, Int.reduceMul, Int.reduceNeg, Int.reduceBEq, Int.reduceBNe, b_fuglemanref12_Right, gs_fuglemanref12_Right, hr, hw, Ins.c, o1, o2, o3, o4, o5, o6, o7, o8, o9, oa, p3]
  cases t1 : decide (0 ≤ i.at_)
  · simp -implicitDefEqProofs only [eqs, eqd, eqe, lh_some, ↓reduceIte, reduceCtorEq, Nat.reduceEqDiff, Nat.reduceAdd, Nat.reduceSub, Nat.reduceMul, Nat.reduceLT, Nat.reduceLeDiff, Nat.reduceBEq, Nat.reduceBNe, Nat.reduceGT, Int.reduceEq, Int.reduceLT, Int.reduceLE, Int.reduceToNat, Int.reduceAdd, Int.reduceSub, Int.reduceMul, Int.reduceNeg, Int.reduceBEq, Int.reduceBNe, b_fuglemanref12_Right, gs_fuglemanref12_Right, hr, hw, Ins.c, o1, o2, o3, o4, o5, o6, o7, o8, o9, oa, p3, t1]
  try simp -implicitDefEqProofs only [eqs, eqd, eqe, lh_some, ↓reduceIte, reduceCtorEq, Nat.reduceEqDiff, Nat.reduceAdd, Nat.reduceSub, Nat.reduceMul, Nat.reduceLT, Nat.reduceLeDiff, Nat.reduceBEq, Nat.reduceBNe, Nat.reduceGT, Int.reduceEq, Int.reduceLT, Int.reduceLE, Int.reduceToNat, Int.reduceAdd, Int.reduceSub, Int.reduceMul, Int.reduceNeg, Int.reduceBEq, Int.reduceBNe, b_fuglemanref12_Right, gs_fuglemanref12_Right, hr, hw, Ins.c, o1, o2, o3, o4, o5, o6, o7, o8, o9, oa, p3, t1]
  cases t2 : decide (i.at_ ≤ 59)
  · simp -implicitDefEqProofs only [eqs, eqd, eqe, lh_some, ↓reduceIte, reduceCtorEq, Nat.reduceEqDiff, Nat.reduceAdd, Nat.reduceSub, Nat.reduceMul, Nat.reduceLT, Nat.reduceLeDiff, Nat.reduceBEq, Nat.reduceBNe, Nat.reduceGT, Int.reduceEq, Int.reduceLT, Int.reduceLE, Int.reduceToNat, Int.reduceAdd, Int.reduceSub, Int.reduceMul, Int.reduceNeg, Int.reduceBEq, Int.reduceBNe, b_fuglemanref12_Right, gs_fuglemanref12_Right, hr, hw, Ins.c, o1, o2, o3, o4, o5, o6, o7, o8, o9, oa, p3, t1, t2]
  try simp -implicitDefEqProofs only [eqs, eqd, eqe, lh_some, ↓reduceIte, reduceCtorEq, Nat.reduceEqDiff, Nat.reduceAdd, Nat.reduceSub, Nat.reduceMul, Nat.reduceLT, Nat.reduceLeDiff, Nat.reduceBEq, Nat.reduceBNe, Nat.reduceGT, Int.reduceEq, Int.reduceLT, Int.reduceLE, Int.reduceToNat, Int.reduceAdd, Int.reduceSub, Int.reduceMul, Int.reduceNeg, Int.reduceBEq, Int.reduceBNe, b_fuglemanref12_Right, gs_fuglemanref12_Right, hr, hw, Ins.c, o1, o2, o3, o4, o5, o6, o7, o8, o9, oa, p3, t1, t2]
  cases n1 : decide (1 ≤ i.n)
  · simp -implicitDefEqProofs only [eqs, eqd, eqe, lh_some, ↓reduceIte, reduceCtorEq, Nat.reduceEqDiff, Nat.reduceAdd, Nat.reduceSub, Nat.reduceMul, Nat.reduceLT, Nat.reduceLeDiff, Nat.reduceBEq, Nat.reduceBNe, Nat.reduceGT, Int.reduceEq, Int.reduceLT, Int.reduceLE, Int.reduceToNat, Int.reduceAdd, Int.reduceSub, Int.reduceMul, Int.reduceNeg, Int.reduceBEq, Int.reduceBNe, b_fuglemanref12_Right, gs_fuglemanref12_Right, hr, hw, Ins.c, o1, o2, o3, o4, o5, o6, o7, o8, o9, oa, p3, t1, t2, n1]
  try simp -implicitDefEqProofs only [eqs, eqd, eqe, lh_some, ↓reduceIte, reduceCtorEq, Nat.reduceEqDiff, Nat.reduceAdd, Nat.reduceSub, Nat.reduceMul, Nat.reduceLT, Nat.reduceLeDiff, Nat.reduceBEq, Nat.reduceBNe, Nat.reduceGT, Int.reduceEq, Int.reduceLT, Int.reduceLE, Int.reduceToNat, Int.reduceAdd, Int.reduceSub, Int.reduceMul, Int.reduceNeg, Int.reduceBEq, Int.reduceBNe, b_fuglemanref12_Right, gs_fuglemanref12_Right, hr, hw, Ins.c, o1, o2, o3, o4, o5, o6, o7, o8, o9, oa, p3, t1, t2, n1]
  cases n2 : decide (i.n ≤ 9999)
  · simp -implicitDefEqProofs only [eqs, eqd, eqe, lh_some, ↓reduceIte, reduceCtorEq, Nat.reduceEqDiff, Nat.reduceAdd, Nat.reduceSub, Nat.reduceMul, Nat.reduceLT, Nat.reduceLeDiff, Nat.reduceBEq, Nat.reduceBNe, Nat.reduceGT, Int.reduceEq, Int.reduceLT, Int.reduceLE, Int.reduceToNat, Int.reduceAdd, Int.reduceSub, Int.reduceMul, Int.reduceNeg, Int.reduceBEq, Int.reduceBNe, b_fuglemanref12_Right, gs_fuglemanref12_Right, hr, hw, Ins.c, o1, o2, o3, o4, o5, o6, o7, o8, o9, oa, p3, t1, t2, n1, n2]
  try simp -implicitDefEqProofs only [eqs, eqd, eqe, lh_some, ↓reduceIte, reduceCtorEq, Nat.reduceEqDiff, Nat.reduceAdd, Nat.reduceSub, Nat.reduceMul, Nat.reduceLT, Nat.reduceLeDiff, Nat.reduceBEq, Nat.reduceBNe, Nat.reduceGT, Int.reduceEq, Int.reduceLT, Int.reduceLE, Int.reduceToNat, Int.reduceAdd, Int.reduceSub, Int.reduceMul, Int.reduceNeg, Int.reduceBEq, Int.reduceBNe, b_fuglemanref12_Right, gs_fuglemanref12_Right, hr, hw, Ins.c, o1, o2, o3, o4, o5, o6, o7, o8, o9, oa, p3, t1, t2, n1, n2]
  cases k0 : (i.k == 0)
  · simp -implicitDefEqProofs only [eqs, eqd, eqe, lh_some, ↓reduceIte, reduceCtorEq, Nat.reduceEqDiff, Nat.reduceAdd, Nat.reduceSub, Nat.reduceMul, Nat.reduceLT, Nat.reduceLeDiff, Nat.reduceBEq, Nat.reduceBNe, Nat.reduceGT, Int.reduceEq, Int.reduceLT, Int.reduceLE, Int.reduceToNat, Int.reduceAdd, Int.reduceSub, Int.reduceMul, Int.reduceNeg, Int.reduceBEq, Int.reduceBNe, b_fuglemanref12_Right, gs_fuglemanref12_Right, hr, hw, Ins.c, o1, o2, o3, o4, o5, o6, o7, o8, o9, oa, p3, t1, t2, n1, n2, k0]
  simp -implicitDefEqProofs only [eqs, eqd, eqe, lh_some, ↓reduceIte, reduceCtorEq, Nat.reduceEqDiff, Nat.reduceAdd, Nat.reduceSub, Nat.reduceMul, Nat.reduceLT, Nat.reduceLeDiff, Nat.reduceBEq, Nat.reduceBNe, Nat.reduceGT, Int.reduceEq, Int.reduceLT, Int.reduceLE, Int.reduceToNat, Int.reduceAdd, Int.reduceSub, Int.reduceMul, Int.reduceNeg, Int.reduceBEq, Int.reduceBNe, b_fuglemanref12_Right, gs_fuglemanref12_Right, hr, hw, Ins.c, o1, o2, o3, o4, o5, o6, o7, o8, o9, oa, p3, t1, t2, n1, n2, k0]
theorem rright_7by (k : Nat) (i : Ins) (hi : i.In) (hcl : cl i.op = 7) (ho : i.op = 35) (p3 : (i.ar == 3) = false) (p4 : (i.ar == 4) = true) : acall T (k + 11) 28 0 [.agg i.c] [] = some ⟨.v (.bool (right i)), [], 1⟩ := by
  rw [acall_go (body := b_fuglemanref12_Right) rfl rfl (Nat.zero_le _)]
  have hr := reads_a (k + 9) i.op
  have hw := writes_a (k + 9) i.op
  have w0 : (decide (3 ≤ i.op) && decide (i.op ≤ 6)) = false := by
    by_cases c1 : 3 ≤ i.op <;> by_cases c2 : i.op ≤ 6 <;> simp [c1, c2]
    omega
  rw [w0] at hw
  rw [rd1_cl, hcl, show ((7 : Int) == 1) = false from rfl] at hr
  unfold right
  rw [hcl]
  simp only [Int.reduceEq, if_true, if_false]
  have o1 : 25 ≤ i.op := by first | omega | (rw [beq_eq_false_iff_ne]; omega) | (rw [beq_iff_eq]; omega)
  have o2 : ¬ i.op ≤ 27 := by first | omega | (rw [beq_eq_false_iff_ne]; omega) | (rw [beq_iff_eq]; omega)
  have o3 : (i.op == 13) = false := by first | omega | (rw [beq_eq_false_iff_ne]; omega) | (rw [beq_iff_eq]; omega)
  have o4 : 28 ≤ i.op := by first | omega | (rw [beq_eq_false_iff_ne]; omega) | (rw [beq_iff_eq]; omega)
  have o5 : ¬ i.op ≤ 30 := by first | omega | (rw [beq_eq_false_iff_ne]; omega) | (rw [beq_iff_eq]; omega)
  have o6 : (i.op == 33) = false := by first | omega | (rw [beq_eq_false_iff_ne]; omega) | (rw [beq_iff_eq]; omega)
  have o7 : (i.op == 31) = false := by first | omega | (rw [beq_eq_false_iff_ne]; omega) | (rw [beq_iff_eq]; omega)
  have o8 : (i.op == 32) = false := by first | omega | (rw [beq_eq_false_iff_ne]; omega) | (rw [beq_iff_eq]; omega)
  have o9 : (i.op == 34) = false := by first | omega | (rw [beq_eq_false_iff_ne]; omega) | (rw [beq_iff_eq]; omega)
  have oa : (i.op == 35) = true := by first | omega | (rw [beq_eq_false_iff_ne]; omega) | (rw [beq_iff_eq]; omega)
  try simp -implicitDefEqProofs only [eqs, eqd, eqe, lh_some, ↓reduceIte, reduceCtorEq, Nat.reduceEqDiff, Nat.reduceAdd, Nat.reduceSub, Nat.reduceMul, Nat.reduceLT, Nat.reduceLeDiff, Nat.reduceBEq, Nat.reduceBNe, Nat.reduceGT, Int.reduceEq, Int.reduceLT, Int.reduceLE, Int.reduceToNat, Int.reduceAdd, Int.reduceSub, Int.reduceMul, Int.reduceNeg, Int.reduceBEq, Int.reduceBNe, b_fuglemanref12_Right, gs_fuglemanref12_Right, hr, hw, Ins.c, o1, o2, o3, o4, o5, o6, o7, o8, o9, oa, p3, p4]
  cases t1 : decide (0 ≤ i.at_)
  · simp -implicitDefEqProofs only [eqs, eqd, eqe, lh_some, ↓reduceIte, reduceCtorEq, Nat.reduceEqDiff, Nat.reduceAdd, Nat.reduceSub, Nat.reduceMul, Nat.reduceLT, Nat.reduceLeDiff, Nat.reduceBEq, Nat.reduceBNe, Nat.reduceGT, Int.reduceEq, Int.reduceLT, Int.reduceLE, Int.reduceToNat, Int.reduceAdd, Int.reduceSub, Int.reduceMul, Int.reduceNeg, Int.reduceBEq, Int.reduceBNe, b_fuglemanref12_Right, gs_fuglemanref12_Right, hr, hw, Ins.c, o1, o2, o3, o4, o5, o6, o7, o8, o9, oa, p3, p4, t1]
  try simp -implicitDefEqProofs only [eqs, eqd, eqe, lh_some, ↓reduceIte, reduceCtorEq, Nat.reduceEqDiff, Nat.reduceAdd, Nat.reduceSub, Nat.reduceMul, Nat.reduceLT, Nat.reduceLeDiff, Nat.reduceBEq, Nat.reduceBNe, Nat.reduceGT, Int.reduceEq, Int.reduceLT, Int.reduceLE, Int.reduceToNat, Int.reduceAdd, Int.reduceSub, Int.reduceMul, Int.reduceNeg, Int.reduceBEq, Int.reduceBNe, b_fuglemanref12_Right, gs_fuglemanref12_Right, hr, hw, Ins.c, o1, o2, o3, o4, o5, o6, o7, o8, o9, oa, p3, p4, t1]
  cases t2 : decide (i.at_ ≤ 59)
  · simp -implicitDefEqProofs only [eqs, eqd, eqe, lh_some, ↓reduceIte, reduceCtorEq, Nat.reduceEqDiff, Nat.reduceAdd, Nat.reduceSub, Nat.reduceMul, Nat.reduceLT, Nat.reduceLeDiff, Nat.reduceBEq, Nat.reduceBNe, Nat.reduceGT, Int.reduceEq, Int.reduceLT, Int.reduceLE, Int.reduceToNat, Int.reduceAdd, Int.reduceSub, Int.reduceMul, Int.reduceNeg, Int.reduceBEq, Int.reduceBNe, b_fuglemanref12_Right, gs_fuglemanref12_Right, hr, hw, Ins.c, o1, o2, o3, o4, o5, o6, o7, o8, o9, oa, p3, p4, t1, t2]
  try simp -implicitDefEqProofs only [eqs, eqd, eqe, lh_some, ↓reduceIte, reduceCtorEq, Nat.reduceEqDiff, Nat.reduceAdd, Nat.reduceSub, Nat.reduceMul, Nat.reduceLT, Nat.reduceLeDiff, Nat.reduceBEq, Nat.reduceBNe, Nat.reduceGT, Int.reduceEq, Int.reduceLT, Int.reduceLE, Int.reduceToNat, Int.reduceAdd, Int.reduceSub, Int.reduceMul, Int.reduceNeg, Int.reduceBEq, Int.reduceBNe, b_fuglemanref12_Right, gs_fuglemanref12_Right, hr, hw, Ins.c, o1, o2, o3, o4, o5, o6, o7, o8, o9, oa, p3, p4, t1, t2]
  cases n1 : decide (1 ≤ i.n)
  · simp -implicitDefEqProofs only [eqs, eqd, eqe, lh_some, ↓reduceIte, reduceCtorEq, Nat.reduceEqDiff, Nat.reduceAdd, Nat.reduceSub, Nat.reduceMul, Nat.reduceLT, Nat.reduceLeDiff, Nat.reduceBEq, Nat.reduceBNe, Nat.reduceGT, Int.reduceEq, Int.reduceLT, Int.reduceLE, Int.reduceToNat, Int.reduceAdd, Int.reduceSub, Int.reduceMul, Int.reduceNeg, Int.reduceBEq, Int.reduceBNe, b_fuglemanref12_Right, gs_fuglemanref12_Right, hr, hw, Ins.c, o1, o2, o3, o4, o5, o6, o7, o8, o9, oa, p3, p4, t1, t2, n1]
  try simp -implicitDefEqProofs only [eqs, eqd, eqe, lh_some, ↓reduceIte, reduceCtorEq, Nat.reduceEqDiff, Nat.reduceAdd, Nat.reduceSub, Nat.reduceMul, Nat.reduceLT, Nat.reduceLeDiff, Nat.reduceBEq, Nat.reduceBNe, Nat.reduceGT, Int.reduceEq, Int.reduceLT, Int.reduceLE, Int.reduceToNat, Int.reduceAdd, Int.reduceSub, Int.reduceMul, Int.reduceNeg, Int.reduceBEq, Int.reduceBNe, b_fuglemanref12_Right, gs_fuglemanref12_Right, hr, hw, Ins.c, o1, o2, o3, o4, o5, o6, o7, o8, o9, oa, p3, p4, t1, t2, n1]
  cases n2 : decide (i.n ≤ 9999)
  · simp -implicitDefEqProofs only [eqs, eqd, eqe, lh_some, ↓reduceIte, reduceCtorEq, Nat.reduceEqDiff, Nat.reduceAdd, Nat.reduceSub, Nat.reduceMul, Nat.reduceLT, Nat.reduceLeDiff, Nat.reduceBEq, Nat.reduceBNe, Nat.reduceGT, Int.reduceEq, Int.reduceLT, Int.reduceLE, Int.reduceToNat, Int.reduceAdd, Int.reduceSub, Int.reduceMul, Int.reduceNeg, Int.reduceBEq, Int.reduceBNe, b_fuglemanref12_Right, gs_fuglemanref12_Right, hr, hw, Ins.c, o1, o2, o3, o4, o5, o6, o7, o8, o9, oa, p3, p4, t1, t2, n1, n2]
  try simp -implicitDefEqProofs only [eqs, eqd, eqe, lh_some, ↓reduceIte, reduceCtorEq, Nat.reduceEqDiff, Nat.reduceAdd, Nat.reduceSub, Nat.reduceMul, Nat.reduceLT, Nat.reduceLeDiff, Nat.reduceBEq, Nat.reduceBNe, Nat.reduceGT, Int.reduceEq, Int.reduceLT, Int.reduceLE, Int.reduceToNat, Int.reduceAdd, Int.reduceSub, Int.reduceMul, Int.reduceNeg, Int.reduceBEq, Int.reduceBNe, b_fuglemanref12_Right, gs_fuglemanref12_Right, hr, hw, Ins.c, o1, o2, o3, o4, o5, o6, o7, o8, o9, oa, p3, p4, t1, t2, n1, n2]
  cases k0 : (i.k == 0)
  · simp -implicitDefEqProofs only [eqs, eqd, eqe, lh_some, ↓reduceIte, reduceCtorEq, Nat.reduceEqDiff, Nat.reduceAdd, Nat.reduceSub, Nat.reduceMul, Nat.reduceLT, Nat.reduceLeDiff, Nat.reduceBEq, Nat.reduceBNe, Nat.reduceGT, Int.reduceEq, Int.reduceLT, Int.reduceLE, Int.reduceToNat, Int.reduceAdd, Int.reduceSub, Int.reduceMul, Int.reduceNeg, Int.reduceBEq, Int.reduceBNe, b_fuglemanref12_Right, gs_fuglemanref12_Right, hr, hw, Ins.c, o1, o2, o3, o4, o5, o6, o7, o8, o9, oa, p3, p4, t1, t2, n1, n2, k0]
  simp -implicitDefEqProofs only [eqs, eqd, eqe, lh_some, ↓reduceIte, reduceCtorEq, Nat.reduceEqDiff, Nat.reduceAdd, Nat.reduceSub, Nat.reduceMul, Nat.reduceLT, Nat.reduceLeDiff, Nat.reduceBEq, Nat.reduceBNe, Nat.reduceGT, Int.reduceEq, Int.reduceLT, Int.reduceLE, Int.reduceToNat, Int.reduceAdd, Int.reduceSub, Int.reduceMul, Int.reduceNeg, Int.reduceBEq, Int.reduceBNe, b_fuglemanref12_Right, gs_fuglemanref12_Right, hr, hw, Ins.c, o1, o2, o3, o4, o5, o6, o7, o8, o9, oa, p3, p4, t1, t2, n1, n2, k0]
theorem rright_7bz (k : Nat) (i : Ins) (hi : i.In) (hcl : cl i.op = 7) (ho : i.op = 35) (p3 : (i.ar == 3) = false) (p4 : (i.ar == 4) = false) : acall T (k + 11) 28 0 [.agg i.c] [] = some ⟨.v (.bool (right i)), [], 1⟩ := by
  rw [acall_go (body := b_fuglemanref12_Right) rfl rfl (Nat.zero_le _)]
  have hr := reads_a (k + 9) i.op
  have hw := writes_a (k + 9) i.op
  have w0 : (decide (3 ≤ i.op) && decide (i.op ≤ 6)) = false := by
    by_cases c1 : 3 ≤ i.op <;> by_cases c2 : i.op ≤ 6 <;> simp [c1, c2]
    omega
  rw [w0] at hw
  rw [rd1_cl, hcl, show ((7 : Int) == 1) = false from rfl] at hr
  unfold right
  rw [hcl]
  simp only [Int.reduceEq, if_true, if_false]
  have o1 : 25 ≤ i.op := by first | omega | (rw [beq_eq_false_iff_ne]; omega) | (rw [beq_iff_eq]; omega)
  have o2 : ¬ i.op ≤ 27 := by first | omega | (rw [beq_eq_false_iff_ne]; omega) | (rw [beq_iff_eq]; omega)
  have o3 : (i.op == 13) = false := by first | omega | (rw [beq_eq_false_iff_ne]; omega) | (rw [beq_iff_eq]; omega)
  have o4 : 28 ≤ i.op := by first | omega | (rw [beq_eq_false_iff_ne]; omega) | (rw [beq_iff_eq]; omega)
  have o5 : ¬ i.op ≤ 30 := by first | omega | (rw [beq_eq_false_iff_ne]; omega) | (rw [beq_iff_eq]; omega)
  have o6 : (i.op == 33) = false := by first | omega | (rw [beq_eq_false_iff_ne]; omega) | (rw [beq_iff_eq]; omega)
  have o7 : (i.op == 31) = false := by first | omega | (rw [beq_eq_false_iff_ne]; omega) | (rw [beq_iff_eq]; omega)
  have o8 : (i.op == 32) = false := by first | omega | (rw [beq_eq_false_iff_ne]; omega) | (rw [beq_iff_eq]; omega)
  have o9 : (i.op == 34) = false := by first | omega | (rw [beq_eq_false_iff_ne]; omega) | (rw [beq_iff_eq]; omega)
  have oa : (i.op == 35) = true := by first | omega | (rw [beq_eq_false_iff_ne]; omega) | (rw [beq_iff_eq]; omega)
  simp -implicitDefEqProofs only [eqs, eqd, eqe, lh_some, ↓reduceIte, reduceCtorEq, Nat.reduceEqDiff, Nat.reduceAdd, Nat.reduceSub, Nat.reduceMul, Nat.reduceLT, Nat.reduceLeDiff, Nat.reduceBEq, Nat.reduceBNe, Nat.reduceGT, Int.reduceEq, Int.reduceLT, Int.reduceLE, Int.reduceToNat, Int.reduceAdd, Int.reduceSub, Int.reduceMul, Int.reduceNeg, Int.reduceBEq, Int.reduceBNe, b_fuglemanref12_Right, gs_fuglemanref12_Right, hr, hw, Ins.c, o1, o2, o3, o4, o5, o6, o7, o8, o9, oa, p3, p4]
theorem rright_0a (k : Nat) (i : Ins) (hi : i.In) (hcl : cl i.op = 0) (ho : 36 < i.op) : acall T (k + 11) 28 0 [.agg i.c] [] = some ⟨.v (.bool (right i)), [], 1⟩ := by
  rw [acall_go (body := b_fuglemanref12_Right) rfl rfl (Nat.zero_le _)]
  have hr := reads_a (k + 9) i.op
  have hw := writes_a (k + 9) i.op
  have w0 : (decide (3 ≤ i.op) && decide (i.op ≤ 6)) = false := by
    by_cases c1 : 3 ≤ i.op <;> by_cases c2 : i.op ≤ 6 <;> simp [c1, c2]
    omega
  rw [w0] at hw
  rw [rd1_cl, hcl, show ((0 : Int) == 1) = false from rfl] at hr
  unfold right
  rw [hcl]
  simp only [Int.reduceEq, if_true, if_false]
  have o1 : 25 ≤ i.op := by first | omega | (rw [beq_eq_false_iff_ne]; omega) | (rw [beq_iff_eq]; omega)
  have o2 : ¬ i.op ≤ 27 := by first | omega | (rw [beq_eq_false_iff_ne]; omega) | (rw [beq_iff_eq]; omega)
  have o3 : (i.op == 13) = false := by first | omega | (rw [beq_eq_false_iff_ne]; omega) | (rw [beq_iff_eq]; omega)
  have o4 : 28 ≤ i.op := by first | omega | (rw [beq_eq_false_iff_ne]; omega) | (rw [beq_iff_eq]; omega)
  have o5 : ¬ i.op ≤ 30 := by first | omega | (rw [beq_eq_false_iff_ne]; omega) | (rw [beq_iff_eq]; omega)
  have o6 : (i.op == 33) = false := by first | omega | (rw [beq_eq_false_iff_ne]; omega) | (rw [beq_iff_eq]; omega)
  have o7 : (i.op == 31) = false := by first | omega | (rw [beq_eq_false_iff_ne]; omega) | (rw [beq_iff_eq]; omega)
  have o8 : (i.op == 32) = false := by first | omega | (rw [beq_eq_false_iff_ne]; omega) | (rw [beq_iff_eq]; omega)
  have o9 : (i.op == 34) = false := by first | omega | (rw [beq_eq_false_iff_ne]; omega) | (rw [beq_iff_eq]; omega)
  have oa : (i.op == 35) = false := by first | omega | (rw [beq_eq_false_iff_ne]; omega) | (rw [beq_iff_eq]; omega)
  have ob : (i.op == 36) = false := by first | omega | (rw [beq_eq_false_iff_ne]; omega) | (rw [beq_iff_eq]; omega)
  simp -implicitDefEqProofs only [eqs, eqd, eqe, lh_some, ↓reduceIte, reduceCtorEq, Nat.reduceEqDiff, Nat.reduceAdd, Nat.reduceSub, Nat.reduceMul, Nat.reduceLT, Nat.reduceLeDiff, Nat.reduceBEq, Nat.reduceBNe, Nat.reduceGT, Int.reduceEq, Int.reduceLT, Int.reduceLE, Int.reduceToNat, Int.reduceAdd, Int.reduceSub, Int.reduceMul, Int.reduceNeg, Int.reduceBEq, Int.reduceBNe, b_fuglemanref12_Right, gs_fuglemanref12_Right, hr, hw, Ins.c, o1, o2, o3, o4, o5, o6, o7, o8, o9, oa, ob]
theorem rright_0b (k : Nat) (i : Ins) (hi : i.In) (hcl : cl i.op = 0) (ho : i.op < 1) : acall T (k + 11) 28 0 [.agg i.c] [] = some ⟨.v (.bool (right i)), [], 1⟩ := by
  rw [acall_go (body := b_fuglemanref12_Right) rfl rfl (Nat.zero_le _)]
  have hr := reads_a (k + 9) i.op
  have hw := writes_a (k + 9) i.op
  have w0 : (decide (3 ≤ i.op) && decide (i.op ≤ 6)) = false := by
    by_cases c1 : 3 ≤ i.op <;> by_cases c2 : i.op ≤ 6 <;> simp [c1, c2]
    omega
  rw [w0] at hw
  rw [rd1_cl, hcl, show ((0 : Int) == 1) = false from rfl] at hr
  unfold right
  rw [hcl]
  simp only [Int.reduceEq, if_true, if_false]
  have o1 : ¬ 25 ≤ i.op := by first | omega | (rw [beq_eq_false_iff_ne]; omega) | (rw [beq_iff_eq]; omega)
  have o3 : (i.op == 13) = false := by first | omega | (rw [beq_eq_false_iff_ne]; omega) | (rw [beq_iff_eq]; omega)
  have o4 : ¬ 28 ≤ i.op := by first | omega | (rw [beq_eq_false_iff_ne]; omega) | (rw [beq_iff_eq]; omega)
  have o6 : (i.op == 33) = false := by first | omega | (rw [beq_eq_false_iff_ne]; omega) | (rw [beq_iff_eq]; omega)
  have o7 : (i.op == 31) = false := by first | omega | (rw [beq_eq_false_iff_ne]; omega) | (rw [beq_iff_eq]; omega)
  have o8 : (i.op == 32) = false := by first | omega | (rw [beq_eq_false_iff_ne]; omega) | (rw [beq_iff_eq]; omega)
  have o9 : (i.op == 34) = false := by first | omega | (rw [beq_eq_false_iff_ne]; omega) | (rw [beq_iff_eq]; omega)
  have oa : (i.op == 35) = false := by first | omega | (rw [beq_eq_false_iff_ne]; omega) | (rw [beq_iff_eq]; omega)
  have ob : (i.op == 36) = false := by first | omega | (rw [beq_eq_false_iff_ne]; omega) | (rw [beq_iff_eq]; omega)
  simp -implicitDefEqProofs only [eqs, eqd, eqe, lh_some, ↓reduceIte, reduceCtorEq, Nat.reduceEqDiff, Nat.reduceAdd, Nat.reduceSub, Nat.reduceMul, Nat.reduceLT, Nat.reduceLeDiff, Nat.reduceBEq, Nat.reduceBNe, Nat.reduceGT, Int.reduceEq, Int.reduceLT, Int.reduceLE, Int.reduceToNat, Int.reduceAdd, Int.reduceSub, Int.reduceMul, Int.reduceNeg, Int.reduceBEq, Int.reduceBNe, b_fuglemanref12_Right, gs_fuglemanref12_Right, hr, hw, Ins.c, o1, o3, o4, o6, o7, o8, o9, oa, ob]
theorem cl_in (op : Int) : (cl op = 0 ∧ (op < 1 ∨ 36 < op)) ∨ (cl op = 1) ∨ (cl op = 2) ∨ (cl op = 3 ∧ 25 ≤ op ∧ op ≤ 27) ∨ (cl op = 4 ∧ (op = 13 ∨ (28 ≤ op ∧ op ≤ 30) ∨ op = 33)) ∨ (cl op = 5 ∧ op = 31) ∨ (cl op = 6 ∧ op = 32) ∨ (cl op = 7 ∧ (op = 34 ∨ op = 35)) ∨ (cl op = 8 ∧ op = 36) := by
  unfold cl
  repeat' split
  all_goals omega
theorem rright_a (k : Nat) (i : Ins) (hi : i.In) : acall T (k + 11) 28 0 [.agg i.c] [] = some ⟨.v (.bool (right i)), [], 1⟩ := by
  rcases cl_in i.op with ⟨h, h' | h'⟩ | h | h | ⟨h, h'⟩ | ⟨h, h' | h' | h'⟩ | ⟨h, h'⟩ | ⟨h, h'⟩ | ⟨h, h' | h'⟩ | ⟨h, h'⟩
  · exact rright_0b k i hi h h'
  · exact rright_0a k i hi h h'
  · exact rright_1 k i hi h
  · exact rright_2 k i hi h
  · exact rright_3 k i hi h h'
  · exact rright_4a k i hi h h'
  · exact rright_4b k i hi h h'
  · exact rright_4c k i hi h h'
  · exact rright_5 k i hi h h'
  · exact rright_6 k i hi h h'
  all_goals (cases p3 : (i.ar == 3)
             case true => first | exact rright_7ax k i hi h h' p3 | exact rright_7bx k i hi h h' p3 | exact rright_8x k i hi h h' p3
             cases p4 : (i.ar == 4) <;> first | exact rright_7ay k i hi h h' p3 p4 | exact rright_7az k i hi h h' p3 p4 | exact rright_7by k i hi h h' p3 p4 | exact rright_7bz k i hi h h' p3 p4 | exact rright_8y k i hi h h' p3 p4 | exact rright_8z k i hi h h' p3 p4)
end Go.Proofs.Ythkjiclplecljaa.Ver

/- What is ahead of an instruction: package verify's small functions. -/
namespace Go.Proofs.Ythkjiclplecljaa.Ver
open Go Go.Proofs.Ythkjiclplecljaa.Sym Go.Proofs.Ythkjiclplecljaa.Tab
set_option linter.unusedVariables false
set_option linter.unusedSimpArgs false
set_option maxHeartbeats 4000000
set_option maxRecDepth 20000
def brs (bs : List (Int × Int)) : List AV := bs.flatMap fun p => [.v (.int .i64 p.1), .v (.int .i64 p.2)]
theorem brs_len {bs : List (Int × Int)} : (brs bs).length = bs.length * 2 := by
  induction bs with
  | nil => rfl
  | cons p bs ih => rw [show brs (p :: bs) = .v (.int .i64 p.1) :: .v (.int .i64 p.2) :: brs bs from rfl]; simp only [List.length_cons, ih]; omega
theorem brs_flat {bs : List (Int × Int)} : (brs bs).all flat0 = true := by
  induction bs with
  | nil => rfl
  | cons p bs ih => rw [show brs (p :: bs) = .v (.int .i64 p.1) :: .v (.int .i64 p.2) :: brs bs from rfl]; simp only [List.all_cons, ih]; rfl
theorem brs_atom {bs : List (Int × Int)} : (brs bs).all atom = true := by
  induction bs with
  | nil => rfl
  | cons p bs ih => rw [show brs (p :: bs) = .v (.int .i64 p.1) :: .v (.int .i64 p.2) :: brs bs from rfl]; simp only [List.all_cons, ih]; rfl
theorem brs_snoc {bs : List (Int × Int)} {a b : Int} : brs bs ++ [.v (.int .i64 a), .v (.int .i64 b)] = brs (bs ++ [(a, b)]) := by simp [brs]
theorem brs_take {bs : List (Int × Int)} : (brs bs).take (bs.length * 2) = brs bs := by rw [← brs_len, List.take_length]
def openA (nil : Bool) (bs : List (Int × Int)) : AV := if nil = true then .v (.slice none 0 0) else .shr bs.length false (brs bs)
structure Ah where
  k : Int
  nil : Bool
  bs : List (Int × Int)
def Ah.c (a : Ah) : List AV := [.v (.int .i64 a.k), openA a.nil a.bs]
structure Ah.In (a : Ah) : Prop where
  nil : a.nil = true → a.bs = []
  len : a.bs.length ≤ 8
def must (b : Bool) : Int := if b = true then 0 else 6
def logic (k : Int) : Bool := may 13 k
def made (op k : Int) : Int := if 19 ≤ op ∧ op ≤ 24 then 1 else k
theorem must_a (k : Nat) (b : Bool) : acall T (k + 1) 80 0 [.v (.bool b)] [] = some ⟨.v (.int .i64 (must b)), [], 0⟩ := by
  rw [acall_go (body := b_verify_must) rfl rfl (Nat.zero_le _)]
  cases b <;> simp -implicitDefEqProofs only [eqs, eqd, eqe, lh_some, ↓reduceIte, reduceCtorEq, Nat.reduceEqDiff, Nat.reduceAdd, Nat.reduceSub, Nat.reduceMul, Nat.reduceLT, Nat.reduceLeDiff, Nat.reduceBEq, Nat.reduceBNe, Nat.reduceGT, Int.reduceEq, Int.reduceLT, Int.reduceLE, Int.reduceToNat, Int.reduceAdd, Int.reduceSub, Int.reduceMul, Int.reduceNeg, Int.reduceBEq, Int.reduceBNe, b_verify_must, must]
theorem logic_a (k : Nat) (n : Int) : acall T (k + 4) 81 0 [.v (.int .i64 n)] [] = some ⟨.v (.bool (logic n)), [], 1⟩ := by
  rw [acall_go (body := b_verify_logic) rfl rfl (Nat.zero_le _)]
  have h := may_a k 13 n
  simp -implicitDefEqProofs only [eqs, eqd, eqe, lh_some, ↓reduceIte, reduceCtorEq, Nat.reduceEqDiff, Nat.reduceAdd, Nat.reduceSub, Nat.reduceMul, Nat.reduceLT, Nat.reduceLeDiff, Nat.reduceBEq, Nat.reduceBNe, Nat.reduceGT, Int.reduceEq, Int.reduceLT, Int.reduceLE, Int.reduceToNat, Int.reduceAdd, Int.reduceSub, Int.reduceMul, Int.reduceNeg, Int.reduceBEq, Int.reduceBNe, b_verify_logic, h, logic]
theorem rlogic_a (k : Nat) (n : Int) : acall T (k + 4) 45 0 [.v (.int .i64 n)] [] = some ⟨.v (.bool (logic n)), [], 1⟩ := by
  rw [acall_go (body := b_fuglemanref14_logic) rfl rfl (Nat.zero_le _)]
  have h := rmay_a k 13 n
  simp -implicitDefEqProofs only [eqs, eqd, eqe, lh_some, ↓reduceIte, reduceCtorEq, Nat.reduceEqDiff, Nat.reduceAdd, Nat.reduceSub, Nat.reduceMul, Nat.reduceLT, Nat.reduceLeDiff, Nat.reduceBEq, Nat.reduceBNe, Nat.reduceGT, Int.reduceEq, Int.reduceLT, Int.reduceLE, Int.reduceToNat, Int.reduceAdd, Int.reduceSub, Int.reduceMul, Int.reduceNeg, Int.reduceBEq, Int.reduceBNe, b_fuglemanref14_logic, h, logic]
theorem made_a (k : Nat) (op n : Int) : acall T (k + 1) 85 0 [.v (.int .i64 op), .v (.int .i64 n)] [] = some ⟨.v (.int .i64 (made op n)), [], 0⟩ := by
  rw [acall_go (body := b_verify_made) rfl rfl (Nat.zero_le _)]
  unfold made
  by_cases c1 : 19 ≤ op <;> by_cases c2 : op ≤ 24 <;> simp -implicitDefEqProofs only [eqs, eqd, eqe, lh_some, ↓reduceIte, reduceCtorEq, Nat.reduceEqDiff, Nat.reduceAdd, Nat.reduceSub, Nat.reduceMul, Nat.reduceLT, Nat.reduceLeDiff, Nat.reduceBEq, Nat.reduceBNe, Nat.reduceGT, Int.reduceEq, Int.reduceLT, Int.reduceLE, Int.reduceToNat, Int.reduceAdd, Int.reduceSub, Int.reduceMul, Int.reduceNeg, Int.reduceBEq, Int.reduceBNe, b_verify_made, c1, c2]
theorem with_a (k : Nat) (n : Int) (o : AV) (h1 : atom o = true) (h2 : flat0 o = true) (h3 : refs0 o = []) (h4 : ∀ f, ren0 f o = o) (m : Int) : acall T (k + 1) 79 0 [.agg [.v (.int .i64 n), o], .v (.int .i64 m)] [] = some ⟨.agg [.v (.int .i64 m), o], [], 1⟩ := by
  rw [acall_go (body := b_verify_ahead_with) rfl rfl (Nat.zero_le _)]
  generalize hf : (atom o) = ao at *
  subst h1
  cases o <;> first | (simp only [flat0, Bool.false_eq_true] at h2; done) | simp -implicitDefEqProofs only [eqs, eqd, eqe, lh_some, ↓reduceIte, reduceCtorEq, Nat.reduceEqDiff, Nat.reduceAdd, Nat.reduceSub, Nat.reduceMul, Nat.reduceLT, Nat.reduceLeDiff, Nat.reduceBEq, Nat.reduceBNe, Nat.reduceGT, Int.reduceEq, Int.reduceLT, Int.reduceLE, Int.reduceToNat, Int.reduceAdd, Int.reduceSub, Int.reduceMul, Int.reduceNeg, Int.reduceBEq, Int.reduceBNe, b_verify_ahead_with]
theorem ret_a (k : Nat) (a : Ah) (ha : a.In) (op : Int) : acall T (k + 1) 82 0 [.agg a.c, .v (.int .i64 op)] [] = some ⟨.tup [.agg a.c, .v (.int .i64 (if op ≠ 28 ∧ a.k ≠ 1 then 6 else if 0 < a.bs.length then 3 else 0))], [], 1⟩ := by
  rw [acall_go (body := b_verify_ahead_ret) rfl rfl (Nat.zero_le _)]
  obtain ⟨n, nil, bs⟩ := a
  have hn := ha.nil
  simp only at hn
  have key : acall T 0 0 0 [] [] = none := rfl
  cases nil
  · simp only [Ah.c, openA, Bool.false_eq_true, if_false]
    by_cases c1 : op = 28
    · have d1 : (op != 28) = false := by simp [c1]
      by_cases c3 : 0 < bs.length
      · have c3' : (0 : Int) < bs.length := by omega
        simp -implicitDefEqProofs only [eqs, eqd, eqe, lh_some, ↓reduceIte, reduceCtorEq, Nat.reduceEqDiff, Nat.reduceAdd, Nat.reduceSub, Nat.reduceMul, Nat.reduceLT, Nat.reduceLeDiff, Nat.reduceBEq, Nat.reduceBNe, Nat.reduceGT, Int.reduceEq, Int.reduceLT, Int.reduceLE, Int.reduceToNat, Int.reduceAdd, Int.reduceSub, Int.reduceMul, Int.reduceNeg, Int.reduceBEq, Int.reduceBNe, b_verify_ahead_ret, g_verify_ahead_ret_0, d1, c1, c3, c3']
      · have c3' : ¬ (0 : Int) < bs.length := by omega
        simp -implicitDefEqProofs only [eqs, eqd, eqe, lh_some, ↓reduceIte, reduceCtorEq, Nat.reduceEqDiff, Nat.reduceAdd, Nat.reduceSub, Nat.reduceMul, Nat.reduceLT, Nat.reduceLeDiff, Nat.reduceBEq, Nat.reduceBNe, Nat.reduceGT, Int.reduceEq, Int.reduceLT, Int.reduceLE, Int.reduceToNat, Int.reduceAdd, Int.reduceSub, Int.reduceMul, Int.reduceNeg, Int.reduceBEq, Int.reduceBNe, b_verify_ahead_ret, g_verify_ahead_ret_0, d1, c1, c3, c3']
    · have d1 : (op != 28) = true := by simp [c1]
      by_cases c2 : n = 1
      · have d2 : (n != 1) = false := by simp [c2]
        by_cases c3 : 0 < bs.length
        · have c3' : (0 : Int) < bs.length := by omega
          simp -implicitDefEqProofs only [eqs, eqd, eqe, lh_some, ↓reduceIte, reduceCtorEq, Nat.reduceEqDiff, Nat.reduceAdd, Nat.reduceSub, Nat.reduceMul, Nat.reduceLT, Nat.reduceLeDiff, Nat.reduceBEq, Nat.reduceBNe, Nat.reduceGT, Int.reduceEq, Int.reduceLT, Int.reduceLE, Int.reduceToNat, Int.reduceAdd, Int.reduceSub, Int.reduceMul, Int.reduceNeg, Int.reduceBEq, Int.reduceBNe, b_verify_ahead_ret, g_verify_ahead_ret_0, d1, d2, c1, c2, c3, c3']
        · have c3' : ¬ (0 : Int) < bs.length := by omega
          simp -implicitDefEqProofs only [eqs, eqd, eqe, lh_some, ↓reduceIte, reduceCtorEq, Nat.reduceEqDiff, Nat.reduceAdd, Nat.reduceSub, Nat.reduceMul, Nat.reduceLT, Nat.reduceLeDiff, Nat.reduceBEq, Nat.reduceBNe, Nat.reduceGT, Int.reduceEq, Int.reduceLT, Int.reduceLE, Int.reduceToNat, Int.reduceAdd, Int.reduceSub, Int.reduceMul, Int.reduceNeg, Int.reduceBEq, Int.reduceBNe, b_verify_ahead_ret, g_verify_ahead_ret_0, d1, d2, c1, c2, c3, c3']
      · have d2 : (n != 1) = true := by simp [c2]
        simp -implicitDefEqProofs only [eqs, eqd, eqe, lh_some, ↓reduceIte, reduceCtorEq, Nat.reduceEqDiff, Nat.reduceAdd, Nat.reduceSub, Nat.reduceMul, Nat.reduceLT, Nat.reduceLeDiff, Nat.reduceBEq, Nat.reduceBNe, Nat.reduceGT, Int.reduceEq, Int.reduceLT, Int.reduceLE, Int.reduceToNat, Int.reduceAdd, Int.reduceSub, Int.reduceMul, Int.reduceNeg, Int.reduceBEq, Int.reduceBNe, b_verify_ahead_ret, g_verify_ahead_ret_0, d1, d2, c1, c2]
  · obtain rfl := hn rfl
    simp only [Ah.c, openA, if_true]
    by_cases c1 : op = 28
    · have d1 : (op != 28) = false := by simp [c1]
      simp -implicitDefEqProofs only [eqs, eqd, eqe, lh_some, ↓reduceIte, reduceCtorEq, Nat.reduceEqDiff, Nat.reduceAdd, Nat.reduceSub, Nat.reduceMul, Nat.reduceLT, Nat.reduceLeDiff, Nat.reduceBEq, Nat.reduceBNe, Nat.reduceGT, Int.reduceEq, Int.reduceLT, Int.reduceLE, Int.reduceToNat, Int.reduceAdd, Int.reduceSub, Int.reduceMul, Int.reduceNeg, Int.reduceBEq, Int.reduceBNe, b_verify_ahead_ret, g_verify_ahead_ret_0, d1, c1]
    · have d1 : (op != 28) = true := by simp [c1]
      by_cases c2 : n = 1
      · have d2 : (n != 1) = false := by simp [c2]
        simp -implicitDefEqProofs only [eqs, eqd, eqe, lh_some, ↓reduceIte, reduceCtorEq, Nat.reduceEqDiff, Nat.reduceAdd, Nat.reduceSub, Nat.reduceMul, Nat.reduceLT, Nat.reduceLeDiff, Nat.reduceBEq, Nat.reduceBNe, Nat.reduceGT, Int.reduceEq, Int.reduceLT, Int.reduceLE, Int.reduceToNat, Int.reduceAdd, Int.reduceSub, Int.reduceMul, Int.reduceNeg, Int.reduceBEq, Int.reduceBNe, b_verify_ahead_ret, g_verify_ahead_ret_0, d1, d2, c1, c2]
      · have d2 : (n != 1) = true := by simp [c2]
        simp -implicitDefEqProofs only [eqs, eqd, eqe, lh_some, ↓reduceIte, reduceCtorEq, Nat.reduceEqDiff, Nat.reduceAdd, Nat.reduceSub, Nat.reduceMul, Nat.reduceLT, Nat.reduceLeDiff, Nat.reduceBEq, Nat.reduceBNe, Nat.reduceGT, Int.reduceEq, Int.reduceLT, Int.reduceLE, Int.reduceToNat, Int.reduceAdd, Int.reduceSub, Int.reduceMul, Int.reduceNeg, Int.reduceBEq, Int.reduceBNe, b_verify_ahead_ret, g_verify_ahead_ret_0, d1, d2, c1, c2]
def push (a : Ah) (op : Int) : Ah × Int := if may op a.k = false then (a, 6) else if a.bs.length = 8 then (a, 8) else (⟨0, false, a.bs ++ [(op, a.k)]⟩, 0)
theorem clip_nil (k : Nat) : acall T (k + 1) 100 0 [.v (.slice none 0 0)] [] = some ⟨.v (.slice none 0 0), [], 0⟩ := by
  rw [acall_go (body := b_verify_bracket_100) rfl rfl (Nat.zero_le _)]
  simp -implicitDefEqProofs only [eqs, eqd, eqe, lh_some, ↓reduceIte, reduceCtorEq, Nat.reduceEqDiff, Nat.reduceAdd, Nat.reduceSub, Nat.reduceMul, Nat.reduceLT, Nat.reduceLeDiff, Nat.reduceBEq, Nat.reduceBNe, Nat.reduceGT, Int.reduceEq, Int.reduceLT, Int.reduceLE, Int.reduceToNat, Int.reduceAdd, Int.reduceSub, Int.reduceMul, Int.reduceNeg, Int.reduceBEq, Int.reduceBNe, b_verify_bracket_100]
theorem clip_shr (k : Nat) (bs : List (Int × Int)) : acall T (k + 1) 100 0 [.shr bs.length false (brs bs)] [] = some ⟨.shr bs.length true (brs bs), [], 0⟩ := by
  rw [acall_go (body := b_verify_bracket_100) rfl rfl (Nat.zero_le _)]
  simp -implicitDefEqProofs only [eqs, eqd, eqe, lh_some, ↓reduceIte, reduceCtorEq, Nat.reduceEqDiff, Nat.reduceAdd, Nat.reduceSub, Nat.reduceMul, Nat.reduceLT, Nat.reduceLeDiff, Nat.reduceBEq, Nat.reduceBNe, Nat.reduceGT, Int.reduceEq, Int.reduceLT, Int.reduceLE, Int.reduceToNat, Int.reduceAdd, Int.reduceSub, Int.reduceMul, Int.reduceNeg, Int.reduceBEq, Int.reduceBNe, b_verify_bracket_100, brs_take]
theorem push_a (k : Nat) (a : Ah) (ha : a.In) (op : Int) : acall T (k + 4) 83 0 [.agg a.c, .v (.int .i64 op)] [] = some ⟨.tup [.agg (push a op).1.c, .v (.int .i64 (push a op).2)], [], 1⟩ := by
  rw [acall_go (body := b_verify_ahead_push) rfl rfl (Nat.zero_le _)]
  obtain ⟨n, nil, bs⟩ := a
  have hn := ha.nil
  have hl := ha.len
  have hm := may_a k op n
  simp only at hn hl
  unfold push
  cases c0 : may op n
  · rw [c0] at hm
    cases nil
    · simp only [Ah.c, openA, Bool.false_eq_true, if_false, if_true]
      simp -implicitDefEqProofs only [eqs, eqd, eqe, lh_some, ↓reduceIte, reduceCtorEq, Nat.reduceEqDiff, Nat.reduceAdd, Nat.reduceSub, Nat.reduceMul, Nat.reduceLT, Nat.reduceLeDiff, Nat.reduceBEq, Nat.reduceBNe, Nat.reduceGT, Int.reduceEq, Int.reduceLT, Int.reduceLE, Int.reduceToNat, Int.reduceAdd, Int.reduceSub, Int.reduceMul, Int.reduceNeg, Int.reduceBEq, Int.reduceBNe, b_verify_ahead_push, g_verify_ahead_push_0, hm]
    · obtain rfl := hn rfl
      simp only [Ah.c, openA, if_true]
      simp -implicitDefEqProofs only [eqs, eqd, eqe, lh_some, ↓reduceIte, reduceCtorEq, Nat.reduceEqDiff, Nat.reduceAdd, Nat.reduceSub, Nat.reduceMul, Nat.reduceLT, Nat.reduceLeDiff, Nat.reduceBEq, Nat.reduceBNe, Nat.reduceGT, Int.reduceEq, Int.reduceLT, Int.reduceLE, Int.reduceToNat, Int.reduceAdd, Int.reduceSub, Int.reduceMul, Int.reduceNeg, Int.reduceBEq, Int.reduceBNe, b_verify_ahead_push, g_verify_ahead_push_0, hm]
  · rw [c0] at hm
    cases nil
    · have hc := clip_shr (k + 2) bs
      by_cases c1 : bs.length = 8
      · have c1' : ((bs.length : Int) == 8) = true := by rw [beq_iff_eq]; omega
        simp only [Ah.c, openA, c1, Bool.false_eq_true, reduceCtorEq, Bool.true_eq_false, if_false, if_true]
        rw [← c1]
        simp -implicitDefEqProofs only [eqs, eqd, eqe, lh_some, ↓reduceIte, reduceCtorEq, Nat.reduceEqDiff, Nat.reduceAdd, Nat.reduceSub, Nat.reduceMul, Nat.reduceLT, Nat.reduceLeDiff, Nat.reduceBEq, Nat.reduceBNe, Nat.reduceGT, Int.reduceEq, Int.reduceLT, Int.reduceLE, Int.reduceToNat, Int.reduceAdd, Int.reduceSub, Int.reduceMul, Int.reduceNeg, Int.reduceBEq, Int.reduceBNe, b_verify_ahead_push, g_verify_ahead_push_0, hm, c1']
      · have c1' : ((bs.length : Int) == 8) = false := by rw [beq_eq_false_iff_ne]; omega
        have b1 : (bs.length + 1) * 16 ≤ 140737488355328 := by omega
        have b2 : bs.length ≤ 9223372036854775806 := by omega
        have b3 : bs.length * 2 = bs.length * 2 := rfl
        have b4 : bs.length + 1 ≤ 9223372036854775807 := by omega
        have b5 : (brs bs ++ [AV.v (.int .i64 op), AV.v (.int .i64 n)]).take ((bs.length + 1) * 2) = brs bs ++ [AV.v (.int .i64 op), AV.v (.int .i64 n)] := List.take_of_length_le (by rw [List.length_append, brs_len]; simp; omega)
        have b7 : (bs.length + 1) * 2 ≤ bs.length * 2 + 2 := by omega
        have b6 : (bs ++ [(op, n)]).length = bs.length + 1 := by simp
        simp only [Ah.c, openA, c1, Bool.false_eq_true, reduceCtorEq, Bool.true_eq_false, if_false, if_true, b6]
        rw [← brs_snoc]
        simp -implicitDefEqProofs only [eqs, eqd, eqe, lh_some, ↓reduceIte, reduceCtorEq, Nat.reduceEqDiff, Nat.reduceAdd, Nat.reduceSub, Nat.reduceMul, Nat.reduceLT, Nat.reduceLeDiff, Nat.reduceBEq, Nat.reduceBNe, Nat.reduceGT, Int.reduceEq, Int.reduceLT, Int.reduceLE, Int.reduceToNat, Int.reduceAdd, Int.reduceSub, Int.reduceMul, Int.reduceNeg, Int.reduceBEq, Int.reduceBNe, b_verify_ahead_push, g_verify_ahead_push_0, hm, hc, c1', b1, b2, b4, b5, b7, brs_len, brs_flat, brs_atom, List.all_append, List.length_append]
    · obtain rfl := hn rfl
      have hc := clip_nil (k + 2)
      simp only [Ah.c, openA, List.length_nil, reduceCtorEq, Bool.false_eq_true, Bool.true_eq_false, Nat.reduceEqDiff, if_false, if_true]
      simp -implicitDefEqProofs only [eqs, eqd, eqe, lh_some, ↓reduceIte, reduceCtorEq, Nat.reduceEqDiff, Nat.reduceAdd, Nat.reduceSub, Nat.reduceMul, Nat.reduceLT, Nat.reduceLeDiff, Nat.reduceBEq, Nat.reduceBNe, Nat.reduceGT, Int.reduceEq, Int.reduceLT, Int.reduceLE, Int.reduceToNat, Int.reduceAdd, Int.reduceSub, Int.reduceMul, Int.reduceNeg, Int.reduceBEq, Int.reduceBNe, b_verify_ahead_push, g_verify_ahead_push_0, hm, hc, brs]
end Go.Proofs.Ythkjiclplecljaa.Ver

/- What is ahead of an instruction: package verify's behind. -/
namespace Go.Proofs.Ythkjiclplecljaa.Ver
open Go Go.Proofs.Ythkjiclplecljaa.Sym Go.Proofs.Ythkjiclplecljaa.Tab
set_option linter.unusedVariables false
set_option linter.unusedSimpArgs false
set_option maxHeartbeats 4000000
set_option maxRecDepth 20000
def pop (a : Ah) : Ah × Int := match a.bs.getLast? with
  | none => (a, 3)
  | some p => if p.2 ≠ a.k then (a, 6) else (⟨made p.1 p.2, false, a.bs.dropLast⟩, 0)
theorem brs_at (bs : List (Int × Int)) (p : Int × Int) : ((brs (bs ++ [p])).drop (bs.length * 2)).take 2 = [.v (.int .i64 p.1), .v (.int .i64 p.2)] := by
  obtain ⟨x, y⟩ := p
  rw [← brs_snoc, ← brs_len, List.drop_left]
  rfl
theorem brs_front (bs : List (Int × Int)) (p : Int × Int) : (brs (bs ++ [p])).take (bs.length * 2) = brs bs := by
  obtain ⟨x, y⟩ := p
  rw [← brs_snoc, ← brs_len, List.take_left]
theorem pop_a (k : Nat) (a : Ah) (ha : a.In) : acall T (k + 2) 84 0 [.agg a.c] [] = some ⟨.tup [.agg (pop a).1.c, .v (.int .i64 (pop a).2)], [], 1⟩ := by
  rw [acall_go (body := b_verify_ahead_pop) rfl rfl (Nat.zero_le _)]
  obtain ⟨n, nil, bs⟩ := a
  have hn := ha.nil
  have hl := ha.len
  simp only at hn hl
  unfold pop
  rcases List.eq_nil_or_concat bs with rfl | ⟨bs, p, rfl⟩
  · cases nil
    · simp only [Ah.c, openA, Bool.false_eq_true, if_false, List.getLast?_nil]
      simp -implicitDefEqProofs only [eqs, eqd, eqe, lh_some, ↓reduceIte, reduceCtorEq, Nat.reduceEqDiff, Nat.reduceAdd, Nat.reduceSub, Nat.reduceMul, Nat.reduceLT, Nat.reduceLeDiff, Nat.reduceBEq, Nat.reduceBNe, Nat.reduceGT, Int.reduceEq, Int.reduceLT, Int.reduceLE, Int.reduceToNat, Int.reduceAdd, Int.reduceSub, Int.reduceMul, Int.reduceNeg, Int.reduceBEq, Int.reduceBNe, b_verify_ahead_pop]
    · simp only [Ah.c, openA, if_true, List.getLast?_nil]
      simp -implicitDefEqProofs only [eqs, eqd, eqe, lh_some, ↓reduceIte, reduceCtorEq, Nat.reduceEqDiff, Nat.reduceAdd, Nat.reduceSub, Nat.reduceMul, Nat.reduceLT, Nat.reduceLeDiff, Nat.reduceBEq, Nat.reduceBNe, Nat.reduceGT, Int.reduceEq, Int.reduceLT, Int.reduceLE, Int.reduceToNat, Int.reduceAdd, Int.reduceSub, Int.reduceMul, Int.reduceNeg, Int.reduceBEq, Int.reduceBNe, b_verify_ahead_pop]
  · cases nil
    · rw [List.concat_eq_append] at hl ⊢
      rw [List.length_append, List.length_singleton] at hl
      have e1 : (bs ++ [p]).length = bs.length + 1 := by simp
      have e2 : (((bs.length + 1 : Nat) : Int) == 0) = false := by rw [beq_eq_false_iff_ne]; omega
      have e3 : IntKind.i64.wrap (((bs.length + 1 : Nat) : Int) - 1) = (bs.length : Nat) := by rw [w64 (by omega) (by omega)]; omega
      have e4 : ((bs.length : Nat) : Int) < ((bs.length + 1 : Nat) : Int) := by omega
      have e5 := brs_at bs p
      have e6 := brs_front bs p
      have e7 : (brs (bs ++ [p])).length = bs.length * 2 + 2 := by rw [brs_len, e1]; omega
      have e8 : bs.length ≤ bs.length + 1 := by omega
      have e9 : bs.length * 2 + 2 ≤ bs.length * 2 + 2 := Nat.le_refl _
      have e10 : (bs.length == bs.length + 1) = false := by rw [beq_eq_false_iff_ne]; omega
      simp only [List.getLast?_append, List.getLast?_singleton, Option.or_some, Option.some_or, List.dropLast_concat]
      simp only [Ah.c, openA, Bool.false_eq_true, if_false, e1]
      by_cases c : p.2 = n
      · have c' : (p.2 != n) = false := by simp [c]
        have hm := made_a k p.1 n
        simp only [c, ne_eq, not_true_eq_false, if_false]
        rw [c] at e5
        generalize hX : bs.length + 1 = M at *
        simp -implicitDefEqProofs only [eqs, eqd, eqe, lh_some, ↓reduceIte, reduceCtorEq, Nat.reduceEqDiff, Nat.reduceAdd, Nat.reduceSub, Nat.reduceMul, Nat.reduceLT, Nat.reduceLeDiff, Nat.reduceBEq, Nat.reduceBNe, Nat.reduceGT, Int.reduceEq, Int.reduceLT, Int.reduceLE, Int.reduceToNat, Int.reduceAdd, Int.reduceSub, Int.reduceMul, Int.reduceNeg, Int.reduceBEq, Int.reduceBNe, b_verify_ahead_pop, e2, e3, e4, e5, e6, e7, e8, e9, e10, c, c', hm]
      · have c' : (p.2 != n) = true := by simp [c]
        simp only [c, ne_eq, not_false_eq_true, if_true]
        generalize hX : bs.length + 1 = M at *
        simp -implicitDefEqProofs only [eqs, eqd, eqe, lh_some, ↓reduceIte, reduceCtorEq, Nat.reduceEqDiff, Nat.reduceAdd, Nat.reduceSub, Nat.reduceMul, Nat.reduceLT, Nat.reduceLeDiff, Nat.reduceBEq, Nat.reduceBNe, Nat.reduceGT, Int.reduceEq, Int.reduceLT, Int.reduceLE, Int.reduceToNat, Int.reduceAdd, Int.reduceSub, Int.reduceMul, Int.reduceNeg, Int.reduceBEq, Int.reduceBNe, b_verify_ahead_pop, e2, e3, e4, e5, e6, e7, e8, e9, e10, c, c', e1]
    · have := hn rfl
      simp at this
/-- An instruction, if it may stand there. -/
def beh (a : Ah) (i : Ins) : Ah × Int :=
  if i.op = 1 then ({ a with k := i.k }, 0)
  else if i.op = 2 then ({ a with k := i.k }, must (logic i.k))
  else if i.op = 3 then (a, must (a.k == i.k))
  else if i.op = 4 then (a, must ((a.k == i.k) && logic i.k))
  else if i.op = 5 ∨ i.op = 6 then (a, must ((a.k == 1) && (i.k == 1)))
  else if i.op = 13 then (a, must (logic a.k))
  else if i.op = 25 then (a, 0)
  else if i.op = 26 ∨ i.op = 27 ∨ i.op = 34 ∨ i.op = 35 ∨ i.op = 36 then (a, must (a.k == 1))
  else if i.op = 28 ∨ i.op = 29 ∨ i.op = 30 then (a, if i.op ≠ 28 ∧ a.k ≠ 1 then 6 else if 0 < a.bs.length then 3 else 0)
  else if i.op = 31 then ({ a with k := i.k }, must (a.k != 0))
  else if i.op = 32 then push a i.at_
  else if i.op = 33 then pop a
  else ({ a with k := made i.op i.k }, must ((a.k == i.k) && may i.op i.k))
end Go.Proofs.Ythkjiclplecljaa.Ver

/- What is ahead of an instruction: package verify's behind, case by case. Written by a program for this claim. -/
namespace Go.Proofs.Ythkjiclplecljaa.Ver
open Go Go.Proofs.Ythkjiclplecljaa.Sym Go.Proofs.Ythkjiclplecljaa.Tab
set_option linter.unusedVariables false
set_option linter.unusedSimpArgs false
set_option maxHeartbeats 4000000
set_option maxRecDepth 20000
theorem beh_1 (k : Nat) (a : Ah) (i : Ins) (ha : a.In) (ho : i.op = 1) : acall T (k + 5) 49 0 [.agg a.c, .agg i.c] [] = some ⟨.tup [.agg (beh a i).1.c, .v (.int .i64 (beh a i).2)], [], 1⟩ := by
  obtain ⟨op, ik, ar, at_, nn⟩ := i
  simp only at ho
  subst ho
  obtain ⟨ak, an, bs⟩ := a
  have e : beh ⟨ak, an, bs⟩ ⟨1, ik, ar, at_, nn⟩ = (⟨ik, an, bs⟩, 0) := rfl
  rw [e, acall_go (body := b_verify_ahead_behind) rfl rfl (Nat.zero_le _)]
  have hw := with_a (k + 3) ak (.shr bs.length false (brs bs)) rfl rfl rfl (fun _ => rfl) ik
  have hw' := with_a (k + 3) ak (.v (.slice none 0 0)) rfl rfl rfl (fun _ => rfl) ik
  cases an <;> simp only [Ah.c, openA, Bool.false_eq_true, if_false, if_true] <;> simp -implicitDefEqProofs only [eqs, eqd, eqe, lh_some, ↓reduceIte, reduceCtorEq, Nat.reduceEqDiff, Nat.reduceAdd, Nat.reduceSub, Nat.reduceMul, Nat.reduceLT, Nat.reduceLeDiff, Nat.reduceBEq, Nat.reduceBNe, Nat.reduceGT, Int.reduceEq, Int.reduceLT, Int.reduceLE, Int.reduceToNat, Int.reduceAdd, Int.reduceSub, Int.reduceMul, Int.reduceNeg, Int.reduceBEq, Int.reduceBNe, b_verify_ahead_behind, gs_verify_ahead_behind, Ins.c, hw, hw']
theorem beh_2 (k : Nat) (a : Ah) (i : Ins) (ha : a.In) (ho : i.op = 2) : acall T (k + 5) 49 0 [.agg a.c, .agg i.c] [] = some ⟨.tup [.agg (beh a i).1.c, .v (.int .i64 (beh a i).2)], [], 1⟩ := by
  obtain ⟨op, ik, ar, at_, nn⟩ := i
  simp only at ho
  subst ho
  obtain ⟨ak, an, bs⟩ := a
  have e : beh ⟨ak, an, bs⟩ ⟨2, ik, ar, at_, nn⟩ = (⟨ik, an, bs⟩, must (logic ik)) := rfl
  rw [e, acall_go (body := b_verify_ahead_behind) rfl rfl (Nat.zero_le _)]
  have hw := with_a (k + 3) ak (.shr bs.length false (brs bs)) rfl rfl rfl (fun _ => rfl) ik
  have hw' := with_a (k + 3) ak (.v (.slice none 0 0)) rfl rfl rfl (fun _ => rfl) ik
  have h1 := logic_a k ik
  have h2 := must_a (k + 3) (logic ik)
  cases an <;> simp only [Ah.c, openA, Bool.false_eq_true, if_false, if_true] <;> simp -implicitDefEqProofs only [eqs, eqd, eqe, lh_some, ↓reduceIte, reduceCtorEq, Nat.reduceEqDiff, Nat.reduceAdd, Nat.reduceSub, Nat.reduceMul, Nat.reduceLT, Nat.reduceLeDiff, Nat.reduceBEq, Nat.reduceBNe, Nat.reduceGT, Int.reduceEq, Int.reduceLT, Int.reduceLE, Int.reduceToNat, Int.reduceAdd, Int.reduceSub, Int.reduceMul, Int.reduceNeg, Int.reduceBEq, Int.reduceBNe, b_verify_ahead_behind, gs_verify_ahead_behind, Ins.c, hw, hw', h1, h2]
theorem beh_3 (k : Nat) (a : Ah) (i : Ins) (ha : a.In) (ho : i.op = 3) : acall T (k + 5) 49 0 [.agg a.c, .agg i.c] [] = some ⟨.tup [.agg (beh a i).1.c, .v (.int .i64 (beh a i).2)], [], 1⟩ := by
  obtain ⟨op, ik, ar, at_, nn⟩ := i
  simp only at ho
  subst ho
  obtain ⟨ak, an, bs⟩ := a
  have e : beh ⟨ak, an, bs⟩ ⟨3, ik, ar, at_, nn⟩ = ((⟨ak, an, bs⟩ : Ah), must (ak == ik)) := rfl
  rw [e, acall_go (body := b_verify_ahead_behind) rfl rfl (Nat.zero_le _)]
  have h2 := must_a (k + 3) (ak == ik)
  cases an <;> simp only [Ah.c, openA, Bool.false_eq_true, if_false, if_true] <;> simp -implicitDefEqProofs only [eqs, eqd, eqe, lh_some, ↓reduceIte, reduceCtorEq, Nat.reduceEqDiff, Nat.reduceAdd, Nat.reduceSub, Nat.reduceMul, Nat.reduceLT, Nat.reduceLeDiff, Nat.reduceBEq, Nat.reduceBNe, Nat.reduceGT, Int.reduceEq, Int.reduceLT, Int.reduceLE, Int.reduceToNat, Int.reduceAdd, Int.reduceSub, Int.reduceMul, Int.reduceNeg, Int.reduceBEq, Int.reduceBNe, b_verify_ahead_behind, gs_verify_ahead_behind, Ins.c, h2]
theorem beh_4 (k : Nat) (a : Ah) (i : Ins) (ha : a.In) (ho : i.op = 4) : acall T (k + 5) 49 0 [.agg a.c, .agg i.c] [] = some ⟨.tup [.agg (beh a i).1.c, .v (.int .i64 (beh a i).2)], [], 1⟩ := by
  obtain ⟨op, ik, ar, at_, nn⟩ := i
  simp only at ho
  subst ho
  obtain ⟨ak, an, bs⟩ := a
  have e : beh ⟨ak, an, bs⟩ ⟨4, ik, ar, at_, nn⟩ = ((⟨ak, an, bs⟩ : Ah), must ((ak == ik) && logic ik)) := rfl
  rw [e, acall_go (body := b_verify_ahead_behind) rfl rfl (Nat.zero_le _)]
  have h1 := logic_a k ik
  have h2 := must_a (k + 3) (logic ik)
  have h3 := must_a (k + 3) false
  cases c : (ak == ik)
  · cases an <;> simp only [Ah.c, openA, Bool.false_eq_true, if_false, if_true] <;> simp -implicitDefEqProofs only [eqs, eqd, eqe, lh_some, ↓reduceIte, reduceCtorEq, Nat.reduceEqDiff, Nat.reduceAdd, Nat.reduceSub, Nat.reduceMul, Nat.reduceLT, Nat.reduceLeDiff, Nat.reduceBEq, Nat.reduceBNe, Nat.reduceGT, Int.reduceEq, Int.reduceLT, Int.reduceLE, Int.reduceToNat, Int.reduceAdd, Int.reduceSub, Int.reduceMul, Int.reduceNeg, Int.reduceBEq, Int.reduceBNe, b_verify_ahead_behind, gs_verify_ahead_behind, Ins.c, h3, c]
  cases an <;> simp only [Ah.c, openA, Bool.false_eq_true, if_false, if_true] <;> simp -implicitDefEqProofs only [eqs, eqd, eqe, lh_some, ↓reduceIte, reduceCtorEq, Nat.reduceEqDiff, Nat.reduceAdd, Nat.reduceSub, Nat.reduceMul, Nat.reduceLT, Nat.reduceLeDiff, Nat.reduceBEq, Nat.reduceBNe, Nat.reduceGT, Int.reduceEq, Int.reduceLT, Int.reduceLE, Int.reduceToNat, Int.reduceAdd, Int.reduceSub, Int.reduceMul, Int.reduceNeg, Int.reduceBEq, Int.reduceBNe, b_verify_ahead_behind, gs_verify_ahead_behind, Ins.c, h1, h2, c]
theorem beh_5 (k : Nat) (a : Ah) (i : Ins) (ha : a.In) (ho : i.op = 5) : acall T (k + 5) 49 0 [.agg a.c, .agg i.c] [] = some ⟨.tup [.agg (beh a i).1.c, .v (.int .i64 (beh a i).2)], [], 1⟩ := by
  obtain ⟨op, ik, ar, at_, nn⟩ := i
  simp only at ho
  subst ho
  obtain ⟨ak, an, bs⟩ := a
  have e : beh ⟨ak, an, bs⟩ ⟨5, ik, ar, at_, nn⟩ = ((⟨ak, an, bs⟩ : Ah), must ((ak == 1) && (ik == 1))) := rfl
  rw [e, acall_go (body := b_verify_ahead_behind) rfl rfl (Nat.zero_le _)]
  have h2 := must_a (k + 3) (ik == 1)
  have h3 := must_a (k + 3) false
  cases c : (ak == 1)
  · cases an <;> simp only [Ah.c, openA, Bool.false_eq_true, if_false, if_true] <;> simp -implicitDefEqProofs only [eqs, eqd, eqe, lh_some, ↓reduceIte, reduceCtorEq, Nat.reduceEqDiff, Nat.reduceAdd, Nat.reduceSub, Nat.reduceMul, Nat.reduceLT, Nat.reduceLeDiff, Nat.reduceBEq, Nat.reduceBNe, Nat.reduceGT, Int.reduceEq, Int.reduceLT, Int.reduceLE, Int.reduceToNat, Int.reduceAdd, Int.reduceSub, Int.reduceMul, Int.reduceNeg, Int.reduceBEq, Int.reduceBNe, b_verify_ahead_behind, gs_verify_ahead_behind, Ins.c, h3, c]
  cases an <;> simp only [Ah.c, openA, Bool.false_eq_true, if_false, if_true] <;> simp -implicitDefEqProofs only [eqs, eqd, eqe, lh_some, ↓reduceIte, reduceCtorEq, Nat.reduceEqDiff, Nat.reduceAdd, Nat.reduceSub, Nat.reduceMul, Nat.reduceLT, Nat.reduceLeDiff, Nat.reduceBEq, Nat.reduceBNe, Nat.reduceGT, Int.reduceEq, Int.reduceLT, Int.reduceLE, Int.reduceToNat, Int.reduceAdd, Int.reduceSub, Int.reduceMul, Int.reduceNeg, Int.reduceBEq, Int.reduceBNe, b_verify_ahead_behind, gs_verify_ahead_behind, Ins.c, h2, c]
theorem beh_6 (k : Nat) (a : Ah) (i : Ins) (ha : a.In) (ho : i.op = 6) : acall T (k + 5) 49 0 [.agg a.c, .agg i.c] [] = some ⟨.tup [.agg (beh a i).1.c, .v (.int .i64 (beh a i).2)], [], 1⟩ := by
  obtain ⟨op, ik, ar, at_, nn⟩ := i
  simp only at ho
  subst ho
  obtain ⟨ak, an, bs⟩ := a
  have e : beh ⟨ak, an, bs⟩ ⟨6, ik, ar, at_, nn⟩ = ((⟨ak, an, bs⟩ : Ah), must ((ak == 1) && (ik == 1))) := rfl
  rw [e, acall_go (body := b_verify_ahead_behind) rfl rfl (Nat.zero_le _)]
  have h2 := must_a (k + 3) (ik == 1)
  have h3 := must_a (k + 3) false
  cases c : (ak == 1)
  · cases an <;> simp only [Ah.c, openA, Bool.false_eq_true, if_false, if_true] <;> simp -implicitDefEqProofs only [eqs, eqd, eqe, lh_some, ↓reduceIte, reduceCtorEq, Nat.reduceEqDiff, Nat.reduceAdd, Nat.reduceSub, Nat.reduceMul, Nat.reduceLT, Nat.reduceLeDiff, Nat.reduceBEq, Nat.reduceBNe, Nat.reduceGT, Int.reduceEq, Int.reduceLT, Int.reduceLE, Int.reduceToNat, Int.reduceAdd, Int.reduceSub, Int.reduceMul, Int.reduceNeg, Int.reduceBEq, Int.reduceBNe, b_verify_ahead_behind, gs_verify_ahead_behind, Ins.c, h3, c]
  cases an <;> simp only [Ah.c, openA, Bool.false_eq_true, if_false, if_true] <;> simp -implicitDefEqProofs only [eqs, eqd, eqe, lh_some, ↓reduceIte, reduceCtorEq, Nat.reduceEqDiff, Nat.reduceAdd, Nat.reduceSub, Nat.reduceMul, Nat.reduceLT, Nat.reduceLeDiff, Nat.reduceBEq, Nat.reduceBNe, Nat.reduceGT, Int.reduceEq, Int.reduceLT, Int.reduceLE, Int.reduceToNat, Int.reduceAdd, Int.reduceSub, Int.reduceMul, Int.reduceNeg, Int.reduceBEq, Int.reduceBNe, b_verify_ahead_behind, gs_verify_ahead_behind, Ins.c, h2, c]
theorem beh_13 (k : Nat) (a : Ah) (i : Ins) (ha : a.In) (ho : i.op = 13) : acall T (k + 5) 49 0 [.agg a.c, .agg i.c] [] = some ⟨.tup [.agg (beh a i).1.c, .v (.int .i64 (beh a i).2)], [], 1⟩ := by
  obtain ⟨op, ik, ar, at_, nn⟩ := i
  simp only at ho
  subst ho
  obtain ⟨ak, an, bs⟩ := a
  have e : beh ⟨ak, an, bs⟩ ⟨13, ik, ar, at_, nn⟩ = ((⟨ak, an, bs⟩ : Ah), must (logic ak)) := rfl
  rw [e, acall_go (body := b_verify_ahead_behind) rfl rfl (Nat.zero_le _)]
  have h1 := logic_a k ak
  have h2 := must_a (k + 3) (logic ak)
  cases an <;> simp only [Ah.c, openA, Bool.false_eq_true, if_false, if_true] <;> simp -implicitDefEqProofs only [eqs, eqd, eqe, lh_some, ↓reduceIte, reduceCtorEq, Nat.reduceEqDiff, Nat.reduceAdd, Nat.reduceSub, Nat.reduceMul, Nat.reduceLT, Nat.reduceLeDiff, Nat.reduceBEq, Nat.reduceBNe, Nat.reduceGT, Int.reduceEq, Int.reduceLT, Int.reduceLE, Int.reduceToNat, Int.reduceAdd, Int.reduceSub, Int.reduceMul, Int.reduceNeg, Int.reduceBEq, Int.reduceBNe, b_verify_ahead_behind, gs_verify_ahead_behind, Ins.c, h1, h2]
theorem beh_25 (k : Nat) (a : Ah) (i : Ins) (ha : a.In) (ho : i.op = 25) : acall T (k + 5) 49 0 [.agg a.c, .agg i.c] [] = some ⟨.tup [.agg (beh a i).1.c, .v (.int .i64 (beh a i).2)], [], 1⟩ := by
  obtain ⟨op, ik, ar, at_, nn⟩ := i
  simp only at ho
  subst ho
  obtain ⟨ak, an, bs⟩ := a
  have e : beh ⟨ak, an, bs⟩ ⟨25, ik, ar, at_, nn⟩ = ((⟨ak, an, bs⟩ : Ah), 0) := rfl
  rw [e, acall_go (body := b_verify_ahead_behind) rfl rfl (Nat.zero_le _)]
  cases an <;> simp only [Ah.c, openA, Bool.false_eq_true, if_false, if_true] <;> simp -implicitDefEqProofs only [eqs, eqd, eqe, lh_some, ↓reduceIte, reduceCtorEq, Nat.reduceEqDiff, Nat.reduceAdd, Nat.reduceSub, Nat.reduceMul, Nat.reduceLT, Nat.reduceLeDiff, Nat.reduceBEq, Nat.reduceBNe, Nat.reduceGT, Int.reduceEq, Int.reduceLT, Int.reduceLE, Int.reduceToNat, Int.reduceAdd, Int.reduceSub, Int.reduceMul, Int.reduceNeg, Int.reduceBEq, Int.reduceBNe, b_verify_ahead_behind, gs_verify_ahead_behind, Ins.c]
theorem beh_26 (k : Nat) (a : Ah) (i : Ins) (ha : a.In) (ho : i.op = 26) : acall T (k + 5) 49 0 [.agg a.c, .agg i.c] [] = some ⟨.tup [.agg (beh a i).1.c, .v (.int .i64 (beh a i).2)], [], 1⟩ := by
  obtain ⟨op, ik, ar, at_, nn⟩ := i
  simp only at ho
  subst ho
  obtain ⟨ak, an, bs⟩ := a
  have e : beh ⟨ak, an, bs⟩ ⟨26, ik, ar, at_, nn⟩ = ((⟨ak, an, bs⟩ : Ah), must (ak == 1)) := rfl
  rw [e, acall_go (body := b_verify_ahead_behind) rfl rfl (Nat.zero_le _)]
  have h2 := must_a (k + 3) (ak == 1)
  cases an <;> simp only [Ah.c, openA, Bool.false_eq_true, if_false, if_true] <;> simp -implicitDefEqProofs only [eqs, eqd, eqe, lh_some, ↓reduceIte, reduceCtorEq, Nat.reduceEqDiff, Nat.reduceAdd, Nat.reduceSub, Nat.reduceMul, Nat.reduceLT, Nat.reduceLeDiff, Nat.reduceBEq, Nat.reduceBNe, Nat.reduceGT, Int.reduceEq, Int.reduceLT, Int.reduceLE, Int.reduceToNat, Int.reduceAdd, Int.reduceSub, Int.reduceMul, Int.reduceNeg, Int.reduceBEq, Int.reduceBNe, b_verify_ahead_behind, gs_verify_ahead_behind, Ins.c, h2]
theorem beh_27 (k : Nat) (a : Ah) (i : Ins) (ha : a.In) (ho : i.op = 27) : acall T (k + 5) 49 0 [.agg a.c, .agg i.c] [] = some ⟨.tup [.agg (beh a i).1.c, .v (.int .i64 (beh a i).2)], [], 1⟩ := by
  obtain ⟨op, ik, ar, at_, nn⟩ := i
  simp only at ho
  subst ho
  obtain ⟨ak, an, bs⟩ := a
  have e : beh ⟨ak, an, bs⟩ ⟨27, ik, ar, at_, nn⟩ = ((⟨ak, an, bs⟩ : Ah), must (ak == 1)) := rfl
  rw [e, acall_go (body := b_verify_ahead_behind) rfl rfl (Nat.zero_le _)]
  have h2 := must_a (k + 3) (ak == 1)
  cases an <;> simp only [Ah.c, openA, Bool.false_eq_true, if_false, if_true] <;> simp -implicitDefEqProofs only [eqs, eqd, eqe, lh_some, ↓reduceIte, reduceCtorEq, Nat.reduceEqDiff, Nat.reduceAdd, Nat.reduceSub, Nat.reduceMul, Nat.reduceLT, Nat.reduceLeDiff, Nat.reduceBEq, Nat.reduceBNe, Nat.reduceGT, Int.reduceEq, Int.reduceLT, Int.reduceLE, Int.reduceToNat, Int.reduceAdd, Int.reduceSub, Int.reduceMul, Int.reduceNeg, Int.reduceBEq, Int.reduceBNe, b_verify_ahead_behind, gs_verify_ahead_behind, Ins.c, h2]
theorem beh_34 (k : Nat) (a : Ah) (i : Ins) (ha : a.In) (ho : i.op = 34) : acall T (k + 5) 49 0 [.agg a.c, .agg i.c] [] = some ⟨.tup [.agg (beh a i).1.c, .v (.int .i64 (beh a i).2)], [], 1⟩ := by
  obtain ⟨op, ik, ar, at_, nn⟩ := i
  simp only at ho
  subst ho
  obtain ⟨ak, an, bs⟩ := a
  have e : beh ⟨ak, an, bs⟩ ⟨34, ik, ar, at_, nn⟩ = ((⟨ak, an, bs⟩ : Ah), must (ak == 1)) := rfl
  rw [e, acall_go (body := b_verify_ahead_behind) rfl rfl (Nat.zero_le _)]
  have h2 := must_a (k + 3) (ak == 1)
  cases an <;> simp only [Ah.c, openA, Bool.false_eq_true, if_false, if_true] <;> simp -implicitDefEqProofs only [eqs, eqd, eqe, lh_some, ↓reduceIte, reduceCtorEq, Nat.reduceEqDiff, Nat.reduceAdd, Nat.reduceSub, Nat.reduceMul, Nat.reduceLT, Nat.reduceLeDiff, Nat.reduceBEq, Nat.reduceBNe, Nat.reduceGT, Int.reduceEq, Int.reduceLT, Int.reduceLE, Int.reduceToNat, Int.reduceAdd, Int.reduceSub, Int.reduceMul, Int.reduceNeg, Int.reduceBEq, Int.reduceBNe, b_verify_ahead_behind, gs_verify_ahead_behind, Ins.c, h2]
theorem beh_35 (k : Nat) (a : Ah) (i : Ins) (ha : a.In) (ho : i.op = 35) : acall T (k + 5) 49 0 [.agg a.c, .agg i.c] [] = some ⟨.tup [.agg (beh a i).1.c, .v (.int .i64 (beh a i).2)], [], 1⟩ := by
  obtain ⟨op, ik, ar, at_, nn⟩ := i
  simp only at ho
  subst ho
  obtain ⟨ak, an, bs⟩ := a
  have e : beh ⟨ak, an, bs⟩ ⟨35, ik, ar, at_, nn⟩ = ((⟨ak, an, bs⟩ : Ah), must (ak == 1)) := rfl
  rw [e, acall_go (body := b_verify_ahead_behind) rfl rfl (Nat.zero_le _)]
  have h2 := must_a (k + 3) (ak == 1)
  cases an <;> simp only [Ah.c, openA, Bool.false_eq_true, if_false, if_true] <;> simp -implicitDefEqProofs only [eqs, eqd, eqe, lh_some, ↓reduceIte, reduceCtorEq, Nat.reduceEqDiff, Nat.reduceAdd, Nat.reduceSub, Nat.reduceMul, Nat.reduceLT, Nat.reduceLeDiff, Nat.reduceBEq, Nat.reduceBNe, Nat.reduceGT, Int.reduceEq, Int.reduceLT, Int.reduceLE, Int.reduceToNat, Int.reduceAdd, Int.reduceSub, Int.reduceMul, Int.reduceNeg, Int.reduceBEq, Int.reduceBNe, b_verify_ahead_behind, gs_verify_ahead_behind, Ins.c, h2]
theorem beh_36 (k : Nat) (a : Ah) (i : Ins) (ha : a.In) (ho : i.op = 36) : acall T (k + 5) 49 0 [.agg a.c, .agg i.c] [] = some ⟨.tup [.agg (beh a i).1.c, .v (.int .i64 (beh a i).2)], [], 1⟩ := by
  obtain ⟨op, ik, ar, at_, nn⟩ := i
  simp only at ho
  subst ho
  obtain ⟨ak, an, bs⟩ := a
  have e : beh ⟨ak, an, bs⟩ ⟨36, ik, ar, at_, nn⟩ = ((⟨ak, an, bs⟩ : Ah), must (ak == 1)) := rfl
  rw [e, acall_go (body := b_verify_ahead_behind) rfl rfl (Nat.zero_le _)]
  have h2 := must_a (k + 3) (ak == 1)
  cases an <;> simp only [Ah.c, openA, Bool.false_eq_true, if_false, if_true] <;> simp -implicitDefEqProofs only [eqs, eqd, eqe, lh_some, ↓reduceIte, reduceCtorEq, Nat.reduceEqDiff, Nat.reduceAdd, Nat.reduceSub, Nat.reduceMul, Nat.reduceLT, Nat.reduceLeDiff, Nat.reduceBEq, Nat.reduceBNe, Nat.reduceGT, Int.reduceEq, Int.reduceLT, Int.reduceLE, Int.reduceToNat, Int.reduceAdd, Int.reduceSub, Int.reduceMul, Int.reduceNeg, Int.reduceBEq, Int.reduceBNe, b_verify_ahead_behind, gs_verify_ahead_behind, Ins.c, h2]
theorem beh_28 (k : Nat) (a : Ah) (i : Ins) (ha : a.In) (ho : i.op = 28) : acall T (k + 5) 49 0 [.agg a.c, .agg i.c] [] = some ⟨.tup [.agg (beh a i).1.c, .v (.int .i64 (beh a i).2)], [], 1⟩ := by
  obtain ⟨op, ik, ar, at_, nn⟩ := i
  simp only at ho
  subst ho
  obtain ⟨ak, an, bs⟩ := a
  have e : beh ⟨ak, an, bs⟩ ⟨28, ik, ar, at_, nn⟩ = ((⟨ak, an, bs⟩ : Ah), if (28 : Int) ≠ 28 ∧ ak ≠ 1 then 6 else if 0 < bs.length then 3 else 0) := rfl
  rw [e, acall_go (body := b_verify_ahead_behind) rfl rfl (Nat.zero_le _)]
  have h2 := ret_a (k + 3) _ ha 28
  generalize (if (28 : Int) ≠ 28 ∧ ak ≠ 1 then (6 : Int) else if 0 < bs.length then 3 else 0) = r at *
  cases an <;> simp only [Ah.c, openA, Bool.false_eq_true, if_false, if_true] at h2 ⊢ <;> simp -implicitDefEqProofs only [eqs, eqd, eqe, lh_some, ↓reduceIte, reduceCtorEq, Nat.reduceEqDiff, Nat.reduceAdd, Nat.reduceSub, Nat.reduceMul, Nat.reduceLT, Nat.reduceLeDiff, Nat.reduceBEq, Nat.reduceBNe, Nat.reduceGT, Int.reduceEq, Int.reduceLT, Int.reduceLE, Int.reduceToNat, Int.reduceAdd, Int.reduceSub, Int.reduceMul, Int.reduceNeg, Int.reduceBEq, Int.reduceBNe, b_verify_ahead_behind, gs_verify_ahead_behind, Ins.c, h2]
theorem beh_29 (k : Nat) (a : Ah) (i : Ins) (ha : a.In) (ho : i.op = 29) : acall T (k + 5) 49 0 [.agg a.c, .agg i.c] [] = some ⟨.tup [.agg (beh a i).1.c, .v (.int .i64 (beh a i).2)], [], 1⟩ := by
  obtain ⟨op, ik, ar, at_, nn⟩ := i
  simp only at ho
  subst ho
  obtain ⟨ak, an, bs⟩ := a
  have e : beh ⟨ak, an, bs⟩ ⟨29, ik, ar, at_, nn⟩ = ((⟨ak, an, bs⟩ : Ah), if (29 : Int) ≠ 28 ∧ ak ≠ 1 then 6 else if 0 < bs.length then 3 else 0) := rfl
  rw [e, acall_go (body := b_verify_ahead_behind) rfl rfl (Nat.zero_le _)]
  have h2 := ret_a (k + 3) _ ha 29
  generalize (if (29 : Int) ≠ 28 ∧ ak ≠ 1 then (6 : Int) else if 0 < bs.length then 3 else 0) = r at *
  cases an <;> simp only [Ah.c, openA, Bool.false_eq_true, if_false, if_true] at h2 ⊢ <;> simp -implicitDefEqProofs only [eqs, eqd, eqe, lh_some, ↓reduceIte, reduceCtorEq, Nat.reduceEqDiff, Nat.reduceAdd, Nat.reduceSub, Nat.reduceMul, Nat.reduceLT, Nat.reduceLeDiff, Nat.reduceBEq, Nat.reduceBNe, Nat.reduceGT, Int.reduceEq, Int.reduceLT, Int.reduceLE, Int.reduceToNat, Int.reduceAdd, Int.reduceSub, Int.reduceMul, Int.reduceNeg, Int.reduceBEq, Int.reduceBNe, b_verify_ahead_behind, gs_verify_ahead_behind, Ins.c, h2]
theorem beh_30 (k : Nat) (a : Ah) (i : Ins) (ha : a.In) (ho : i.op = 30) : acall T (k + 5) 49 0 [.agg a.c, .agg i.c] [] = some ⟨.tup [.agg (beh a i).1.c, .v (.int .i64 (beh a i).2)], [], 1⟩ := by
  obtain ⟨op, ik, ar, at_, nn⟩ := i
  simp only at ho
  subst ho
  obtain ⟨ak, an, bs⟩ := a
  have e : beh ⟨ak, an, bs⟩ ⟨30, ik, ar, at_, nn⟩ = ((⟨ak, an, bs⟩ : Ah), if (30 : Int) ≠ 28 ∧ ak ≠ 1 then 6 else if 0 < bs.length then 3 else 0) := rfl
  rw [e, acall_go (body := b_verify_ahead_behind) rfl rfl (Nat.zero_le _)]
  have h2 := ret_a (k + 3) _ ha 30
  generalize (if (30 : Int) ≠ 28 ∧ ak ≠ 1 then (6 : Int) else if 0 < bs.length then 3 else 0) = r at *
  cases an <;> simp only [Ah.c, openA, Bool.false_eq_true, if_false, if_true] at h2 ⊢ <;> simp -implicitDefEqProofs only [eqs, eqd, eqe, lh_some, ↓reduceIte, reduceCtorEq, Nat.reduceEqDiff, Nat.reduceAdd, Nat.reduceSub, Nat.reduceMul, Nat.reduceLT, Nat.reduceLeDiff, Nat.reduceBEq, Nat.reduceBNe, Nat.reduceGT, Int.reduceEq, Int.reduceLT, Int.reduceLE, Int.reduceToNat, Int.reduceAdd, Int.reduceSub, Int.reduceMul, Int.reduceNeg, Int.reduceBEq, Int.reduceBNe, b_verify_ahead_behind, gs_verify_ahead_behind, Ins.c, h2]
theorem beh_31 (k : Nat) (a : Ah) (i : Ins) (ha : a.In) (ho : i.op = 31) : acall T (k + 5) 49 0 [.agg a.c, .agg i.c] [] = some ⟨.tup [.agg (beh a i).1.c, .v (.int .i64 (beh a i).2)], [], 1⟩ := by
  obtain ⟨op, ik, ar, at_, nn⟩ := i
  simp only at ho
  subst ho
  obtain ⟨ak, an, bs⟩ := a
  have e : beh ⟨ak, an, bs⟩ ⟨31, ik, ar, at_, nn⟩ = (⟨ik, an, bs⟩, must (ak != 0)) := rfl
  rw [e, acall_go (body := b_verify_ahead_behind) rfl rfl (Nat.zero_le _)]
  have hw := with_a (k + 3) ak (.shr bs.length false (brs bs)) rfl rfl rfl (fun _ => rfl) ik
  have hw' := with_a (k + 3) ak (.v (.slice none 0 0)) rfl rfl rfl (fun _ => rfl) ik
  have h2 := must_a (k + 3) (ak != 0)
  cases an <;> simp only [Ah.c, openA, Bool.false_eq_true, if_false, if_true] <;> simp -implicitDefEqProofs only [eqs, eqd, eqe, lh_some, ↓reduceIte, reduceCtorEq, Nat.reduceEqDiff, Nat.reduceAdd, Nat.reduceSub, Nat.reduceMul, Nat.reduceLT, Nat.reduceLeDiff, Nat.reduceBEq, Nat.reduceBNe, Nat.reduceGT, Int.reduceEq, Int.reduceLT, Int.reduceLE, Int.reduceToNat, Int.reduceAdd, Int.reduceSub, Int.reduceMul, Int.reduceNeg, Int.reduceBEq, Int.reduceBNe, b_verify_ahead_behind, gs_verify_ahead_behind, Ins.c, hw, hw', h2]
theorem beh_32 (k : Nat) (a : Ah) (i : Ins) (ha : a.In) (ho : i.op = 32) : acall T (k + 5) 49 0 [.agg a.c, .agg i.c] [] = some ⟨.tup [.agg (beh a i).1.c, .v (.int .i64 (beh a i).2)], [], 1⟩ := by
  obtain ⟨op, ik, ar, at_, nn⟩ := i
  simp only at ho
  subst ho
  obtain ⟨ak, an, bs⟩ := a
  have e : beh ⟨ak, an, bs⟩ ⟨32, ik, ar, at_, nn⟩ = push (⟨ak, an, bs⟩ : Ah) at_ := rfl
  rw [e, acall_go (body := b_verify_ahead_behind) rfl rfl (Nat.zero_le _)]
  have h2 := push_a k _ ha at_
  generalize push (⟨ak, an, bs⟩ : Ah) at_ = r at *
  obtain ⟨⟨rk, rn, rb⟩, re⟩ := r
  cases rn <;>
  cases an <;> simp only [Ah.c, openA, Bool.false_eq_true, if_false, if_true] at h2 ⊢ <;> simp -implicitDefEqProofs only [eqs, eqd, eqe, lh_some, ↓reduceIte, reduceCtorEq, Nat.reduceEqDiff, Nat.reduceAdd, Nat.reduceSub, Nat.reduceMul, Nat.reduceLT, Nat.reduceLeDiff, Nat.reduceBEq, Nat.reduceBNe, Nat.reduceGT, Int.reduceEq, Int.reduceLT, Int.reduceLE, Int.reduceToNat, Int.reduceAdd, Int.reduceSub, Int.reduceMul, Int.reduceNeg, Int.reduceBEq, Int.reduceBNe, b_verify_ahead_behind, gs_verify_ahead_behind, Ins.c, h2]
theorem beh_33 (k : Nat) (a : Ah) (i : Ins) (ha : a.In) (ho : i.op = 33) : acall T (k + 5) 49 0 [.agg a.c, .agg i.c] [] = some ⟨.tup [.agg (beh a i).1.c, .v (.int .i64 (beh a i).2)], [], 1⟩ := by
  obtain ⟨op, ik, ar, at_, nn⟩ := i
  simp only at ho
  subst ho
  obtain ⟨ak, an, bs⟩ := a
  have e : beh ⟨ak, an, bs⟩ ⟨33, ik, ar, at_, nn⟩ = pop (⟨ak, an, bs⟩ : Ah) := rfl
  rw [e, acall_go (body := b_verify_ahead_behind) rfl rfl (Nat.zero_le _)]
  have h2 := pop_a (k + 2) _ ha
  generalize pop (⟨ak, an, bs⟩ : Ah) = r at *
  obtain ⟨⟨rk, rn, rb⟩, re⟩ := r
  cases rn <;>
  cases an <;> simp only [Ah.c, openA, Bool.false_eq_true, if_false, if_true] at h2 ⊢ <;> simp -implicitDefEqProofs only [eqs, eqd, eqe, lh_some, ↓reduceIte, reduceCtorEq, Nat.reduceEqDiff, Nat.reduceAdd, Nat.reduceSub, Nat.reduceMul, Nat.reduceLT, Nat.reduceLeDiff, Nat.reduceBEq, Nat.reduceBNe, Nat.reduceGT, Int.reduceEq, Int.reduceLT, Int.reduceLE, Int.reduceToNat, Int.reduceAdd, Int.reduceSub, Int.reduceMul, Int.reduceNeg, Int.reduceBEq, Int.reduceBNe, b_verify_ahead_behind, gs_verify_ahead_behind, Ins.c, h2]
theorem beh_0 (k : Nat) (a : Ah) (i : Ins) (ha : a.In) (ho : (7 ≤ i.op ∧ i.op ≤ 12) ∨ (14 ≤ i.op ∧ i.op ≤ 24)) : acall T (k + 5) 49 0 [.agg a.c, .agg i.c] [] = some ⟨.tup [.agg (beh a i).1.c, .v (.int .i64 (beh a i).2)], [], 1⟩ := by
  have e : beh a i = ({ a with k := made i.op i.k }, must ((a.k == i.k) && may i.op i.k)) := by unfold beh; repeat (rw [if_neg (by omega)])
  rw [e, acall_go (body := b_verify_ahead_behind) rfl rfl (Nat.zero_le _)]
  obtain ⟨op, ik, ar, at_, nn⟩ := i
  obtain ⟨ak, an, bs⟩ := a
  simp only at ho ⊢
  have n1 : (op == 1) = false := by rw [beq_eq_false_iff_ne]; omega
  have n2 : (op == 2) = false := by rw [beq_eq_false_iff_ne]; omega
  have n3 : (op == 3) = false := by rw [beq_eq_false_iff_ne]; omega
  have n4 : (op == 4) = false := by rw [beq_eq_false_iff_ne]; omega
  have n5 : (op == 5) = false := by rw [beq_eq_false_iff_ne]; omega
  have n6 : (op == 6) = false := by rw [beq_eq_false_iff_ne]; omega
  have n13 : (op == 13) = false := by rw [beq_eq_false_iff_ne]; omega
  have n25 : (op == 25) = false := by rw [beq_eq_false_iff_ne]; omega
  have n26 : (op == 26) = false := by rw [beq_eq_false_iff_ne]; omega
  have n27 : (op == 27) = false := by rw [beq_eq_false_iff_ne]; omega
  have n28 : (op == 28) = false := by rw [beq_eq_false_iff_ne]; omega
  have n29 : (op == 29) = false := by rw [beq_eq_false_iff_ne]; omega
  have n30 : (op == 30) = false := by rw [beq_eq_false_iff_ne]; omega
  have n31 : (op == 31) = false := by rw [beq_eq_false_iff_ne]; omega
  have n32 : (op == 32) = false := by rw [beq_eq_false_iff_ne]; omega
  have n33 : (op == 33) = false := by rw [beq_eq_false_iff_ne]; omega
  have n34 : (op == 34) = false := by rw [beq_eq_false_iff_ne]; omega
  have n35 : (op == 35) = false := by rw [beq_eq_false_iff_ne]; omega
  have n36 : (op == 36) = false := by rw [beq_eq_false_iff_ne]; omega
  have hw := with_a (k + 3) ak (.shr bs.length false (brs bs)) rfl rfl rfl (fun _ => rfl) (made op ik)
  have hw' := with_a (k + 3) ak (.v (.slice none 0 0)) rfl rfl rfl (fun _ => rfl) (made op ik)
  have h1 := made_a (k + 3) op ik
  have h2 := may_a (k + 1) op ik
  have h3 := must_a (k + 3) (may op ik)
  have h4 := must_a (k + 3) false
  cases c : (ak == ik)
  · cases an <;> simp only [Ah.c, openA, Bool.false_eq_true, if_false, if_true] <;> simp -implicitDefEqProofs only [eqs, eqd, eqe, lh_some, ↓reduceIte, reduceCtorEq, Nat.reduceEqDiff, Nat.reduceAdd, Nat.reduceSub, Nat.reduceMul, Nat.reduceLT, Nat.reduceLeDiff, Nat.reduceBEq, Nat.reduceBNe, Nat.reduceGT, Int.reduceEq, Int.reduceLT, Int.reduceLE, Int.reduceToNat, Int.reduceAdd, Int.reduceSub, Int.reduceMul, Int.reduceNeg, Int.reduceBEq, Int.reduceBNe, b_verify_ahead_behind, gs_verify_ahead_behind, Ins.c, hw, hw', h1, h4, c, n1, n2, n3, n4, n5, n6, n13, n25, n26, n27, n28, n29, n30, n31, n32, n33, n34, n35, n36]
  cases an <;> simp only [Ah.c, openA, Bool.false_eq_true, if_false, if_true] <;> simp -implicitDefEqProofs only [eqs, eqd, eqe, lh_some, ↓reduceIte, reduceCtorEq, Nat.reduceEqDiff, Nat.reduceAdd, Nat.reduceSub, Nat.reduceMul, Nat.reduceLT, Nat.reduceLeDiff, Nat.reduceBEq, Nat.reduceBNe, Nat.reduceGT, Int.reduceEq, Int.reduceLT, Int.reduceLE, Int.reduceToNat, Int.reduceAdd, Int.reduceSub, Int.reduceMul, Int.reduceNeg, Int.reduceBEq, Int.reduceBNe, b_verify_ahead_behind, gs_verify_ahead_behind, Ins.c, hw, hw', h1, h2, h3, c, n1, n2, n3, n4, n5, n6, n13, n25, n26, n27, n28, n29, n30, n31, n32, n33, n34, n35, n36]
theorem beh_a (k : Nat) (a : Ah) (i : Ins) (ha : a.In) (ho : 1 ≤ i.op ∧ i.op ≤ 36) : acall T (k + 5) 49 0 [.agg a.c, .agg i.c] [] = some ⟨.tup [.agg (beh a i).1.c, .v (.int .i64 (beh a i).2)], [], 1⟩ := by
  have h : ((7 ≤ i.op ∧ i.op ≤ 12) ∨ (14 ≤ i.op ∧ i.op ≤ 24)) ∨ i.op = 1 ∨ i.op = 2 ∨ i.op = 3 ∨ i.op = 4 ∨ i.op = 5 ∨ i.op = 6 ∨ i.op = 13 ∨ i.op = 25 ∨ i.op = 26 ∨ i.op = 27 ∨ i.op = 28 ∨ i.op = 29 ∨ i.op = 30 ∨ i.op = 31 ∨ i.op = 32 ∨ i.op = 33 ∨ i.op = 34 ∨ i.op = 35 ∨ i.op = 36 := by omega
  rcases h with h | h | h | h | h | h | h | h | h | h | h | h | h | h | h | h | h | h | h | h
  · exact beh_0 k a i ha h
  · exact beh_1 k a i ha h
  · exact beh_2 k a i ha h
  · exact beh_3 k a i ha h
  · exact beh_4 k a i ha h
  · exact beh_5 k a i ha h
  · exact beh_6 k a i ha h
  · exact beh_13 k a i ha h
  · exact beh_25 k a i ha h
  · exact beh_26 k a i ha h
  · exact beh_27 k a i ha h
  · exact beh_28 k a i ha h
  · exact beh_29 k a i ha h
  · exact beh_30 k a i ha h
  · exact beh_31 k a i ha h
  · exact beh_32 k a i ha h
  · exact beh_33 k a i ha h
  · exact beh_34 k a i ha h
  · exact beh_35 k a i ha h
  · exact beh_36 k a i ha h
end Go.Proofs.Ythkjiclplecljaa.Ver

/- What is ahead of an instruction: the document's behind. Written by a program for this claim. -/
namespace Go.Proofs.Ythkjiclplecljaa.Ver
open Go Go.Proofs.Ythkjiclplecljaa.Sym Go.Proofs.Ythkjiclplecljaa.Tab
set_option linter.unusedVariables false
set_option linter.unusedSimpArgs false
set_option maxHeartbeats 4000000
set_option maxRecDepth 20000
def numsB (bs : List (Int × Int)) : List Int := bs.flatMap fun p => [p.1, p.2]
/-- Brackets as a text. -/
def enc (bs : List (Int × Int)) : ByteArray := strOfNums (numsB bs)
theorem son_size (l : List Int) : (strOfNums l).size = l.length := by simp [strOfNums, ByteArray.size]
theorem son_append (a b : List Int) : strOfNums (a ++ b) = strOfNums a ++ strOfNums b := by
  apply ByteArray.ext
  rw [ByteArray.data_append]
  simp [strOfNums]
theorem numsB_len (bs : List (Int × Int)) : (numsB bs).length = bs.length * 2 := by
  induction bs with
  | nil => rfl
  | cons p bs ih => rw [show numsB (p :: bs) = p.1 :: p.2 :: numsB bs from rfl]; simp only [List.length_cons, ih]; omega
theorem enc_size (bs : List (Int × Int)) : (enc bs).size = bs.length * 2 := by rw [enc, son_size, numsB_len]
theorem enc_snoc (bs : List (Int × Int)) (a b : Int) : enc bs ++ strOfNums [a, b] = enc (bs ++ [(a, b)]) := by
  unfold enc
  rw [← son_append]
  simp [numsB]
theorem enc_front (bs : List (Int × Int)) (p : Int × Int) : (enc (bs ++ [p])).extract 0 (bs.length * 2) = enc bs := by
  obtain ⟨a, b⟩ := p
  rw [← enc_snoc, ← enc_size]
  apply ByteArray.ext
  rw [ByteArray.data_extract, ByteArray.data_append]
  show ((enc bs).data ++ _).extract 0 (enc bs).data.size = _
  simp
theorem enc_last (bs : List (Int × Int)) (p : Int × Int) : (enc (bs ++ [p])).extract (bs.length * 2) (bs.length * 2 + 2) = strOfNums [p.1, p.2] := by
  obtain ⟨a, b⟩ := p
  rw [← enc_snoc, ← enc_size]
  apply ByteArray.ext
  rw [ByteArray.data_extract, ByteArray.data_append]
  have h : ∀ (x y : Array UInt8), (x ++ y).extract x.size (x.size + y.size) = y := fun x y => by simp
  exact h _ (strOfNums [a, b]).data
theorem ix2_0 {x y : Int} (hx : 0 ≤ x ∧ x ≤ 255) : aIxStr (.v (.string (strOfNums [x, y]))) (.v (.int .i64 0)) = some (.v (.int .u8 x)) := by
  unfold aIxStr
  simp only [asI, Option.bind_some]
  rw [dif_pos ⟨Int.le_refl 0, by rw [son_size]; show (0 : Nat) < 2; decide⟩]
  obtain ⟨n, rfl⟩ : ∃ n : Nat, x = n := ⟨x.toNat, by omega⟩
  congr 3
  show (((UInt8.ofNat ((n : Int).toNat)).toNat : Nat) : Int) = n
  simp
  omega
theorem ix2_1 {x y : Int} (hy : 0 ≤ y ∧ y ≤ 255) : aIxStr (.v (.string (strOfNums [x, y]))) (.v (.int .i64 1)) = some (.v (.int .u8 y)) := by
  unfold aIxStr
  simp only [asI, Option.bind_some]
  rw [dif_pos ⟨by decide, by rw [son_size]; show (1 : Nat) < 2; decide⟩]
  obtain ⟨n, rfl⟩ : ∃ n : Nat, y = n := ⟨y.toNat, by omega⟩
  congr 3
  show (((UInt8.ofNat ((n : Int).toNat)).toNat : Nat) : Int) = n
  simp
  omega
def rc (k : Int) (bs : List (Int × Int)) : List AV := [.v (.bool true), .v (.int .i64 k), .v (.string (enc bs))]
/-- Brackets that may be. -/
def BrIn (bs : List (Int × Int)) : Prop := bs.length ≤ 8 ∧ ∀ p ∈ bs, 7 ≤ p.1 ∧ p.1 ≤ 24 ∧ 1 ≤ p.2 ∧ p.2 ≤ 7
theorem may_in {op k : Int} (h : may op k = true) : 7 ≤ op ∧ op ≤ 24 ∧ 1 ≤ k ∧ k ≤ 7 := by
  unfold may kok at h
  simp only [Bool.and_eq_true, decide_eq_true_eq] at h
  obtain ⟨⟨h1, h2⟩, h⟩ := h
  split at h
  · omega
  · split at h
    · omega
    · simp only [Bool.and_eq_true, decide_eq_true_eq] at h
      omega
/-- What the document's behind answers. -/
def RBeh (k : Nat) (a : Ah) (i : Ins) (at_ n : Int) : Prop := ∃ k' bs', acall T (k + 5) 29 0 [.agg i.c, .v (.int .i64 at_), .v (.int .i64 n), .agg (rc a.k a.bs)] [] = some ⟨.tup [.agg (rc k' bs'), .v (.int .i64 (beh a i).2)], [], 1⟩ ∧ ((beh a i).2 = 0 → k' = (beh a i).1.k ∧ bs' = (beh a i).1.bs)
theorem rbeh_1 (k : Nat) (a : Ah) (i : Ins) (at_ n : Int) (hb : BrIn a.bs) (ho : i.op = 1) : RBeh k a i at_ n := by
  obtain ⟨op, ik, ar, ia, nn⟩ := i
  simp only at ho
  subst ho
  obtain ⟨ak, an, bs⟩ := a
  have hl := hb.1
  simp only at hl
  have hdeep : ((enc bs).size : Int).tdiv 2 = bs.length := by rw [enc_size, Int.tdiv_eq_ediv_of_nonneg (by omega)]; omega
  have hdw : IntKind.i64.wrap (bs.length : Int) = bs.length := w64 (by omega) (by omega)
  have e : beh ⟨ak, an, bs⟩ ⟨1, ik, ar, ia, nn⟩ = (⟨ik, an, bs⟩, 0) := rfl
  unfold RBeh
  rw [e, acall_go (body := b_fuglemanref14_behind) rfl rfl (Nat.zero_le _)]
  exact ⟨ik, bs, by simp -implicitDefEqProofs only [eqs, eqd, eqe, lh_some, ↓reduceIte, reduceCtorEq, Nat.reduceEqDiff, Nat.reduceAdd, Nat.reduceSub, Nat.reduceMul, Nat.reduceLT, Nat.reduceLeDiff, Nat.reduceBEq, Nat.reduceBNe, Nat.reduceGT, Int.reduceEq, Int.reduceLT, Int.reduceLE, Int.reduceToNat, Int.reduceAdd, Int.reduceSub, Int.reduceMul, Int.reduceNeg, Int.reduceBEq, Int.reduceBNe, b_fuglemanref14_behind, gs_fuglemanref14_behind, Ins.c, rc, hdeep, hdw], fun _ => ⟨rfl, rfl⟩⟩
theorem rbeh_2 (k : Nat) (a : Ah) (i : Ins) (at_ n : Int) (hb : BrIn a.bs) (ho : i.op = 2) : RBeh k a i at_ n := by
  obtain ⟨op, ik, ar, ia, nn⟩ := i
  simp only at ho
  subst ho
  obtain ⟨ak, an, bs⟩ := a
  have hl := hb.1
  simp only at hl
  have hdeep : ((enc bs).size : Int).tdiv 2 = bs.length := by rw [enc_size, Int.tdiv_eq_ediv_of_nonneg (by omega)]; omega
  have hdw : IntKind.i64.wrap (bs.length : Int) = bs.length := w64 (by omega) (by omega)
  have e : beh ⟨ak, an, bs⟩ ⟨2, ik, ar, ia, nn⟩ = (⟨ik, an, bs⟩, must (logic ik)) := rfl
  unfold RBeh
  rw [e, acall_go (body := b_fuglemanref14_behind) rfl rfl (Nat.zero_le _)]
  have h1 := rlogic_a k ik
  cases c : logic ik <;> rw [c] at h1
  · exact ⟨ak, bs, by simp -implicitDefEqProofs only [eqs, eqd, eqe, lh_some, ↓reduceIte, reduceCtorEq, Nat.reduceEqDiff, Nat.reduceAdd, Nat.reduceSub, Nat.reduceMul, Nat.reduceLT, Nat.reduceLeDiff, Nat.reduceBEq, Nat.reduceBNe, Nat.reduceGT, Int.reduceEq, Int.reduceLT, Int.reduceLE, Int.reduceToNat, Int.reduceAdd, Int.reduceSub, Int.reduceMul, Int.reduceNeg, Int.reduceBEq, Int.reduceBNe, b_fuglemanref14_behind, gs_fuglemanref14_behind, Ins.c, rc, hdeep, hdw, h1, must], fun h => absurd h (by simp [must])⟩
  · exact ⟨ik, bs, by simp -implicitDefEqProofs only [eqs, eqd, eqe, lh_some, ↓reduceIte, reduceCtorEq, Nat.reduceEqDiff, Nat.reduceAdd, Nat.reduceSub, Nat.reduceMul, Nat.reduceLT, Nat.reduceLeDiff, Nat.reduceBEq, Nat.reduceBNe, Nat.reduceGT, Int.reduceEq, Int.reduceLT, Int.reduceLE, Int.reduceToNat, Int.reduceAdd, Int.reduceSub, Int.reduceMul, Int.reduceNeg, Int.reduceBEq, Int.reduceBNe, b_fuglemanref14_behind, gs_fuglemanref14_behind, Ins.c, rc, hdeep, hdw, h1, must], fun _ => ⟨rfl, rfl⟩⟩
theorem rbeh_3 (k : Nat) (a : Ah) (i : Ins) (at_ n : Int) (hb : BrIn a.bs) (ho : i.op = 3) : RBeh k a i at_ n := by
  obtain ⟨op, ik, ar, ia, nn⟩ := i
  simp only at ho
  subst ho
  obtain ⟨ak, an, bs⟩ := a
  have hl := hb.1
  simp only at hl
  have hdeep : ((enc bs).size : Int).tdiv 2 = bs.length := by rw [enc_size, Int.tdiv_eq_ediv_of_nonneg (by omega)]; omega
  have hdw : IntKind.i64.wrap (bs.length : Int) = bs.length := w64 (by omega) (by omega)
  have e : beh ⟨ak, an, bs⟩ ⟨3, ik, ar, ia, nn⟩ = ((⟨ak, an, bs⟩ : Ah), must (ak == ik)) := rfl
  unfold RBeh
  rw [e, acall_go (body := b_fuglemanref14_behind) rfl rfl (Nat.zero_le _)]
  cases c : (ak == ik)
  · have c' : (ak != ik) = true := by simpa using c
    exact ⟨ak, bs, by simp -implicitDefEqProofs only [eqs, eqd, eqe, lh_some, ↓reduceIte, reduceCtorEq, Nat.reduceEqDiff, Nat.reduceAdd, Nat.reduceSub, Nat.reduceMul, Nat.reduceLT, Nat.reduceLeDiff, Nat.reduceBEq, Nat.reduceBNe, Nat.reduceGT, Int.reduceEq, Int.reduceLT, Int.reduceLE, Int.reduceToNat, Int.reduceAdd, Int.reduceSub, Int.reduceMul, Int.reduceNeg, Int.reduceBEq, Int.reduceBNe, b_fuglemanref14_behind, gs_fuglemanref14_behind, Ins.c, rc, hdeep, hdw, c', must], fun h => absurd h (by simp [must])⟩
  · have c' : (ak != ik) = false := by simpa using c
    exact ⟨ak, bs, by simp -implicitDefEqProofs only [eqs, eqd, eqe, lh_some, ↓reduceIte, reduceCtorEq, Nat.reduceEqDiff, Nat.reduceAdd, Nat.reduceSub, Nat.reduceMul, Nat.reduceLT, Nat.reduceLeDiff, Nat.reduceBEq, Nat.reduceBNe, Nat.reduceGT, Int.reduceEq, Int.reduceLT, Int.reduceLE, Int.reduceToNat, Int.reduceAdd, Int.reduceSub, Int.reduceMul, Int.reduceNeg, Int.reduceBEq, Int.reduceBNe, b_fuglemanref14_behind, gs_fuglemanref14_behind, Ins.c, rc, hdeep, hdw, c', must], fun _ => ⟨rfl, rfl⟩⟩

theorem rbeh_4 (k : Nat) (a : Ah) (i : Ins) (at_ n : Int) (hb : BrIn a.bs) (ho : i.op = 4) : RBeh k a i at_ n := by
  obtain ⟨op, ik, ar, ia, nn⟩ := i
  simp only at ho
  subst ho
  obtain ⟨ak, an, bs⟩ := a
  have hl := hb.1
  simp only at hl
  have hdeep : ((enc bs).size : Int).tdiv 2 = bs.length := by rw [enc_size, Int.tdiv_eq_ediv_of_nonneg (by omega)]; omega
  have hdw : IntKind.i64.wrap (bs.length : Int) = bs.length := w64 (by omega) (by omega)
  have e : beh ⟨ak, an, bs⟩ ⟨4, ik, ar, ia, nn⟩ = ((⟨ak, an, bs⟩ : Ah), must ((ak == ik) && logic ik)) := rfl
  unfold RBeh
  rw [e, acall_go (body := b_fuglemanref14_behind) rfl rfl (Nat.zero_le _)]
  have h1 := rlogic_a k ik
  cases c : (ak == ik)
  · have c' : (ak != ik) = true := by simpa using c
    exact ⟨ak, bs, by simp -implicitDefEqProofs only [eqs, eqd, eqe, lh_some, ↓reduceIte, reduceCtorEq, Nat.reduceEqDiff, Nat.reduceAdd, Nat.reduceSub, Nat.reduceMul, Nat.reduceLT, Nat.reduceLeDiff, Nat.reduceBEq, Nat.reduceBNe, Nat.reduceGT, Int.reduceEq, Int.reduceLT, Int.reduceLE, Int.reduceToNat, Int.reduceAdd, Int.reduceSub, Int.reduceMul, Int.reduceNeg, Int.reduceBEq, Int.reduceBNe, b_fuglemanref14_behind, gs_fuglemanref14_behind, Ins.c, rc, hdeep, hdw, c', must], fun h => absurd h (by simp [must])⟩
  · have c' : (ak != ik) = false := by simpa using c
    cases d : logic ik <;> rw [d] at h1
    · exact ⟨ak, bs, by simp -implicitDefEqProofs only [eqs, eqd, eqe, lh_some, ↓reduceIte, reduceCtorEq, Nat.reduceEqDiff, Nat.reduceAdd, Nat.reduceSub, Nat.reduceMul, Nat.reduceLT, Nat.reduceLeDiff, Nat.reduceBEq, Nat.reduceBNe, Nat.reduceGT, Int.reduceEq, Int.reduceLT, Int.reduceLE, Int.reduceToNat, Int.reduceAdd, Int.reduceSub, Int.reduceMul, Int.reduceNeg, Int.reduceBEq, Int.reduceBNe, b_fuglemanref14_behind, gs_fuglemanref14_behind, Ins.c, rc, hdeep, hdw, c', h1, must], fun h => absurd h (by simp [must])⟩
    · exact ⟨ak, bs, by simp -implicitDefEqProofs only [eqs, eqd, eqe, lh_some, ↓reduceIte, reduceCtorEq, Nat.reduceEqDiff, Nat.reduceAdd, Nat.reduceSub, Nat.reduceMul, Nat.reduceLT, Nat.reduceLeDiff, Nat.reduceBEq, Nat.reduceBNe, Nat.reduceGT, Int.reduceEq, Int.reduceLT, Int.reduceLE, Int.reduceToNat, Int.reduceAdd, Int.reduceSub, Int.reduceMul, Int.reduceNeg, Int.reduceBEq, Int.reduceBNe, b_fuglemanref14_behind, gs_fuglemanref14_behind, Ins.c, rc, hdeep, hdw, c', h1, must], fun _ => ⟨rfl, rfl⟩⟩

theorem rbeh_5 (k : Nat) (a : Ah) (i : Ins) (at_ n : Int) (hb : BrIn a.bs) (ho : i.op = 5) : RBeh k a i at_ n := by
  obtain ⟨op, ik, ar, ia, nn⟩ := i
  simp only at ho
  subst ho
  obtain ⟨ak, an, bs⟩ := a
  have hl := hb.1
  simp only at hl
  have hdeep : ((enc bs).size : Int).tdiv 2 = bs.length := by rw [enc_size, Int.tdiv_eq_ediv_of_nonneg (by omega)]; omega
  have hdw : IntKind.i64.wrap (bs.length : Int) = bs.length := w64 (by omega) (by omega)
  have e : beh ⟨ak, an, bs⟩ ⟨5, ik, ar, ia, nn⟩ = ((⟨ak, an, bs⟩ : Ah), must ((ak == 1) && (ik == 1))) := rfl
  unfold RBeh
  rw [e, acall_go (body := b_fuglemanref14_behind) rfl rfl (Nat.zero_le _)]
  cases c : (ak == 1)
  · have c' : (ak != 1) = true := by simpa using c
    exact ⟨ak, bs, by simp -implicitDefEqProofs only [eqs, eqd, eqe, lh_some, ↓reduceIte, reduceCtorEq, Nat.reduceEqDiff, Nat.reduceAdd, Nat.reduceSub, Nat.reduceMul, Nat.reduceLT, Nat.reduceLeDiff, Nat.reduceBEq, Nat.reduceBNe, Nat.reduceGT, Int.reduceEq, Int.reduceLT, Int.reduceLE, Int.reduceToNat, Int.reduceAdd, Int.reduceSub, Int.reduceMul, Int.reduceNeg, Int.reduceBEq, Int.reduceBNe, b_fuglemanref14_behind, gs_fuglemanref14_behind, Ins.c, rc, hdeep, hdw, c', must], fun h => absurd h (by simp [must])⟩
  · have c' : (ak != 1) = false := by simpa using c
    cases d : (ik == 1)
    · have d' : (ik != 1) = true := by simpa using d
      exact ⟨ak, bs, by simp -implicitDefEqProofs only [eqs, eqd, eqe, lh_some, ↓reduceIte, reduceCtorEq, Nat.reduceEqDiff, Nat.reduceAdd, Nat.reduceSub, Nat.reduceMul, Nat.reduceLT, Nat.reduceLeDiff, Nat.reduceBEq, Nat.reduceBNe, Nat.reduceGT, Int.reduceEq, Int.reduceLT, Int.reduceLE, Int.reduceToNat, Int.reduceAdd, Int.reduceSub, Int.reduceMul, Int.reduceNeg, Int.reduceBEq, Int.reduceBNe, b_fuglemanref14_behind, gs_fuglemanref14_behind, Ins.c, rc, hdeep, hdw, c', d', must], fun h => absurd h (by simp [must])⟩
    · have d' : (ik != 1) = false := by simpa using d
      exact ⟨ak, bs, by simp -implicitDefEqProofs only [eqs, eqd, eqe, lh_some, ↓reduceIte, reduceCtorEq, Nat.reduceEqDiff, Nat.reduceAdd, Nat.reduceSub, Nat.reduceMul, Nat.reduceLT, Nat.reduceLeDiff, Nat.reduceBEq, Nat.reduceBNe, Nat.reduceGT, Int.reduceEq, Int.reduceLT, Int.reduceLE, Int.reduceToNat, Int.reduceAdd, Int.reduceSub, Int.reduceMul, Int.reduceNeg, Int.reduceBEq, Int.reduceBNe, b_fuglemanref14_behind, gs_fuglemanref14_behind, Ins.c, rc, hdeep, hdw, c', d', must], fun _ => ⟨rfl, rfl⟩⟩

theorem rbeh_6 (k : Nat) (a : Ah) (i : Ins) (at_ n : Int) (hb : BrIn a.bs) (ho : i.op = 6) : RBeh k a i at_ n := by
  obtain ⟨op, ik, ar, ia, nn⟩ := i
  simp only at ho
  subst ho
  obtain ⟨ak, an, bs⟩ := a
  have hl := hb.1
  simp only at hl
  have hdeep : ((enc bs).size : Int).tdiv 2 = bs.length := by rw [enc_size, Int.tdiv_eq_ediv_of_nonneg (by omega)]; omega
  have hdw : IntKind.i64.wrap (bs.length : Int) = bs.length := w64 (by omega) (by omega)
  have e : beh ⟨ak, an, bs⟩ ⟨6, ik, ar, ia, nn⟩ = ((⟨ak, an, bs⟩ : Ah), must ((ak == 1) && (ik == 1))) := rfl
  unfold RBeh
  rw [e, acall_go (body := b_fuglemanref14_behind) rfl rfl (Nat.zero_le _)]
  cases c : (ak == 1)
  · have c' : (ak != 1) = true := by simpa using c
    exact ⟨ak, bs, by simp -implicitDefEqProofs only [eqs, eqd, eqe, lh_some, ↓reduceIte, reduceCtorEq, Nat.reduceEqDiff, Nat.reduceAdd, Nat.reduceSub, Nat.reduceMul, Nat.reduceLT, Nat.reduceLeDiff, Nat.reduceBEq, Nat.reduceBNe, Nat.reduceGT, Int.reduceEq, Int.reduceLT, Int.reduceLE, Int.reduceToNat, Int.reduceAdd, Int.reduceSub, Int.reduceMul, Int.reduceNeg, Int.reduceBEq, Int.reduceBNe, b_fuglemanref14_behind, gs_fuglemanref14_behind, Ins.c, rc, hdeep, hdw, c', must], fun h => absurd h (by simp [must])⟩
  · have c' : (ak != 1) = false := by simpa using c
    cases d : (ik == 1)
    · have d' : (ik != 1) = true := by simpa using d
      exact ⟨ak, bs, by simp -implicitDefEqProofs only [eqs, eqd, eqe, lh_some, ↓reduceIte, reduceCtorEq, Nat.reduceEqDiff, Nat.reduceAdd, Nat.reduceSub, Nat.reduceMul, Nat.reduceLT, Nat.reduceLeDiff, Nat.reduceBEq, Nat.reduceBNe, Nat.reduceGT, Int.reduceEq, Int.reduceLT, Int.reduceLE, Int.reduceToNat, Int.reduceAdd, Int.reduceSub, Int.reduceMul, Int.reduceNeg, Int.reduceBEq, Int.reduceBNe, b_fuglemanref14_behind, gs_fuglemanref14_behind, Ins.c, rc, hdeep, hdw, c', d', must], fun h => absurd h (by simp [must])⟩
    · have d' : (ik != 1) = false := by simpa using d
      exact ⟨ak, bs, by simp -implicitDefEqProofs only [eqs, eqd, eqe, lh_some, ↓reduceIte, reduceCtorEq, Nat.reduceEqDiff, Nat.reduceAdd, Nat.reduceSub, Nat.reduceMul, Nat.reduceLT, Nat.reduceLeDiff, Nat.reduceBEq, Nat.reduceBNe, Nat.reduceGT, Int.reduceEq, Int.reduceLT, Int.reduceLE, Int.reduceToNat, Int.reduceAdd, Int.reduceSub, Int.reduceMul, Int.reduceNeg, Int.reduceBEq, Int.reduceBNe, b_fuglemanref14_behind, gs_fuglemanref14_behind, Ins.c, rc, hdeep, hdw, c', d', must], fun _ => ⟨rfl, rfl⟩⟩

theorem rbeh_13 (k : Nat) (a : Ah) (i : Ins) (at_ n : Int) (hb : BrIn a.bs) (ho : i.op = 13) : RBeh k a i at_ n := by
  obtain ⟨op, ik, ar, ia, nn⟩ := i
  simp only at ho
  subst ho
  obtain ⟨ak, an, bs⟩ := a
  have hl := hb.1
  simp only at hl
  have hdeep : ((enc bs).size : Int).tdiv 2 = bs.length := by rw [enc_size, Int.tdiv_eq_ediv_of_nonneg (by omega)]; omega
  have hdw : IntKind.i64.wrap (bs.length : Int) = bs.length := w64 (by omega) (by omega)
  have e : beh ⟨ak, an, bs⟩ ⟨13, ik, ar, ia, nn⟩ = ((⟨ak, an, bs⟩ : Ah), must (logic ak)) := rfl
  unfold RBeh
  rw [e, acall_go (body := b_fuglemanref14_behind) rfl rfl (Nat.zero_le _)]
  have h1 := rlogic_a k ak
  cases c : logic ak <;> rw [c] at h1
  · exact ⟨ak, bs, by simp -implicitDefEqProofs only [eqs, eqd, eqe, lh_some, ↓reduceIte, reduceCtorEq, Nat.reduceEqDiff, Nat.reduceAdd, Nat.reduceSub, Nat.reduceMul, Nat.reduceLT, Nat.reduceLeDiff, Nat.reduceBEq, Nat.reduceBNe, Nat.reduceGT, Int.reduceEq, Int.reduceLT, Int.reduceLE, Int.reduceToNat, Int.reduceAdd, Int.reduceSub, Int.reduceMul, Int.reduceNeg, Int.reduceBEq, Int.reduceBNe, b_fuglemanref14_behind, gs_fuglemanref14_behind, Ins.c, rc, hdeep, hdw, h1, must], fun h => absurd h (by simp [must])⟩
  · exact ⟨ak, bs, by simp -implicitDefEqProofs only [eqs, eqd, eqe, lh_some, ↓reduceIte, reduceCtorEq, Nat.reduceEqDiff, Nat.reduceAdd, Nat.reduceSub, Nat.reduceMul, Nat.reduceLT, Nat.reduceLeDiff, Nat.reduceBEq, Nat.reduceBNe, Nat.reduceGT, Int.reduceEq, Int.reduceLT, Int.reduceLE, Int.reduceToNat, Int.reduceAdd, Int.reduceSub, Int.reduceMul, Int.reduceNeg, Int.reduceBEq, Int.reduceBNe, b_fuglemanref14_behind, gs_fuglemanref14_behind, Ins.c, rc, hdeep, hdw, h1, must], fun _ => ⟨rfl, rfl⟩⟩
theorem rbeh_25 (k : Nat) (a : Ah) (i : Ins) (at_ n : Int) (hb : BrIn a.bs) (ho : i.op = 25) (hj : at_ < i.at_ ∧ i.at_ ≤ n) : RBeh k a i at_ n := by
  obtain ⟨op, ik, ar, ia, nn⟩ := i
  simp only at ho
  subst ho
  obtain ⟨ak, an, bs⟩ := a
  have hl := hb.1
  simp only at hl
  have hdeep : ((enc bs).size : Int).tdiv 2 = bs.length := by rw [enc_size, Int.tdiv_eq_ediv_of_nonneg (by omega)]; omega
  have hdw : IntKind.i64.wrap (bs.length : Int) = bs.length := w64 (by omega) (by omega)
  have e : beh ⟨ak, an, bs⟩ ⟨25, ik, ar, ia, nn⟩ = ((⟨ak, an, bs⟩ : Ah), 0) := rfl
  unfold RBeh
  rw [e, acall_go (body := b_fuglemanref14_behind) rfl rfl (Nat.zero_le _)]
  have j1 : ¬ ia ≤ at_ := by have := hj.1; simp only at this; omega
  have j2 : ¬ n < ia := by have := hj.2; simp only at this; omega
  exact ⟨ak, bs, by simp -implicitDefEqProofs only [eqs, eqd, eqe, lh_some, ↓reduceIte, reduceCtorEq, Nat.reduceEqDiff, Nat.reduceAdd, Nat.reduceSub, Nat.reduceMul, Nat.reduceLT, Nat.reduceLeDiff, Nat.reduceBEq, Nat.reduceBNe, Nat.reduceGT, Int.reduceEq, Int.reduceLT, Int.reduceLE, Int.reduceToNat, Int.reduceAdd, Int.reduceSub, Int.reduceMul, Int.reduceNeg, Int.reduceBEq, Int.reduceBNe, b_fuglemanref14_behind, gs_fuglemanref14_behind, Ins.c, rc, hdeep, hdw, j1, j2], fun _ => ⟨rfl, rfl⟩⟩
theorem rbeh_26 (k : Nat) (a : Ah) (i : Ins) (at_ n : Int) (hb : BrIn a.bs) (ho : i.op = 26) (hj : at_ < i.at_ ∧ i.at_ ≤ n) : RBeh k a i at_ n := by
  obtain ⟨op, ik, ar, ia, nn⟩ := i
  simp only at ho
  subst ho
  obtain ⟨ak, an, bs⟩ := a
  have hl := hb.1
  simp only at hl
  have hdeep : ((enc bs).size : Int).tdiv 2 = bs.length := by rw [enc_size, Int.tdiv_eq_ediv_of_nonneg (by omega)]; omega
  have hdw : IntKind.i64.wrap (bs.length : Int) = bs.length := w64 (by omega) (by omega)
  have e : beh ⟨ak, an, bs⟩ ⟨26, ik, ar, ia, nn⟩ = ((⟨ak, an, bs⟩ : Ah), must (ak == 1)) := rfl
  unfold RBeh
  rw [e, acall_go (body := b_fuglemanref14_behind) rfl rfl (Nat.zero_le _)]
  have j1 : ¬ ia ≤ at_ := by have := hj.1; simp only at this; omega
  have j2 : ¬ n < ia := by have := hj.2; simp only at this; omega
  cases c : (ak == 1)
  · have c' : (ak != 1) = true := by simpa using c
    exact ⟨ak, bs, by simp -implicitDefEqProofs only [eqs, eqd, eqe, lh_some, ↓reduceIte, reduceCtorEq, Nat.reduceEqDiff, Nat.reduceAdd, Nat.reduceSub, Nat.reduceMul, Nat.reduceLT, Nat.reduceLeDiff, Nat.reduceBEq, Nat.reduceBNe, Nat.reduceGT, Int.reduceEq, Int.reduceLT, Int.reduceLE, Int.reduceToNat, Int.reduceAdd, Int.reduceSub, Int.reduceMul, Int.reduceNeg, Int.reduceBEq, Int.reduceBNe, b_fuglemanref14_behind, gs_fuglemanref14_behind, Ins.c, rc, hdeep, hdw, j1, j2, c', must], fun h => absurd h (by simp [must])⟩
  · have c' : (ak != 1) = false := by simpa using c
    exact ⟨ak, bs, by simp -implicitDefEqProofs only [eqs, eqd, eqe, lh_some, ↓reduceIte, reduceCtorEq, Nat.reduceEqDiff, Nat.reduceAdd, Nat.reduceSub, Nat.reduceMul, Nat.reduceLT, Nat.reduceLeDiff, Nat.reduceBEq, Nat.reduceBNe, Nat.reduceGT, Int.reduceEq, Int.reduceLT, Int.reduceLE, Int.reduceToNat, Int.reduceAdd, Int.reduceSub, Int.reduceMul, Int.reduceNeg, Int.reduceBEq, Int.reduceBNe, b_fuglemanref14_behind, gs_fuglemanref14_behind, Ins.c, rc, hdeep, hdw, j1, j2, c', must], fun _ => ⟨rfl, rfl⟩⟩

theorem rbeh_27 (k : Nat) (a : Ah) (i : Ins) (at_ n : Int) (hb : BrIn a.bs) (ho : i.op = 27) (hj : at_ < i.at_ ∧ i.at_ ≤ n) : RBeh k a i at_ n := by
  obtain ⟨op, ik, ar, ia, nn⟩ := i
  simp only at ho
  subst ho
  obtain ⟨ak, an, bs⟩ := a
  have hl := hb.1
  simp only at hl
  have hdeep : ((enc bs).size : Int).tdiv 2 = bs.length := by rw [enc_size, Int.tdiv_eq_ediv_of_nonneg (by omega)]; omega
  have hdw : IntKind.i64.wrap (bs.length : Int) = bs.length := w64 (by omega) (by omega)
  have e : beh ⟨ak, an, bs⟩ ⟨27, ik, ar, ia, nn⟩ = ((⟨ak, an, bs⟩ : Ah), must (ak == 1)) := rfl
  unfold RBeh
  rw [e, acall_go (body := b_fuglemanref14_behind) rfl rfl (Nat.zero_le _)]
  have j1 : ¬ ia ≤ at_ := by have := hj.1; simp only at this; omega
  have j2 : ¬ n < ia := by have := hj.2; simp only at this; omega
  cases c : (ak == 1)
  · have c' : (ak != 1) = true := by simpa using c
    exact ⟨ak, bs, by simp -implicitDefEqProofs only [eqs, eqd, eqe, lh_some, ↓reduceIte, reduceCtorEq, Nat.reduceEqDiff, Nat.reduceAdd, Nat.reduceSub, Nat.reduceMul, Nat.reduceLT, Nat.reduceLeDiff, Nat.reduceBEq, Nat.reduceBNe, Nat.reduceGT, Int.reduceEq, Int.reduceLT, Int.reduceLE, Int.reduceToNat, Int.reduceAdd, Int.reduceSub, Int.reduceMul, Int.reduceNeg, Int.reduceBEq, Int.reduceBNe, b_fuglemanref14_behind, gs_fuglemanref14_behind, Ins.c, rc, hdeep, hdw, j1, j2, c', must], fun h => absurd h (by simp [must])⟩
  · have c' : (ak != 1) = false := by simpa using c
    exact ⟨ak, bs, by simp -implicitDefEqProofs only [eqs, eqd, eqe, lh_some, ↓reduceIte, reduceCtorEq, Nat.reduceEqDiff, Nat.reduceAdd, Nat.reduceSub, Nat.reduceMul, Nat.reduceLT, Nat.reduceLeDiff, Nat.reduceBEq, Nat.reduceBNe, Nat.reduceGT, Int.reduceEq, Int.reduceLT, Int.reduceLE, Int.reduceToNat, Int.reduceAdd, Int.reduceSub, Int.reduceMul, Int.reduceNeg, Int.reduceBEq, Int.reduceBNe, b_fuglemanref14_behind, gs_fuglemanref14_behind, Ins.c, rc, hdeep, hdw, j1, j2, c', must], fun _ => ⟨rfl, rfl⟩⟩

theorem rbeh_34 (k : Nat) (a : Ah) (i : Ins) (at_ n : Int) (hb : BrIn a.bs) (ho : i.op = 34) : RBeh k a i at_ n := by
  obtain ⟨op, ik, ar, ia, nn⟩ := i
  simp only at ho
  subst ho
  obtain ⟨ak, an, bs⟩ := a
  have hl := hb.1
  simp only at hl
  have hdeep : ((enc bs).size : Int).tdiv 2 = bs.length := by rw [enc_size, Int.tdiv_eq_ediv_of_nonneg (by omega)]; omega
  have hdw : IntKind.i64.wrap (bs.length : Int) = bs.length := w64 (by omega) (by omega)
  have e : beh ⟨ak, an, bs⟩ ⟨34, ik, ar, ia, nn⟩ = ((⟨ak, an, bs⟩ : Ah), must (ak == 1)) := rfl
  unfold RBeh
  rw [e, acall_go (body := b_fuglemanref14_behind) rfl rfl (Nat.zero_le _)]
  cases c : (ak == 1)
  · have c' : (ak != 1) = true := by simpa using c
    exact ⟨ak, bs, by simp -implicitDefEqProofs only [eqs, eqd, eqe, lh_some, ↓reduceIte, reduceCtorEq, Nat.reduceEqDiff, Nat.reduceAdd, Nat.reduceSub, Nat.reduceMul, Nat.reduceLT, Nat.reduceLeDiff, Nat.reduceBEq, Nat.reduceBNe, Nat.reduceGT, Int.reduceEq, Int.reduceLT, Int.reduceLE, Int.reduceToNat, Int.reduceAdd, Int.reduceSub, Int.reduceMul, Int.reduceNeg, Int.reduceBEq, Int.reduceBNe, b_fuglemanref14_behind, gs_fuglemanref14_behind, Ins.c, rc, hdeep, hdw, c', must], fun h => absurd h (by simp [must])⟩
  · have c' : (ak != 1) = false := by simpa using c
    exact ⟨ak, bs, by simp -implicitDefEqProofs only [eqs, eqd, eqe, lh_some, ↓reduceIte, reduceCtorEq, Nat.reduceEqDiff, Nat.reduceAdd, Nat.reduceSub, Nat.reduceMul, Nat.reduceLT, Nat.reduceLeDiff, Nat.reduceBEq, Nat.reduceBNe, Nat.reduceGT, Int.reduceEq, Int.reduceLT, Int.reduceLE, Int.reduceToNat, Int.reduceAdd, Int.reduceSub, Int.reduceMul, Int.reduceNeg, Int.reduceBEq, Int.reduceBNe, b_fuglemanref14_behind, gs_fuglemanref14_behind, Ins.c, rc, hdeep, hdw, c', must], fun _ => ⟨rfl, rfl⟩⟩

theorem rbeh_35 (k : Nat) (a : Ah) (i : Ins) (at_ n : Int) (hb : BrIn a.bs) (ho : i.op = 35) : RBeh k a i at_ n := by
  obtain ⟨op, ik, ar, ia, nn⟩ := i
  simp only at ho
  subst ho
  obtain ⟨ak, an, bs⟩ := a
  have hl := hb.1
  simp only at hl
  have hdeep : ((enc bs).size : Int).tdiv 2 = bs.length := by rw [enc_size, Int.tdiv_eq_ediv_of_nonneg (by omega)]; omega
  have hdw : IntKind.i64.wrap (bs.length : Int) = bs.length := w64 (by omega) (by omega)
  have e : beh ⟨ak, an, bs⟩ ⟨35, ik, ar, ia, nn⟩ = ((⟨ak, an, bs⟩ : Ah), must (ak == 1)) := rfl
  unfold RBeh
  rw [e, acall_go (body := b_fuglemanref14_behind) rfl rfl (Nat.zero_le _)]
  cases c : (ak == 1)
  · have c' : (ak != 1) = true := by simpa using c
    exact ⟨ak, bs, by simp -implicitDefEqProofs only [eqs, eqd, eqe, lh_some, ↓reduceIte, reduceCtorEq, Nat.reduceEqDiff, Nat.reduceAdd, Nat.reduceSub, Nat.reduceMul, Nat.reduceLT, Nat.reduceLeDiff, Nat.reduceBEq, Nat.reduceBNe, Nat.reduceGT, Int.reduceEq, Int.reduceLT, Int.reduceLE, Int.reduceToNat, Int.reduceAdd, Int.reduceSub, Int.reduceMul, Int.reduceNeg, Int.reduceBEq, Int.reduceBNe, b_fuglemanref14_behind, gs_fuglemanref14_behind, Ins.c, rc, hdeep, hdw, c', must], fun h => absurd h (by simp [must])⟩
  · have c' : (ak != 1) = false := by simpa using c
    exact ⟨ak, bs, by simp -implicitDefEqProofs only [eqs, eqd, eqe, lh_some, ↓reduceIte, reduceCtorEq, Nat.reduceEqDiff, Nat.reduceAdd, Nat.reduceSub, Nat.reduceMul, Nat.reduceLT, Nat.reduceLeDiff, Nat.reduceBEq, Nat.reduceBNe, Nat.reduceGT, Int.reduceEq, Int.reduceLT, Int.reduceLE, Int.reduceToNat, Int.reduceAdd, Int.reduceSub, Int.reduceMul, Int.reduceNeg, Int.reduceBEq, Int.reduceBNe, b_fuglemanref14_behind, gs_fuglemanref14_behind, Ins.c, rc, hdeep, hdw, c', must], fun _ => ⟨rfl, rfl⟩⟩

theorem rbeh_36 (k : Nat) (a : Ah) (i : Ins) (at_ n : Int) (hb : BrIn a.bs) (ho : i.op = 36) : RBeh k a i at_ n := by
  obtain ⟨op, ik, ar, ia, nn⟩ := i
  simp only at ho
  subst ho
  obtain ⟨ak, an, bs⟩ := a
  have hl := hb.1
  simp only at hl
  have hdeep : ((enc bs).size : Int).tdiv 2 = bs.length := by rw [enc_size, Int.tdiv_eq_ediv_of_nonneg (by omega)]; omega
  have hdw : IntKind.i64.wrap (bs.length : Int) = bs.length := w64 (by omega) (by omega)
  have e : beh ⟨ak, an, bs⟩ ⟨36, ik, ar, ia, nn⟩ = ((⟨ak, an, bs⟩ : Ah), must (ak == 1)) := rfl
  unfold RBeh
  rw [e, acall_go (body := b_fuglemanref14_behind) rfl rfl (Nat.zero_le _)]
  cases c : (ak == 1)
  · have c' : (ak != 1) = true := by simpa using c
    exact ⟨ak, bs, by simp -implicitDefEqProofs only [eqs, eqd, eqe, lh_some, ↓reduceIte, reduceCtorEq, Nat.reduceEqDiff, Nat.reduceAdd, Nat.reduceSub, Nat.reduceMul, Nat.reduceLT, Nat.reduceLeDiff, Nat.reduceBEq, Nat.reduceBNe, Nat.reduceGT, Int.reduceEq, Int.reduceLT, Int.reduceLE, Int.reduceToNat, Int.reduceAdd, Int.reduceSub, Int.reduceMul, Int.reduceNeg, Int.reduceBEq, Int.reduceBNe, b_fuglemanref14_behind, gs_fuglemanref14_behind, Ins.c, rc, hdeep, hdw, c', must], fun h => absurd h (by simp [must])⟩
  · have c' : (ak != 1) = false := by simpa using c
    exact ⟨ak, bs, by simp -implicitDefEqProofs only [eqs, eqd, eqe, lh_some, ↓reduceIte, reduceCtorEq, Nat.reduceEqDiff, Nat.reduceAdd, Nat.reduceSub, Nat.reduceMul, Nat.reduceLT, Nat.reduceLeDiff, Nat.reduceBEq, Nat.reduceBNe, Nat.reduceGT, Int.reduceEq, Int.reduceLT, Int.reduceLE, Int.reduceToNat, Int.reduceAdd, Int.reduceSub, Int.reduceMul, Int.reduceNeg, Int.reduceBEq, Int.reduceBNe, b_fuglemanref14_behind, gs_fuglemanref14_behind, Ins.c, rc, hdeep, hdw, c', must], fun _ => ⟨rfl, rfl⟩⟩

theorem rbeh_28 (k : Nat) (a : Ah) (i : Ins) (at_ n : Int) (hb : BrIn a.bs) (ho : i.op = 28) : RBeh k a i at_ n := by
  obtain ⟨op, ik, ar, ia, nn⟩ := i
  simp only at ho
  subst ho
  obtain ⟨ak, an, bs⟩ := a
  have hl := hb.1
  simp only at hl
  have hdeep : ((enc bs).size : Int).tdiv 2 = bs.length := by rw [enc_size, Int.tdiv_eq_ediv_of_nonneg (by omega)]; omega
  have hdw : IntKind.i64.wrap (bs.length : Int) = bs.length := w64 (by omega) (by omega)
  have e : beh ⟨ak, an, bs⟩ ⟨28, ik, ar, ia, nn⟩ = ((⟨ak, an, bs⟩ : Ah), if (28 : Int) ≠ 28 ∧ ak ≠ 1 then 6 else if 0 < bs.length then 3 else 0) := rfl
  unfold RBeh
  rw [e, acall_go (body := b_fuglemanref14_behind) rfl rfl (Nat.zero_le _)]
  by_cases d : 0 < bs.length
  · have d' : (0 : Int) < bs.length := by omega
    exact ⟨ak, bs, by simp -implicitDefEqProofs only [eqs, eqd, eqe, lh_some, ↓reduceIte, reduceCtorEq, Nat.reduceEqDiff, Nat.reduceAdd, Nat.reduceSub, Nat.reduceMul, Nat.reduceLT, Nat.reduceLeDiff, Nat.reduceBEq, Nat.reduceBNe, Nat.reduceGT, Int.reduceEq, Int.reduceLT, Int.reduceLE, Int.reduceToNat, Int.reduceAdd, Int.reduceSub, Int.reduceMul, Int.reduceNeg, Int.reduceBEq, Int.reduceBNe, b_fuglemanref14_behind, gs_fuglemanref14_behind, Ins.c, rc, hdeep, hdw, d, d'], fun h => absurd h (by simp [d])⟩
  · have d' : ¬ (0 : Int) < bs.length := by omega
    exact ⟨ak, bs, by simp -implicitDefEqProofs only [eqs, eqd, eqe, lh_some, ↓reduceIte, reduceCtorEq, Nat.reduceEqDiff, Nat.reduceAdd, Nat.reduceSub, Nat.reduceMul, Nat.reduceLT, Nat.reduceLeDiff, Nat.reduceBEq, Nat.reduceBNe, Nat.reduceGT, Int.reduceEq, Int.reduceLT, Int.reduceLE, Int.reduceToNat, Int.reduceAdd, Int.reduceSub, Int.reduceMul, Int.reduceNeg, Int.reduceBEq, Int.reduceBNe, b_fuglemanref14_behind, gs_fuglemanref14_behind, Ins.c, rc, hdeep, hdw, d, d'], fun _ => ⟨rfl, rfl⟩⟩

theorem rbeh_29 (k : Nat) (a : Ah) (i : Ins) (at_ n : Int) (hb : BrIn a.bs) (ho : i.op = 29) : RBeh k a i at_ n := by
  obtain ⟨op, ik, ar, ia, nn⟩ := i
  simp only at ho
  subst ho
  obtain ⟨ak, an, bs⟩ := a
  have hl := hb.1
  simp only at hl
  have hdeep : ((enc bs).size : Int).tdiv 2 = bs.length := by rw [enc_size, Int.tdiv_eq_ediv_of_nonneg (by omega)]; omega
  have hdw : IntKind.i64.wrap (bs.length : Int) = bs.length := w64 (by omega) (by omega)
  have e : beh ⟨ak, an, bs⟩ ⟨29, ik, ar, ia, nn⟩ = ((⟨ak, an, bs⟩ : Ah), if (29 : Int) ≠ 28 ∧ ak ≠ 1 then 6 else if 0 < bs.length then 3 else 0) := rfl
  unfold RBeh
  rw [e, acall_go (body := b_fuglemanref14_behind) rfl rfl (Nat.zero_le _)]
  by_cases c : ak = 1
  case neg =>
    have c' : (ak != 1) = true := by simpa using c
    exact ⟨ak, bs, by simp -implicitDefEqProofs only [eqs, eqd, eqe, lh_some, ↓reduceIte, reduceCtorEq, Nat.reduceEqDiff, Nat.reduceAdd, Nat.reduceSub, Nat.reduceMul, Nat.reduceLT, Nat.reduceLeDiff, Nat.reduceBEq, Nat.reduceBNe, Nat.reduceGT, Int.reduceEq, Int.reduceLT, Int.reduceLE, Int.reduceToNat, Int.reduceAdd, Int.reduceSub, Int.reduceMul, Int.reduceNeg, Int.reduceBEq, Int.reduceBNe, b_fuglemanref14_behind, gs_fuglemanref14_behind, Ins.c, rc, hdeep, hdw, c', c], fun h => absurd h (by simp [c])⟩
  have c' : (ak != 1) = false := by simp [c]
  by_cases d : 0 < bs.length
  · have d' : (0 : Int) < bs.length := by omega
    exact ⟨ak, bs, by simp -implicitDefEqProofs only [eqs, eqd, eqe, lh_some, ↓reduceIte, reduceCtorEq, Nat.reduceEqDiff, Nat.reduceAdd, Nat.reduceSub, Nat.reduceMul, Nat.reduceLT, Nat.reduceLeDiff, Nat.reduceBEq, Nat.reduceBNe, Nat.reduceGT, Int.reduceEq, Int.reduceLT, Int.reduceLE, Int.reduceToNat, Int.reduceAdd, Int.reduceSub, Int.reduceMul, Int.reduceNeg, Int.reduceBEq, Int.reduceBNe, b_fuglemanref14_behind, gs_fuglemanref14_behind, Ins.c, rc, hdeep, hdw, d, d', c', c], fun h => absurd h (by simp [d, c])⟩
  · have d' : ¬ (0 : Int) < bs.length := by omega
    exact ⟨ak, bs, by simp -implicitDefEqProofs only [eqs, eqd, eqe, lh_some, ↓reduceIte, reduceCtorEq, Nat.reduceEqDiff, Nat.reduceAdd, Nat.reduceSub, Nat.reduceMul, Nat.reduceLT, Nat.reduceLeDiff, Nat.reduceBEq, Nat.reduceBNe, Nat.reduceGT, Int.reduceEq, Int.reduceLT, Int.reduceLE, Int.reduceToNat, Int.reduceAdd, Int.reduceSub, Int.reduceMul, Int.reduceNeg, Int.reduceBEq, Int.reduceBNe, b_fuglemanref14_behind, gs_fuglemanref14_behind, Ins.c, rc, hdeep, hdw, d, d', c', c], fun _ => ⟨rfl, rfl⟩⟩

theorem rbeh_30 (k : Nat) (a : Ah) (i : Ins) (at_ n : Int) (hb : BrIn a.bs) (ho : i.op = 30) : RBeh k a i at_ n := by
  obtain ⟨op, ik, ar, ia, nn⟩ := i
  simp only at ho
  subst ho
  obtain ⟨ak, an, bs⟩ := a
  have hl := hb.1
  simp only at hl
  have hdeep : ((enc bs).size : Int).tdiv 2 = bs.length := by rw [enc_size, Int.tdiv_eq_ediv_of_nonneg (by omega)]; omega
  have hdw : IntKind.i64.wrap (bs.length : Int) = bs.length := w64 (by omega) (by omega)
  have e : beh ⟨ak, an, bs⟩ ⟨30, ik, ar, ia, nn⟩ = ((⟨ak, an, bs⟩ : Ah), if (30 : Int) ≠ 28 ∧ ak ≠ 1 then 6 else if 0 < bs.length then 3 else 0) := rfl
  unfold RBeh
  rw [e, acall_go (body := b_fuglemanref14_behind) rfl rfl (Nat.zero_le _)]
  by_cases c : ak = 1
  case neg =>
    have c' : (ak != 1) = true := by simpa using c
    exact ⟨ak, bs, by simp -implicitDefEqProofs only [eqs, eqd, eqe, lh_some, ↓reduceIte, reduceCtorEq, Nat.reduceEqDiff, Nat.reduceAdd, Nat.reduceSub, Nat.reduceMul, Nat.reduceLT, Nat.reduceLeDiff, Nat.reduceBEq, Nat.reduceBNe, Nat.reduceGT, Int.reduceEq, Int.reduceLT, Int.reduceLE, Int.reduceToNat, Int.reduceAdd, Int.reduceSub, Int.reduceMul, Int.reduceNeg, Int.reduceBEq, Int.reduceBNe, b_fuglemanref14_behind, gs_fuglemanref14_behind, Ins.c, rc, hdeep, hdw, c', c], fun h => absurd h (by simp [c])⟩
  have c' : (ak != 1) = false := by simp [c]
  by_cases d : 0 < bs.length
  · have d' : (0 : Int) < bs.length := by omega
    exact ⟨ak, bs, by simp -implicitDefEqProofs only [eqs, eqd, eqe, lh_some, ↓reduceIte, reduceCtorEq, Nat.reduceEqDiff, Nat.reduceAdd, Nat.reduceSub, Nat.reduceMul, Nat.reduceLT, Nat.reduceLeDiff, Nat.reduceBEq, Nat.reduceBNe, Nat.reduceGT, Int.reduceEq, Int.reduceLT, Int.reduceLE, Int.reduceToNat, Int.reduceAdd, Int.reduceSub, Int.reduceMul, Int.reduceNeg, Int.reduceBEq, Int.reduceBNe, b_fuglemanref14_behind, gs_fuglemanref14_behind, Ins.c, rc, hdeep, hdw, d, d', c', c], fun h => absurd h (by simp [d, c])⟩
  · have d' : ¬ (0 : Int) < bs.length := by omega
    exact ⟨ak, bs, by simp -implicitDefEqProofs only [eqs, eqd, eqe, lh_some, ↓reduceIte, reduceCtorEq, Nat.reduceEqDiff, Nat.reduceAdd, Nat.reduceSub, Nat.reduceMul, Nat.reduceLT, Nat.reduceLeDiff, Nat.reduceBEq, Nat.reduceBNe, Nat.reduceGT, Int.reduceEq, Int.reduceLT, Int.reduceLE, Int.reduceToNat, Int.reduceAdd, Int.reduceSub, Int.reduceMul, Int.reduceNeg, Int.reduceBEq, Int.reduceBNe, b_fuglemanref14_behind, gs_fuglemanref14_behind, Ins.c, rc, hdeep, hdw, d, d', c', c], fun _ => ⟨rfl, rfl⟩⟩

theorem rbeh_31 (k : Nat) (a : Ah) (i : Ins) (at_ n : Int) (hb : BrIn a.bs) (ho : i.op = 31) : RBeh k a i at_ n := by
  obtain ⟨op, ik, ar, ia, nn⟩ := i
  simp only at ho
  subst ho
  obtain ⟨ak, an, bs⟩ := a
  have hl := hb.1
  simp only at hl
  have hdeep : ((enc bs).size : Int).tdiv 2 = bs.length := by rw [enc_size, Int.tdiv_eq_ediv_of_nonneg (by omega)]; omega
  have hdw : IntKind.i64.wrap (bs.length : Int) = bs.length := w64 (by omega) (by omega)
  have e : beh ⟨ak, an, bs⟩ ⟨31, ik, ar, ia, nn⟩ = (⟨ik, an, bs⟩, must (ak != 0)) := rfl
  unfold RBeh
  rw [e, acall_go (body := b_fuglemanref14_behind) rfl rfl (Nat.zero_le _)]
  cases c : (ak == 0)
  · have c' : (ak != 0) = true := by simpa using c
    exact ⟨ik, bs, by simp -implicitDefEqProofs only [eqs, eqd, eqe, lh_some, ↓reduceIte, reduceCtorEq, Nat.reduceEqDiff, Nat.reduceAdd, Nat.reduceSub, Nat.reduceMul, Nat.reduceLT, Nat.reduceLeDiff, Nat.reduceBEq, Nat.reduceBNe, Nat.reduceGT, Int.reduceEq, Int.reduceLT, Int.reduceLE, Int.reduceToNat, Int.reduceAdd, Int.reduceSub, Int.reduceMul, Int.reduceNeg, Int.reduceBEq, Int.reduceBNe, b_fuglemanref14_behind, gs_fuglemanref14_behind, Ins.c, rc, hdeep, hdw, c, c', must], fun _ => ⟨rfl, rfl⟩⟩
  · have c' : (ak != 0) = false := by simpa using c
    exact ⟨ak, bs, by simp -implicitDefEqProofs only [eqs, eqd, eqe, lh_some, ↓reduceIte, reduceCtorEq, Nat.reduceEqDiff, Nat.reduceAdd, Nat.reduceSub, Nat.reduceMul, Nat.reduceLT, Nat.reduceLeDiff, Nat.reduceBEq, Nat.reduceBNe, Nat.reduceGT, Int.reduceEq, Int.reduceLT, Int.reduceLE, Int.reduceToNat, Int.reduceAdd, Int.reduceSub, Int.reduceMul, Int.reduceNeg, Int.reduceBEq, Int.reduceBNe, b_fuglemanref14_behind, gs_fuglemanref14_behind, Ins.c, rc, hdeep, hdw, c, c', must], fun h => absurd h (by rw [c']; simp [must])⟩

theorem rbeh_32 (k : Nat) (a : Ah) (i : Ins) (at_ n : Int) (hb : BrIn a.bs) (ho : i.op = 32) : RBeh k a i at_ n := by
  obtain ⟨op, ik, ar, ia, nn⟩ := i
  simp only at ho
  subst ho
  obtain ⟨ak, an, bs⟩ := a
  have hl := hb.1
  simp only at hl
  have hdeep : ((enc bs).size : Int).tdiv 2 = bs.length := by rw [enc_size, Int.tdiv_eq_ediv_of_nonneg (by omega)]; omega
  have hdw : IntKind.i64.wrap (bs.length : Int) = bs.length := w64 (by omega) (by omega)
  have e : beh ⟨ak, an, bs⟩ ⟨32, ik, ar, ia, nn⟩ = push (⟨ak, an, bs⟩ : Ah) ia := rfl
  unfold RBeh
  rw [e, acall_go (body := b_fuglemanref14_behind) rfl rfl (Nat.zero_le _)]
  have h1 := rmay_a (k + 1) ia ak
  unfold push
  cases c : may ia ak <;> rw [c] at h1
  · simp only [if_true]
    exact ⟨ak, bs, by simp -implicitDefEqProofs only [eqs, eqd, eqe, lh_some, ↓reduceIte, reduceCtorEq, Nat.reduceEqDiff, Nat.reduceAdd, Nat.reduceSub, Nat.reduceMul, Nat.reduceLT, Nat.reduceLeDiff, Nat.reduceBEq, Nat.reduceBNe, Nat.reduceGT, Int.reduceEq, Int.reduceLT, Int.reduceLE, Int.reduceToNat, Int.reduceAdd, Int.reduceSub, Int.reduceMul, Int.reduceNeg, Int.reduceBEq, Int.reduceBNe, b_fuglemanref14_behind, gs_fuglemanref14_behind, Ins.c, rc, hdeep, hdw, h1], fun h => absurd h (by simp [must])⟩
  · simp only [Bool.true_eq_false, if_false]
    obtain ⟨m1, m2, m3, m4⟩ := may_in c
    by_cases d : bs.length = 8
    · have d' : ((bs.length : Int) == 8) = true := by rw [beq_iff_eq]; omega
      rw [if_pos d]
      exact ⟨ak, bs, by simp -implicitDefEqProofs only [eqs, eqd, eqe, lh_some, ↓reduceIte, reduceCtorEq, Nat.reduceEqDiff, Nat.reduceAdd, Nat.reduceSub, Nat.reduceMul, Nat.reduceLT, Nat.reduceLeDiff, Nat.reduceBEq, Nat.reduceBNe, Nat.reduceGT, Int.reduceEq, Int.reduceLT, Int.reduceLE, Int.reduceToNat, Int.reduceAdd, Int.reduceSub, Int.reduceMul, Int.reduceNeg, Int.reduceBEq, Int.reduceBNe, b_fuglemanref14_behind, gs_fuglemanref14_behind, Ins.c, rc, hdeep, hdw, h1, d'], fun h => absurd h (by simp [must])⟩
    · have d' : ((bs.length : Int) == 8) = false := by rw [beq_eq_false_iff_ne]; omega
      rw [if_neg d]
      have u1 : IntKind.u8.wrap ia = ia := wu8 (by omega) (by omega)
      have u2 : IntKind.u8.wrap ak = ak := wu8 (by omega) (by omega)
      have u3 : (enc bs).size + (strOfNums [ia, ak]).size ≤ 9223372036854775807 := by rw [enc_size, son_size]; simp; omega
      refine ⟨0, bs ++ [(ia, ak)], ?_, fun _ => ⟨rfl, rfl⟩⟩
      rw [show rc 0 (bs ++ [(ia, ak)]) = [.v (.bool true), .v (.int .i64 0), .v (.string (enc bs ++ strOfNums [ia, ak]))] by rw [enc_snoc]; rfl]
      simp -implicitDefEqProofs only [eqs, eqd, eqe, lh_some, ↓reduceIte, reduceCtorEq, Nat.reduceEqDiff, Nat.reduceAdd, Nat.reduceSub, Nat.reduceMul, Nat.reduceLT, Nat.reduceLeDiff, Nat.reduceBEq, Nat.reduceBNe, Nat.reduceGT, Int.reduceEq, Int.reduceLT, Int.reduceLE, Int.reduceToNat, Int.reduceAdd, Int.reduceSub, Int.reduceMul, Int.reduceNeg, Int.reduceBEq, Int.reduceBNe, b_fuglemanref14_behind, gs_fuglemanref14_behind, Ins.c, rc, hdeep, hdw, h1, d', u1, u2, u3, toNums]

theorem rbeh_33 (k : Nat) (a : Ah) (i : Ins) (at_ n : Int) (hb : BrIn a.bs) (ho : i.op = 33) : RBeh k a i at_ n := by
  obtain ⟨op, ik, ar, ia, nn⟩ := i
  simp only at ho
  subst ho
  obtain ⟨ak, an, bs⟩ := a
  have hl := hb.1
  simp only at hl
  have hdeep : ((enc bs).size : Int).tdiv 2 = bs.length := by rw [enc_size, Int.tdiv_eq_ediv_of_nonneg (by omega)]; omega
  have hdw : IntKind.i64.wrap (bs.length : Int) = bs.length := w64 (by omega) (by omega)
  have e : beh ⟨ak, an, bs⟩ ⟨33, ik, ar, ia, nn⟩ = pop (⟨ak, an, bs⟩ : Ah) := rfl
  unfold RBeh
  rw [e, acall_go (body := b_fuglemanref14_behind) rfl rfl (Nat.zero_le _)]
  have hbi := hb.2
  simp only at hbi
  unfold pop
  rcases List.eq_nil_or_concat bs with rfl | ⟨bs, p, rfl⟩
  · refine ⟨ak, [], ?_, fun h => absurd h (by simp [must])⟩
    have e0 : ((([] : List (Int × Int)).length : Nat) : Int) = 0 := rfl
    rw [e0] at hdeep
    have hdw0 : IntKind.i64.wrap 0 = 0 := rfl
    simp only [List.getLast?_nil]
    simp -implicitDefEqProofs only [eqs, eqd, eqe, lh_some, ↓reduceIte, reduceCtorEq, Nat.reduceEqDiff, Nat.reduceAdd, Nat.reduceSub, Nat.reduceMul, Nat.reduceLT, Nat.reduceLeDiff, Nat.reduceBEq, Nat.reduceBNe, Nat.reduceGT, Int.reduceEq, Int.reduceLT, Int.reduceLE, Int.reduceToNat, Int.reduceAdd, Int.reduceSub, Int.reduceMul, Int.reduceNeg, Int.reduceBEq, Int.reduceBNe, b_fuglemanref14_behind, gs_fuglemanref14_behind, Ins.c, rc, hdeep, hdw, hdw0]
  · rw [List.concat_eq_append] at hl hdeep hdw hbi ⊢
    have hp := hbi p (by simp)
    have e1 : (bs ++ [p]).length = bs.length + 1 := by simp
    rw [e1] at hl hdeep hdw
    have e2 : (((bs.length + 1 : Nat) : Int) == 0) = false := by rw [beq_eq_false_iff_ne]; omega
    have e3 : IntKind.i64.wrap (2 * ((bs.length + 1 : Nat) : Int)) = ((bs.length * 2 + 2 : Nat) : Int) := by rw [w64 (by omega) (by omega)]; omega
    have e4 : IntKind.i64.wrap (((bs.length * 2 + 2 : Nat) : Int) - 2) = ((bs.length * 2 : Nat) : Int) := by rw [w64 (by omega) (by omega)]; omega
    have e5 := enc_last bs p
    have e6 := enc_front bs p
    have e7 : (enc (bs ++ [p])).size = bs.length * 2 + 2 := by rw [enc_size, e1]; omega
    have e8 : bs.length * 2 ≤ bs.length * 2 + 2 := by omega
    rw [e7] at hdeep
    have x0 := ix2_0 (x := p.1) (y := p.2) (by omega)
    have x1 := ix2_1 (x := p.1) (y := p.2) (by omega)
    have u1 : IntKind.i64.wrap p.2 = p.2 := w64 (by omega) (by omega)
    simp only [List.getLast?_append, List.getLast?_singleton, Option.or_some, Option.some_or, List.dropLast_concat]
    generalize hX : ((bs.length + 1 : Nat) : Int) = X at *
    generalize hY : bs.length * 2 + 2 = Y at *
    generalize hZ : bs.length * 2 = Z at *
    by_cases c : p.2 = ak
    · have c' : (ak != p.2) = false := by simp [c]
      simp only [c, ne_eq, not_true_eq_false, if_false]
      by_cases d : 19 ≤ p.1
      · refine ⟨1, bs, ?_, fun _ => ⟨by unfold made; rw [if_pos ⟨d, by omega⟩], rfl⟩⟩
        simp -implicitDefEqProofs only [eqs, eqd, eqe, lh_some, ↓reduceIte, reduceCtorEq, Nat.reduceEqDiff, Nat.reduceAdd, Nat.reduceSub, Nat.reduceMul, Nat.reduceLT, Nat.reduceLeDiff, Nat.reduceBEq, Nat.reduceBNe, Nat.reduceGT, Int.reduceEq, Int.reduceLT, Int.reduceLE, Int.reduceToNat, Int.reduceAdd, Int.reduceSub, Int.reduceMul, Int.reduceNeg, Int.reduceBEq, Int.reduceBNe, b_fuglemanref14_behind, gs_fuglemanref14_behind, Ins.c, rc, hdeep, hdw, e2, e3, e4, e5, e6, e7, e8, x0, x1, u1, c', d]
      · refine ⟨ak, bs, ?_, fun _ => ⟨by unfold made; rw [if_neg (fun h => d h.1)], rfl⟩⟩
        simp -implicitDefEqProofs only [eqs, eqd, eqe, lh_some, ↓reduceIte, reduceCtorEq, Nat.reduceEqDiff, Nat.reduceAdd, Nat.reduceSub, Nat.reduceMul, Nat.reduceLT, Nat.reduceLeDiff, Nat.reduceBEq, Nat.reduceBNe, Nat.reduceGT, Int.reduceEq, Int.reduceLT, Int.reduceLE, Int.reduceToNat, Int.reduceAdd, Int.reduceSub, Int.reduceMul, Int.reduceNeg, Int.reduceBEq, Int.reduceBNe, b_fuglemanref14_behind, gs_fuglemanref14_behind, Ins.c, rc, hdeep, hdw, e2, e3, e4, e5, e6, e7, e8, x0, x1, u1, c', d]
    · have c' : (ak != p.2) = true := by simp; exact fun h => c h.symm
      simp only [c, ne_eq, not_false_eq_true, if_true]
      refine ⟨ak, bs ++ [p], ?_, fun h => absurd h (by simp [must])⟩
      simp -implicitDefEqProofs only [eqs, eqd, eqe, lh_some, ↓reduceIte, reduceCtorEq, Nat.reduceEqDiff, Nat.reduceAdd, Nat.reduceSub, Nat.reduceMul, Nat.reduceLT, Nat.reduceLeDiff, Nat.reduceBEq, Nat.reduceBNe, Nat.reduceGT, Int.reduceEq, Int.reduceLT, Int.reduceLE, Int.reduceToNat, Int.reduceAdd, Int.reduceSub, Int.reduceMul, Int.reduceNeg, Int.reduceBEq, Int.reduceBNe, b_fuglemanref14_behind, gs_fuglemanref14_behind, Ins.c, rc, hdeep, hdw, e2, e3, e4, e5, e6, e7, e8, x0, x1, u1, c']

theorem rbeh_0 (k : Nat) (a : Ah) (i : Ins) (at_ n : Int) (hb : BrIn a.bs) (ho : (7 ≤ i.op ∧ i.op ≤ 12) ∨ (14 ≤ i.op ∧ i.op ≤ 24)) : RBeh k a i at_ n := by
  have e : beh a i = ({ a with k := made i.op i.k }, must ((a.k == i.k) && may i.op i.k)) := by unfold beh; repeat (rw [if_neg (by omega)])
  unfold RBeh
  rw [e, acall_go (body := b_fuglemanref14_behind) rfl rfl (Nat.zero_le _)]
  obtain ⟨op, ik, ar, ia, nn⟩ := i
  obtain ⟨ak, an, bs⟩ := a
  have hl := hb.1
  simp only at hl ho ⊢
  have hdeep : ((enc bs).size : Int).tdiv 2 = bs.length := by rw [enc_size, Int.tdiv_eq_ediv_of_nonneg (by omega)]; omega
  have hdw : IntKind.i64.wrap (bs.length : Int) = bs.length := w64 (by omega) (by omega)
  have n1 : (op == 1) = false := by rw [beq_eq_false_iff_ne]; omega
  have n2 : (op == 2) = false := by rw [beq_eq_false_iff_ne]; omega
  have n3 : (op == 3) = false := by rw [beq_eq_false_iff_ne]; omega
  have n4 : (op == 4) = false := by rw [beq_eq_false_iff_ne]; omega
  have n5 : (op == 5) = false := by rw [beq_eq_false_iff_ne]; omega
  have n6 : (op == 6) = false := by rw [beq_eq_false_iff_ne]; omega
  have n13 : (op == 13) = false := by rw [beq_eq_false_iff_ne]; omega
  have o7 : 7 ≤ op := by omega
  have o24 : op ≤ 24 := by omega
  have h1 := rmay_a (k + 1) op ak
  cases c : (ak == ik)
  · have c' : (ak != ik) = true := by simpa using c
    exact ⟨ak, bs, by simp -implicitDefEqProofs only [eqs, eqd, eqe, lh_some, ↓reduceIte, reduceCtorEq, Nat.reduceEqDiff, Nat.reduceAdd, Nat.reduceSub, Nat.reduceMul, Nat.reduceLT, Nat.reduceLeDiff, Nat.reduceBEq, Nat.reduceBNe, Nat.reduceGT, Int.reduceEq, Int.reduceLT, Int.reduceLE, Int.reduceToNat, Int.reduceAdd, Int.reduceSub, Int.reduceMul, Int.reduceNeg, Int.reduceBEq, Int.reduceBNe, b_fuglemanref14_behind, gs_fuglemanref14_behind, Ins.c, rc, hdeep, hdw, c', must, n1, n2, n3, n4, n5, n6, n13, o7, o24], fun h => absurd h (by simp [must])⟩
  · have c' : (ak != ik) = false := by simpa using c
    obtain rfl : ak = ik := by simpa using c
    cases d : may op ak <;> rw [d] at h1
    · exact ⟨ak, bs, by simp -implicitDefEqProofs only [eqs, eqd, eqe, lh_some, ↓reduceIte, reduceCtorEq, Nat.reduceEqDiff, Nat.reduceAdd, Nat.reduceSub, Nat.reduceMul, Nat.reduceLT, Nat.reduceLeDiff, Nat.reduceBEq, Nat.reduceBNe, Nat.reduceGT, Int.reduceEq, Int.reduceLT, Int.reduceLE, Int.reduceToNat, Int.reduceAdd, Int.reduceSub, Int.reduceMul, Int.reduceNeg, Int.reduceBEq, Int.reduceBNe, b_fuglemanref14_behind, gs_fuglemanref14_behind, Ins.c, rc, hdeep, hdw, h1, c', must, n1, n2, n3, n4, n5, n6, n13, o7, o24], fun h => absurd h (by simp [must])⟩
    · by_cases f : 19 ≤ op
      · exact ⟨1, bs, by simp -implicitDefEqProofs only [eqs, eqd, eqe, lh_some, ↓reduceIte, reduceCtorEq, Nat.reduceEqDiff, Nat.reduceAdd, Nat.reduceSub, Nat.reduceMul, Nat.reduceLT, Nat.reduceLeDiff, Nat.reduceBEq, Nat.reduceBNe, Nat.reduceGT, Int.reduceEq, Int.reduceLT, Int.reduceLE, Int.reduceToNat, Int.reduceAdd, Int.reduceSub, Int.reduceMul, Int.reduceNeg, Int.reduceBEq, Int.reduceBNe, b_fuglemanref14_behind, gs_fuglemanref14_behind, Ins.c, rc, hdeep, hdw, h1, c', f, must, n1, n2, n3, n4, n5, n6, n13, o7, o24], fun _ => ⟨by show 1 = made op ak; unfold made; rw [if_pos ⟨f, o24⟩], rfl⟩⟩
      · exact ⟨ak, bs, by simp -implicitDefEqProofs only [eqs, eqd, eqe, lh_some, ↓reduceIte, reduceCtorEq, Nat.reduceEqDiff, Nat.reduceAdd, Nat.reduceSub, Nat.reduceMul, Nat.reduceLT, Nat.reduceLeDiff, Nat.reduceBEq, Nat.reduceBNe, Nat.reduceGT, Int.reduceEq, Int.reduceLT, Int.reduceLE, Int.reduceToNat, Int.reduceAdd, Int.reduceSub, Int.reduceMul, Int.reduceNeg, Int.reduceBEq, Int.reduceBNe, b_fuglemanref14_behind, gs_fuglemanref14_behind, Ins.c, rc, hdeep, hdw, h1, c', f, must, n1, n2, n3, n4, n5, n6, n13, o7, o24], fun _ => ⟨by show ak = made op ak; unfold made; rw [if_neg (fun h => f h.1)], rfl⟩⟩
theorem rbeh_a (k : Nat) (a : Ah) (i : Ins) (at_ n : Int) (hb : BrIn a.bs) (ho : 1 ≤ i.op ∧ i.op ≤ 36) (hj : 25 ≤ i.op ∧ i.op ≤ 27 → at_ < i.at_ ∧ i.at_ ≤ n) : RBeh k a i at_ n := by
  have h : ((7 ≤ i.op ∧ i.op ≤ 12) ∨ (14 ≤ i.op ∧ i.op ≤ 24)) ∨ i.op = 1 ∨ i.op = 2 ∨ i.op = 3 ∨ i.op = 4 ∨ i.op = 5 ∨ i.op = 6 ∨ i.op = 13 ∨ i.op = 25 ∨ i.op = 26 ∨ i.op = 27 ∨ i.op = 28 ∨ i.op = 29 ∨ i.op = 30 ∨ i.op = 31 ∨ i.op = 32 ∨ i.op = 33 ∨ i.op = 34 ∨ i.op = 35 ∨ i.op = 36 := by omega
  rcases h with h | h | h | h | h | h | h | h | h | h | h | h | h | h | h | h | h | h | h | h
  · exact rbeh_0 k a i at_ n hb h
  · exact rbeh_1 k a i at_ n hb h
  · exact rbeh_2 k a i at_ n hb h
  · exact rbeh_3 k a i at_ n hb h
  · exact rbeh_4 k a i at_ n hb h
  · exact rbeh_5 k a i at_ n hb h
  · exact rbeh_6 k a i at_ n hb h
  · exact rbeh_13 k a i at_ n hb h
  · exact rbeh_25 k a i at_ n hb h (hj (by omega))
  · exact rbeh_26 k a i at_ n hb h (hj (by omega))
  · exact rbeh_27 k a i at_ n hb h (hj (by omega))
  · exact rbeh_28 k a i at_ n hb h
  · exact rbeh_29 k a i at_ n hb h
  · exact rbeh_30 k a i at_ n hb h
  · exact rbeh_31 k a i at_ n hb h
  · exact rbeh_32 k a i at_ n hb h
  · exact rbeh_33 k a i at_ n hb h
  · exact rbeh_34 k a i at_ n hb h
  · exact rbeh_35 k a i at_ n hb h
  · exact rbeh_36 k a i at_ n hb h
theorem rbeh_jump (k : Nat) (a : Ah) (i : Ins) (at_ n : Int) (hb : BrIn a.bs) (ho : 25 ≤ i.op ∧ i.op ≤ 27) (hj : ¬ (at_ < i.at_ ∧ i.at_ ≤ n)) : ∃ k' bs', acall T (k + 5) 29 0 [.agg i.c, .v (.int .i64 at_), .v (.int .i64 n), .agg (rc a.k a.bs)] [] = some ⟨.tup [.agg (rc k' bs'), .v (.int .i64 7)], [], 1⟩ := by
  rw [acall_go (body := b_fuglemanref14_behind) rfl rfl (Nat.zero_le _)]
  obtain ⟨op, ik, ar, ia, nn⟩ := i
  obtain ⟨ak, an, bs⟩ := a
  have hl := hb.1
  simp only at hl ho hj ⊢
  have hdeep : ((enc bs).size : Int).tdiv 2 = bs.length := by rw [enc_size, Int.tdiv_eq_ediv_of_nonneg (by omega)]; omega
  have hdw : IntKind.i64.wrap (bs.length : Int) = bs.length := w64 (by omega) (by omega)
  refine ⟨ak, bs, ?_⟩
  have n1 : (op == 1) = false := by rw [beq_eq_false_iff_ne]; omega
  have n2 : (op == 2) = false := by rw [beq_eq_false_iff_ne]; omega
  have n3 : (op == 3) = false := by rw [beq_eq_false_iff_ne]; omega
  have n4 : (op == 4) = false := by rw [beq_eq_false_iff_ne]; omega
  have n5 : (op == 5) = false := by rw [beq_eq_false_iff_ne]; omega
  have n6 : (op == 6) = false := by rw [beq_eq_false_iff_ne]; omega
  have n13 : (op == 13) = false := by rw [beq_eq_false_iff_ne]; omega
  have o1 : ¬ op ≤ 24 := by omega
  have o2 : 7 ≤ op := by omega
  by_cases c : ia ≤ at_
  · simp -implicitDefEqProofs only [eqs, eqd, eqe, lh_some, ↓reduceIte, reduceCtorEq, Nat.reduceEqDiff, Nat.reduceAdd, Nat.reduceSub, Nat.reduceMul, Nat.reduceLT, Nat.reduceLeDiff, Nat.reduceBEq, Nat.reduceBNe, Nat.reduceGT, Int.reduceEq, Int.reduceLT, Int.reduceLE, Int.reduceToNat, Int.reduceAdd, Int.reduceSub, Int.reduceMul, Int.reduceNeg, Int.reduceBEq, Int.reduceBNe, b_fuglemanref14_behind, gs_fuglemanref14_behind, Ins.c, rc, hdeep, hdw, ho.1, ho.2, o1, o2, c, n1, n2, n3, n4, n5, n6, n13]
  · have c2 : n < ia := by omega
    simp -implicitDefEqProofs only [eqs, eqd, eqe, lh_some, ↓reduceIte, reduceCtorEq, Nat.reduceEqDiff, Nat.reduceAdd, Nat.reduceSub, Nat.reduceMul, Nat.reduceLT, Nat.reduceLeDiff, Nat.reduceBEq, Nat.reduceBNe, Nat.reduceGT, Int.reduceEq, Int.reduceLT, Int.reduceLE, Int.reduceToNat, Int.reduceAdd, Int.reduceSub, Int.reduceMul, Int.reduceNeg, Int.reduceBEq, Int.reduceBNe, b_fuglemanref14_behind, gs_fuglemanref14_behind, Ins.c, rc, hdeep, hdw, ho.1, ho.2, o1, o2, c, c2, n1, n2, n3, n4, n5, n6, n13]
end Go.Proofs.Ythkjiclplecljaa.Ver

/- A table of pointers to objects of which none leads any further: what can be reached, and the new numbers. -/
namespace Go.Proofs.Ythkjiclplecljaa.Ver
open Go Go.Proofs.Ythkjiclplecljaa.Sym
set_option linter.unusedVariables false
set_option linter.unusedSimpArgs false
def nilp : AV := .v (.pointer none)
/-- A table's cells, its pointers one behind the other. -/
def tcl : List Nat → List (Option Ah) → List AV
  | _, [] => []
  | ps, none :: r => nilp :: tcl ps r
  | p :: ps, some _ :: r => .ptr p 0 :: tcl ps r
  | [], some _ :: r => nilp :: tcl [] r
/-- Those that there are. -/
def som (t : List (Option Ah)) : List Ah := t.filterMap id
theorem som_none {t : List (Option Ah)} : som (none :: t) = som t := rfl
theorem som_some {a : Ah} {t : List (Option Ah)} : som (some a :: t) = a :: som t := rfl
theorem tcl_len : ∀ (ps : List Nat) (t : List (Option Ah)), (tcl ps t).length = t.length
  | _, [] => rfl
  | ps, none :: r => by rw [tcl, List.length_cons, List.length_cons, tcl_len]
  | p :: ps, some _ :: r => by rw [tcl, List.length_cons, List.length_cons, tcl_len]
  | [], some _ :: r => by rw [tcl, List.length_cons, List.length_cons, tcl_len]
theorem tcl_refs : ∀ (ps : List Nat) (t : List (Option Ah)), ps.length = (som t).length → (tcl ps t).flatMap refs0 = ps
  | [], [], _ => rfl
  | p :: ps, [], h => by cases h
  | ps, none :: r, h => by
    rw [tcl, List.flatMap_cons, tcl_refs ps r h]
    rfl
  | p :: ps, some a :: r, h => by
    rw [tcl, List.flatMap_cons, tcl_refs ps r (by simpa [som_some] using h)]
    rfl
  | [], some a :: r, h => by simp [som_some] at h
theorem tcl_ren (g : Nat → Nat) : ∀ (ps : List Nat) (t : List (Option Ah)), (tcl ps t).map (ren0 g) = tcl (ps.map g) t
  | _, [] => by rw [tcl, tcl]; rfl
  | ps, none :: r => by rw [tcl, tcl, List.map_cons, tcl_ren g ps r]; rfl
  | p :: ps, some _ :: r => by rw [tcl, List.map_cons, tcl_ren g ps r, List.map_cons, tcl]; rfl
  | [], some _ :: r => by rw [tcl, List.map_cons, tcl_ren g [] r]; rfl
theorem tcl_atom : ∀ (ps : List Nat) (t : List (Option Ah)), (tcl ps t).all atom = true
  | _, [] => by rw [tcl]; rfl
  | ps, none :: r => by rw [tcl, List.all_cons, tcl_atom ps r]; rfl
  | p :: ps, some _ :: r => by rw [tcl, List.all_cons, tcl_atom ps r]; rfl
  | [], some _ :: r => by rw [tcl, List.all_cons, tcl_atom [] r]; rfl
/-- How many there are ahead of one. -/
def cnt (t : List (Option Ah)) (i : Nat) : Nat := (som (t.take i)).length
theorem tcl_none : ∀ (ps : List Nat) (t : List (Option Ah)) (i : Nat), t[i]? = some none → (tcl ps t)[i]? = some nilp
  | _, [], i, h => by simp at h
  | ps, none :: r, 0, h => by rw [tcl]; rfl
  | ps, none :: r, i + 1, h => by rw [tcl, List.getElem?_cons_succ]; exact tcl_none ps r i (by simpa using h)
  | p :: ps, some _ :: r, 0, h => by simp at h
  | p :: ps, some _ :: r, i + 1, h => by rw [tcl, List.getElem?_cons_succ]; exact tcl_none ps r i (by simpa using h)
  | [], some _ :: r, 0, h => by simp at h
  | [], some _ :: r, i + 1, h => by rw [tcl, List.getElem?_cons_succ]; exact tcl_none [] r i (by simpa using h)
theorem tcl_some : ∀ (ps : List Nat) (t : List (Option Ah)) (i : Nat) (a : Ah), ps.length = (som t).length → t[i]? = some (some a) → ∃ p, ps[cnt t i]? = some p ∧ (tcl ps t)[i]? = some (.ptr p 0) ∧ (som t)[cnt t i]? = some a
  | _, [], i, a, _, h => by simp at h
  | ps, none :: r, 0, a, _, h => by simp at h
  | ps, none :: r, i + 1, a, hl, h => by
    obtain ⟨p, h1, h2, h3⟩ := tcl_some ps r i a hl (by simpa using h)
    exact ⟨p, h1, by rw [tcl]; exact h2, h3⟩
  | p :: ps, some b :: r, 0, a, hl, h => by
    obtain rfl : b = a := by simpa using h
    exact ⟨p, rfl, by rw [tcl]; rfl, rfl⟩
  | p :: ps, some b :: r, i + 1, a, hl, h => by
    obtain ⟨q, h1, h2, h3⟩ := tcl_some ps r i a (by simpa [som_some] using hl) (by simpa using h)
    have e : cnt (some b :: r) (i + 1) = cnt r i + 1 := by simp [cnt, som_some]
    exact ⟨q, by rw [e]; exact h1, by rw [tcl]; exact h2, by rw [e, som_some]; exact h3⟩
  | [], some b :: r, i, a, hl, h => by simp [som_some] at hl
/-- A new one. -/
theorem tcl_new : ∀ (ps : List Nat) (t : List (Option Ah)) (i : Nat) (a : Ah) (q : Nat), ps.length = (som t).length → t[i]? = some none → (tcl ps t).set i (.ptr q 0) = tcl (ps.take (cnt t i) ++ q :: ps.drop (cnt t i)) (t.set i (some a)) ∧ som (t.set i (some a)) = (som t).take (cnt t i) ++ a :: (som t).drop (cnt t i)
  | _, [], i, a, q, _, h => by simp at h
  | ps, none :: r, 0, a, q, hl, h => by
    have e : cnt (none :: r) 0 = 0 := rfl
    rw [e, tcl, List.set_cons_zero, List.set_cons_zero, List.take_zero, List.nil_append, List.drop_zero, tcl]
    exact ⟨rfl, rfl⟩
  | ps, none :: r, i + 1, a, q, hl, h => by
    obtain ⟨h1, h2⟩ := tcl_new ps r i a q hl (by simpa using h)
    have e : cnt (none :: r) (i + 1) = cnt r i := rfl
    rw [e, tcl, List.set_cons_succ, List.set_cons_succ, h1, som_none, som_none, h2]
    refine ⟨?_, rfl⟩
    rw [tcl]
  | p :: ps, some b :: r, 0, a, q, hl, h => by simp at h
  | p :: ps, some b :: r, i + 1, a, q, hl, h => by
    obtain ⟨h1, h2⟩ := tcl_new ps r i a q (by simpa [som_some] using hl) (by simpa using h)
    have e : cnt (some b :: r) (i + 1) = cnt r i + 1 := by simp [cnt, som_some]
    rw [e, tcl, List.set_cons_succ, List.set_cons_succ, h1, som_some, som_some, h2]
    exact ⟨rfl, rfl⟩
  | [], some b :: r, i, a, q, hl, h => by simp [som_some] at hl
/-- Another one in the place of one. -/
theorem tcl_put : ∀ (ps : List Nat) (t : List (Option Ah)) (i : Nat) (a b : Ah), t[i]? = some (some a) → tcl ps (t.set i (some b)) = tcl ps t ∧ som (t.set i (some b)) = (som t).set (cnt t i) b
  | _, [], i, a, b, h => by simp at h
  | ps, none :: r, 0, a, b, h => by simp at h
  | ps, none :: r, i + 1, a, b, h => by
    obtain ⟨h1, h2⟩ := tcl_put ps r i a b (by simpa using h)
    rw [List.set_cons_succ, tcl, tcl, h1, som_none, som_none, h2]
    exact ⟨rfl, rfl⟩
  | p :: ps, some c :: r, 0, a, b, h => by
    rw [List.set_cons_zero, tcl, tcl]
    exact ⟨rfl, rfl⟩
  | p :: ps, some c :: r, i + 1, a, b, h => by
    obtain ⟨h1, h2⟩ := tcl_put ps r i a b (by simpa using h)
    have e : cnt (some c :: r) (i + 1) = cnt r i + 1 := by simp [cnt, som_some]
    rw [List.set_cons_succ, tcl, tcl, h1, som_some, som_some, h2, e]
    exact ⟨rfl, rfl⟩
  | [], some c :: r, 0, a, b, h => by
    rw [List.set_cons_zero, tcl, tcl]
    exact ⟨rfl, rfl⟩
  | [], some c :: r, i + 1, a, b, h => by
    obtain ⟨h1, h2⟩ := tcl_put [] r i a b (by simpa using h)
    have e : cnt (some c :: r) (i + 1) = cnt r i + 1 := by simp [cnt, som_some]
    rw [List.set_cons_succ, tcl, tcl, h1, som_some, som_some, h2, e]
    exact ⟨rfl, rfl⟩
/-- What flat objects lead to. -/
theorem reach_flat {Ω : List Sym.Obj} : ∀ (ks seen : List Nat) (f : Nat), (∀ k ∈ ks, ∃ o, Ω[k]? = some o ∧ o.flat = true) → ks.Nodup → (∀ k ∈ ks, k ∉ seen) → ks.length < f → reach Ω f ks seen = some (seen ++ ks)
  | [], seen, f, _, _, _, hf => by
    obtain ⟨f, rfl⟩ : ∃ g, f = g + 1 := ⟨f - 1, by simp at hf; omega⟩
    rw [reach, List.append_nil]
  | k :: ks, seen, f, h, hd, hs, hf => by
    obtain ⟨f, rfl⟩ : ∃ g, f = g + 1 := ⟨f - 1, by simp at hf; omega⟩
    obtain ⟨o, ho, hfl⟩ := h k (by simp)
    have hc : seen.contains k = false := by simpa using hs k (by simp)
    rw [reach, hc, if_neg (by decide), ho]
    simp only [hfl, if_true, ite_self, List.append_nil]
    rw [reach_flat ks (seen ++ [k]) f (fun j hj => h j (by simp [hj])) (List.nodup_cons.1 hd).2 (fun j hj => by
      rw [List.mem_append, List.mem_singleton, not_or]
      exact ⟨hs j (by simp [hj]), fun e => (List.nodup_cons.1 hd).1 (e ▸ hj)⟩) (by simp at hf; omega), List.append_assoc]
    rfl
/-- A table in memory, at the number 0. -/
structure HasT (Ω : List Sym.Obj) (ps : List Nat) (t : List (Option Ah)) (fr : Bool) : Prop where
  tab : ∃ f, Ω[0]? = some ⟨true, f, false, tcl ps t⟩ ∧ (fr = true → f = true)
  len : ps.length = (som t).length
  obj : ∀ (j : Nat) p a, ps[j]? = some p → (som t)[j]? = some a → ∃ f, Ω[p]? = some ⟨true, f, true, a.c⟩ ∧ (fr = true → f = true)
  nodup : ps.Nodup
  zero : 0 ∉ ps
  small : ps.length ≤ 300
theorem HasT.reach {Ω : List Sym.Obj} {ps : List Nat} {t : List (Option Ah)} {fr : Bool} (h : HasT Ω ps t fr) : reach Ω 400 [0] [] = some (0 :: ps) := by
  show Sym.reach Ω (399 + 1) [0] [] = _
  obtain ⟨f0, ht, _⟩ := h.tab
  rw [Sym.reach, List.contains_nil, if_neg (by decide), ht]
  simp only [if_true, Bool.false_eq_true, if_false, List.nil_append]
  rw [tcl_refs _ _ h.len, reach_flat ps [0] 399 (fun k hk => ?_) h.nodup (fun k hk => ?_) (by have := h.small; omega)]
  · rfl
  · obtain ⟨j, hj⟩ := List.mem_iff_getElem?.1 hk
    have hlt := (List.getElem?_eq_some_iff.1 hj).1
    obtain ⟨f, hf, _⟩ := h.obj j k _ hj (List.getElem?_eq_getElem (by rw [← h.len]; exact hlt))
    exact ⟨_, hf, rfl⟩
  · rw [List.mem_singleton]
    intro e
    exact h.zero (e ▸ hk)
theorem pos_list {ps : List Nat} (hd : ps.Nodup) (h0 : 0 ∉ ps) : ps.map (pos (0 :: ps)) = List.range' 1 ps.length := by
  apply List.ext_getElem?
  intro j
  rw [List.getElem?_map]
  by_cases c : j < ps.length
  · rw [List.getElem?_eq_getElem c, List.getElem?_range' c]
    have hne : ps[j] ≠ 0 := fun e => h0 (e ▸ List.getElem_mem c)
    show some (List.idxOf ps[j] (0 :: ps)) = _
    rw [List.idxOf_cons, show ((0 : Nat) == ps[j]) = false by rw [beq_eq_false_iff_ne]; exact fun e => hne e.symm, cond_false, hd.idxOf_getElem j c]
    congr 1
    omega
  · rw [List.getElem?_eq_none (by omega), List.getElem?_eq_none (by simp; omega)]
    rfl
/-- The table as it stands where it is handed over. -/
def canT (t : List (Option Ah)) (fr : Bool) : List Sym.Obj := ⟨true, fr, false, tcl (List.range' 1 (som t).length) t⟩ :: (som t).map fun a => ⟨true, fr, true, a.c⟩
theorem HasT.sub {Ω : List Sym.Obj} {ps : List Nat} {t : List (Option Ah)} {fr : Bool} (h : HasT Ω ps t fr) (keep : Bool) (hk : keep = true → fr = true) : sub Ω (0 :: ps) keep = canT t (fr && keep) := by
  have hf : ∀ f, (fr = true → f = true) → (f && keep) = (fr && keep) := fun f hf => by
    cases keep
    · rw [Bool.and_false, Bool.and_false]
    · rw [hk rfl, hf (hk rfl)]
  obtain ⟨f0, ht, hf0⟩ := h.tab
  unfold Sym.sub canT
  rw [List.map_cons]
  have e0 : Ω.getD 0 dead0 = ⟨true, f0, false, tcl ps t⟩ := by rw [List.getD_eq_getElem?_getD, ht]; rfl
  rw [e0, ← hf f0 hf0]
  congr 1
  · simp only [renO, if_true, Bool.false_eq_true, if_false]
    rw [tcl_ren, pos_list h.nodup h.zero, h.len]
  · apply List.ext_getElem?
    intro j
    rw [List.getElem?_map, List.getElem?_map]
    by_cases c : j < ps.length
    · have c' : j < (som t).length := by rw [← h.len]; exact c
      obtain ⟨f1, ho, hf1⟩ := h.obj j _ _ (List.getElem?_eq_getElem c) (List.getElem?_eq_getElem c')
      rw [List.getElem?_eq_getElem c, List.getElem?_eq_getElem c']
      have e1 : Ω.getD ps[j] dead0 = ⟨true, f1, true, ((som t)[j]).c⟩ := by rw [List.getD_eq_getElem?_getD, ho]; rfl
      simp only [Option.map_some, e1, renO, if_true]
      rw [hf f0 hf0, hf f1 hf1]
    · rw [List.getElem?_eq_none (by omega), List.getElem?_eq_none (by rw [← h.len]; omega)]
      rfl
theorem canT_has (t : List (Option Ah)) (fr : Bool) (hs : (som t).length ≤ 300) : HasT (canT t fr) (List.range' 1 (som t).length) t fr where
  tab := ⟨fr, rfl, id⟩
  len := by simp
  obj := fun j p a hp ha => by
    have hj := (List.getElem?_eq_some_iff.1 ha).1
    rw [List.getElem?_range' hj] at hp
    obtain rfl := Option.some.inj hp
    unfold canT
    rw [show 1 + 1 * j = j + 1 by omega, List.getElem?_cons_succ, List.getElem?_map, ha]
    exact ⟨fr, rfl, id⟩
  nodup := List.nodup_range'
  zero := by simp
  small := by simpa using hs
theorem cnt_le (t : List (Option Ah)) (i : Nat) : cnt t i ≤ (som t).length := ((List.take_sublist i t).filterMap id).length_le
/-- With a new one, which lies at q. -/
theorem HasT.new {Ω : List Sym.Obj} {ps : List Nat} {t : List (Option Ah)} {fr : Bool} (h : HasT Ω ps t fr) {i q : Nat} {a : Ah} (hi : t[i]? = some none) {Ω' : List Sym.Obj} (h0 : ∃ f, Ω'[0]? = some ⟨true, f, false, (tcl ps t).set i (.ptr q 0)⟩ ∧ (fr = true → f = true)) (hs : ∀ p ∈ ps, Ω'[p]? = Ω[p]?) (hq : ∃ f, Ω'[q]? = some ⟨true, f, true, a.c⟩ ∧ (fr = true → f = true)) (hq0 : q ≠ 0) (hqp : q ∉ ps) (hsm : ps.length < 300) :
    HasT Ω' (ps.take (cnt t i) ++ q :: ps.drop (cnt t i)) (t.set i (some a)) fr := by
  obtain ⟨e1, e2⟩ := tcl_new ps t i a q h.len hi
  have hc := cnt_le t i
  have hl := h.len
  generalize cnt t i = c at *
  refine ⟨?_, ?_, fun j p b hp hb => ?_, ?_, ?_, ?_⟩
  · obtain ⟨f, h1, h2⟩ := h0
    exact ⟨f, by rw [h1, e1], h2⟩
  · rw [e2]; simp; omega
  · rw [e2] at hb
    have l1 : (ps.take c).length = c := by rw [List.length_take]; omega
    have l2 : ((som t).take c).length = c := by rw [List.length_take]; omega
    rcases Nat.lt_trichotomy j c with hj | hj | hj
    · rw [List.getElem?_append_left (by omega), List.getElem?_take_of_lt hj] at hp hb
      rw [hs p (List.mem_of_getElem? hp)]
      exact h.obj j p b hp hb
    · subst hj
      rw [List.getElem?_append_right (by omega), l1, Nat.sub_self] at hp
      rw [List.getElem?_append_right (by omega), l2, Nat.sub_self] at hb
      obtain rfl : q = p := by simpa using hp
      obtain rfl : a = b := by simpa using hb
      exact hq
    · obtain ⟨d, hd⟩ : ∃ d, j = c + (d + 1) := ⟨j - c - 1, by omega⟩
      rw [List.getElem?_append_right (by omega), l1, hd, show c + (d + 1) - c = d + 1 by omega, List.getElem?_cons_succ, List.getElem?_drop] at hp
      rw [List.getElem?_append_right (by omega), l2, hd, show c + (d + 1) - c = d + 1 by omega, List.getElem?_cons_succ, List.getElem?_drop] at hb
      rw [hs p (List.mem_of_getElem? hp)]
      exact h.obj _ p b hp hb
  · rw [List.perm_middle.nodup_iff, List.take_append_drop, List.nodup_cons]
    exact ⟨hqp, h.nodup⟩
  · intro hm
    have := (List.perm_middle (l₁ := ps.take c) (a := q) (l₂ := ps.drop c)).mem_iff.1 hm
    rw [List.take_append_drop, List.mem_cons] at this
    rcases this with e | e
    · exact hq0 e.symm
    · exact h.zero e
  · simp; omega
/-- With another one in the place of one. -/
theorem HasT.put {Ω : List Sym.Obj} {ps : List Nat} {t : List (Option Ah)} {fr : Bool} (h : HasT Ω ps t fr) {i : Nat} {a b : Ah} (hi : t[i]? = some (some a)) {p : Nat} (hp : ps[cnt t i]? = some p) {Ω' : List Sym.Obj} (hs : ∀ q, q ≠ p → Ω'[q]? = Ω[q]?) (hb : ∃ f, Ω'[p]? = some ⟨true, f, true, b.c⟩ ∧ (fr = true → f = true)) : HasT Ω' ps (t.set i (some b)) fr := by
  obtain ⟨e1, e2⟩ := tcl_put ps t i a b hi
  have hp0 : p ≠ 0 := fun e => h.zero (e ▸ List.mem_of_getElem? hp)
  refine ⟨?_, ?_, fun j q c hq hc => ?_, h.nodup, h.zero, h.small⟩
  · obtain ⟨f, h1, h2⟩ := h.tab
    exact ⟨f, by rw [hs 0 (fun e => hp0 e.symm), h1, e1], h2⟩
  · rw [e2, List.length_set, h.len]
  · rw [e2] at hc
    by_cases hj : j = cnt t i
    · subst hj
      rw [hp] at hq
      cases hq
      rw [List.getElem?_set] at hc
      simp only [if_true] at hc
      split at hc
      · cases hc; exact hb
      · cases hc
    · rw [List.getElem?_set, if_neg (fun e => hj e.symm)] at hc
      have hne : q ≠ p := by
        rintro rfl
        obtain ⟨l1, g1⟩ := List.getElem?_eq_some_iff.1 hq
        obtain ⟨l2, g2⟩ := List.getElem?_eq_some_iff.1 hp
        exact hj ((List.getElem_inj h.nodup).1 (g1.trans g2.symm))
      rw [hs q hne]
      exact h.obj j q c hq hc
end Go.Proofs.Ythkjiclplecljaa.Ver

/- Brackets compared. -/
namespace Go.Proofs.Ythkjiclplecljaa.Ver
open Go Go.Proofs.Ythkjiclplecljaa.Sym Go.Proofs.Ythkjiclplecljaa.Tab
set_option linter.unusedVariables false
set_option linter.unusedSimpArgs false
set_option maxHeartbeats 4000000
set_option maxRecDepth 20000
theorem brs_get : ∀ (bs : List (Int × Int)) (i : Nat) (h : i < bs.length), ((brs bs).drop (i * 2)).take 2 = [.v (.int .i64 bs[i].1), .v (.int .i64 bs[i].2)]
  | p :: bs, 0, _ => rfl
  | p :: bs, i + 1, h => by
    have ih := brs_get bs i (by simpa using h)
    rw [show (i + 1) * 2 = i * 2 + 2 by omega]
    exact ih
theorem eq_loop (C : CT) (lf : Nat) (bs cs : List (Int × Int)) (hlen : bs.length = cs.length) (hl : bs.length ≤ 8) : ∀ (n i d : Nat), i ≤ bs.length → bs.length - i ≤ n → d ≤ 1 →
    FnR [.t 4] false false (Lh C lf (some ⟨[(0, .shr bs.length false (brs bs)), (1, .shr cs.length false (brs cs)), (12, .v (.int .i64 bs.length)), (13, .v (.int .i64 i))], [], d, []⟩) [0, 1, 12, 13] l_verify_bracket_87_0 n [.b 0, .c l_verify_bracket_87_1]) = some ⟨.v (.bool (decide (bs.drop i = cs.drop i))), [], if i < bs.length then 1 else d⟩
  | n, i, d, hi, hn, hd => by
    rw [lh_as l_verify_bracket_87_0.eq_1]
    by_cases c : i < bs.length
    · obtain ⟨n, rfl⟩ : ∃ m, n = m + 1 := ⟨n - 1, by omega⟩
      have c' : (i : Int) < bs.length := by omega
      have c2 : (i : Int) < cs.length := by omega
      have c0 : (0 : Int) ≤ i := by omega
      have g1 := brs_get bs i c
      have g2 := brs_get cs i (by omega)
      have l1 : i * 2 + 2 ≤ bs.length * 2 := by omega
      have l2 : i * 2 + 2 ≤ cs.length * 2 := by omega
      have w : IntKind.i64.wrap ((i : Int) + 1) = i + 1 := w64 (by omega) (by omega)
      have dr1 : bs.drop i = bs[i] :: bs.drop (i + 1) := List.drop_eq_getElem_cons c
      have dr2 : cs.drop i = cs[i] :: cs.drop (i + 1) := List.drop_eq_getElem_cons (by omega)
      rw [if_pos c, dr1, dr2]
      have hdd : d = 0 ∨ d = 1 := by omega
      by_cases e : bs[i] = cs[i]
      · have ih := eq_loop C lf bs cs hlen hl n (i + 1) 1 c (by omega) (Nat.le_refl 1)
        rw [Int.natCast_add, Int.natCast_one, ite_self] at ih
        have e' : decide (bs[i] :: bs.drop (i + 1) = cs[i] :: cs.drop (i + 1)) = decide (bs.drop (i + 1) = cs.drop (i + 1)) := by
          rw [e, decide_eq_decide, List.cons.injEq]
          exact ⟨fun h => h.2, fun h => ⟨rfl, h⟩⟩
        rw [e', ← ih]
        rw [← e] at g2
        have m1 : max 0 1 = 1 := rfl
        rcases hdd with rfl | rfl <;> simp -implicitDefEqProofs only [eqs, eqd, eqe, ↓reduceIte, reduceCtorEq, Nat.reduceEqDiff, Nat.reduceAdd, Nat.reduceSub, Nat.reduceMul, Nat.reduceLT, Nat.reduceLeDiff, Nat.reduceBEq, Nat.reduceBNe, Nat.reduceGT, Int.reduceEq, Int.reduceLT, Int.reduceLE, Int.reduceToNat, Int.reduceAdd, Int.reduceSub, Int.reduceMul, Int.reduceNeg, Int.reduceBEq, Int.reduceBNe, c', c2, c0, g1, g2, l1, l2, w, brs_len, Int.toNat_natCast, m1]
      · have e' : decide (bs[i] :: bs.drop (i + 1) = cs[i] :: cs.drop (i + 1)) = false := decide_eq_false (fun h => e (List.cons.inj h).1)
        rw [e']
        have f : (((bs[i].1 == cs[i].1) && (bs[i].2 == cs[i].2)) != true) = true := by
          cases h1 : (bs[i].1 == cs[i].1)
          · rfl
          · cases h2 : (bs[i].2 == cs[i].2)
            · rfl
            · exact absurd (Prod.ext (by simpa using h1) (by simpa using h2)) e
        generalize bs[i] = x at *
        generalize cs[i] = y at *
        have m1 : max 0 1 = 1 := rfl
        cases h1 : (x.1 == y.1)
        · rcases hdd with rfl | rfl <;> simp -implicitDefEqProofs only [eqs, eqd, eqe, ↓reduceIte, reduceCtorEq, Nat.reduceEqDiff, Nat.reduceAdd, Nat.reduceSub, Nat.reduceMul, Nat.reduceLT, Nat.reduceLeDiff, Nat.reduceBEq, Nat.reduceBNe, Nat.reduceGT, Int.reduceEq, Int.reduceLT, Int.reduceLE, Int.reduceToNat, Int.reduceAdd, Int.reduceSub, Int.reduceMul, Int.reduceNeg, Int.reduceBEq, Int.reduceBNe, c', c2, c0, g1, g2, l1, l2, w, brs_len, Int.toNat_natCast, m1, h1]
        · rw [h1, Bool.true_and] at f
          have h2 : (x.2 == y.2) = false := by cases h : (x.2 == y.2); rfl; rw [h] at f; cases f
          rcases hdd with rfl | rfl <;> simp -implicitDefEqProofs only [eqs, eqd, eqe, ↓reduceIte, reduceCtorEq, Nat.reduceEqDiff, Nat.reduceAdd, Nat.reduceSub, Nat.reduceMul, Nat.reduceLT, Nat.reduceLeDiff, Nat.reduceBEq, Nat.reduceBNe, Nat.reduceGT, Int.reduceEq, Int.reduceLT, Int.reduceLE, Int.reduceToNat, Int.reduceAdd, Int.reduceSub, Int.reduceMul, Int.reduceNeg, Int.reduceBEq, Int.reduceBNe, c', c2, c0, g1, g2, l1, l2, w, brs_len, Int.toNat_natCast, m1, h1, h2]
    · have c' : ¬ (i : Int) < bs.length := by omega
      have e1 : bs.drop i = [] := List.drop_eq_nil_of_le (by omega)
      have e2 : cs.drop i = [] := List.drop_eq_nil_of_le (by omega)
      rw [if_neg c, e1, e2]
      have hdd : d = 0 ∨ d = 1 := by omega
      rcases hdd with rfl | rfl <;> simp -implicitDefEqProofs only [eqs, eqd, eqe, ↓reduceIte, reduceCtorEq, Nat.reduceEqDiff, Nat.reduceAdd, Nat.reduceSub, Nat.reduceMul, Nat.reduceLT, Nat.reduceLeDiff, Nat.reduceBEq, Nat.reduceBNe, Nat.reduceGT, Int.reduceEq, Int.reduceLT, Int.reduceLE, Int.reduceToNat, Int.reduceAdd, Int.reduceSub, Int.reduceMul, Int.reduceNeg, Int.reduceBEq, Int.reduceBNe, l_verify_bracket_87_1, c']
theorem eq_a (k : Nat) (n m : Bool) (bs cs : List (Int × Int)) (h1 : n = true → bs = []) (h2 : m = true → cs = []) (hl : bs.length ≤ 8) (hl2 : cs.length ≤ 8) : ∃ d, d ≤ 1 ∧ acall T (k + 12) 87 0 [openA n bs, openA m cs] [] = some ⟨.v (.bool (decide (bs = cs))), [], d⟩ := by
  have lp : ∀ (ks : List It) (s : St), Lp (acall T (k + 11)) (k + 11) [0, 1, 12, 13] l_verify_bracket_87_0 (k + 11) ks s = Lh (acall T (k + 11)) (k + 11) (canon [0, 1, 12, 13] s) [0, 1, 12, 13] l_verify_bracket_87_0 (k + 10) ks := fun ks s => lp_succ (n := k + 10)
  by_cases c : bs.length = cs.length
  · cases n
    · cases m
      · have h := eq_loop (acall T (k + 11)) (k + 11) bs cs c hl (k + 10) 0 0 (Nat.zero_le _) (by omega) (Nat.zero_le _)
        refine ⟨if 0 < bs.length then 1 else 0, by split <;> omega, ?_⟩
        rw [acall_go (body := b_verify_bracket_87) rfl rfl (Nat.zero_le _)]
        have c' : ((bs.length : Int) != (cs.length : Int)) = false := by rw [c]; simp
        rw [List.drop_zero, List.drop_zero, Int.natCast_zero] at h
        rw [← h]
        simp only [openA, Bool.false_eq_true, if_false]
        simp -implicitDefEqProofs only [eqs, eqd, eqe, ↓reduceIte, reduceCtorEq, Nat.reduceEqDiff, Nat.reduceAdd, Nat.reduceSub, Nat.reduceMul, Nat.reduceLT, Nat.reduceLeDiff, Nat.reduceBEq, Nat.reduceBNe, Nat.reduceGT, Int.reduceEq, Int.reduceLT, Int.reduceLE, Int.reduceToNat, Int.reduceAdd, Int.reduceSub, Int.reduceMul, Int.reduceNeg, Int.reduceBEq, Int.reduceBNe, b_verify_bracket_87, c', lp]
      · obtain rfl := h2 rfl
        have : bs = [] := List.length_eq_zero_iff.1 c
        subst this
        refine ⟨0, Nat.zero_le _, ?_⟩
        rw [acall_go (body := b_verify_bracket_87) rfl rfl (Nat.zero_le _)]
        simp only [openA, Bool.false_eq_true, if_false, if_true]
        simp -implicitDefEqProofs only [eqs, eqd, eqe, lh_some, ↓reduceIte, reduceCtorEq, Nat.reduceEqDiff, Nat.reduceAdd, Nat.reduceSub, Nat.reduceMul, Nat.reduceLT, Nat.reduceLeDiff, Nat.reduceBEq, Nat.reduceBNe, Nat.reduceGT, Int.reduceEq, Int.reduceLT, Int.reduceLE, Int.reduceToNat, Int.reduceAdd, Int.reduceSub, Int.reduceMul, Int.reduceNeg, Int.reduceBEq, Int.reduceBNe, b_verify_bracket_87, l_verify_bracket_87_0, l_verify_bracket_87_1]
    · obtain rfl := h1 rfl
      have : cs = [] := List.length_eq_zero_iff.1 c.symm
      subst this
      refine ⟨0, Nat.zero_le _, ?_⟩
      rw [acall_go (body := b_verify_bracket_87) rfl rfl (Nat.zero_le _)]
      cases m
      · simp only [openA, Bool.false_eq_true, if_false, if_true]
        simp -implicitDefEqProofs only [eqs, eqd, eqe, lh_some, ↓reduceIte, reduceCtorEq, Nat.reduceEqDiff, Nat.reduceAdd, Nat.reduceSub, Nat.reduceMul, Nat.reduceLT, Nat.reduceLeDiff, Nat.reduceBEq, Nat.reduceBNe, Nat.reduceGT, Int.reduceEq, Int.reduceLT, Int.reduceLE, Int.reduceToNat, Int.reduceAdd, Int.reduceSub, Int.reduceMul, Int.reduceNeg, Int.reduceBEq, Int.reduceBNe, b_verify_bracket_87, l_verify_bracket_87_0, l_verify_bracket_87_1]
      · simp only [openA, Bool.false_eq_true, if_false, if_true]
        simp -implicitDefEqProofs only [eqs, eqd, eqe, lh_some, ↓reduceIte, reduceCtorEq, Nat.reduceEqDiff, Nat.reduceAdd, Nat.reduceSub, Nat.reduceMul, Nat.reduceLT, Nat.reduceLeDiff, Nat.reduceBEq, Nat.reduceBNe, Nat.reduceGT, Int.reduceEq, Int.reduceLT, Int.reduceLE, Int.reduceToNat, Int.reduceAdd, Int.reduceSub, Int.reduceMul, Int.reduceNeg, Int.reduceBEq, Int.reduceBNe, b_verify_bracket_87, l_verify_bracket_87_0, l_verify_bracket_87_1]
  · have hne : decide (bs = cs) = false := by simp; intro e; exact c (by rw [e])
    have c' : ((bs.length : Int) != (cs.length : Int)) = true := by simp; omega
    refine ⟨0, Nat.zero_le _, ?_⟩
    rw [hne, acall_go (body := b_verify_bracket_87) rfl rfl (Nat.zero_le _)]
    cases n
    · cases m
      · simp only [openA, Bool.false_eq_true, if_false]
        simp -implicitDefEqProofs only [eqs, eqd, eqe, lh_some, ↓reduceIte, reduceCtorEq, Nat.reduceEqDiff, Nat.reduceAdd, Nat.reduceSub, Nat.reduceMul, Nat.reduceLT, Nat.reduceLeDiff, Nat.reduceBEq, Nat.reduceBNe, Nat.reduceGT, Int.reduceEq, Int.reduceLT, Int.reduceLE, Int.reduceToNat, Int.reduceAdd, Int.reduceSub, Int.reduceMul, Int.reduceNeg, Int.reduceBEq, Int.reduceBNe, b_verify_bracket_87, c']
      · obtain rfl := h2 rfl
        rw [List.length_nil, Int.natCast_zero] at c'
        simp only [openA, Bool.false_eq_true, if_false, if_true]
        simp -implicitDefEqProofs only [eqs, eqd, eqe, lh_some, ↓reduceIte, reduceCtorEq, Nat.reduceEqDiff, Nat.reduceAdd, Nat.reduceSub, Nat.reduceMul, Nat.reduceLT, Nat.reduceLeDiff, Nat.reduceBEq, Nat.reduceBNe, Nat.reduceGT, Int.reduceEq, Int.reduceLT, Int.reduceLE, Int.reduceToNat, Int.reduceAdd, Int.reduceSub, Int.reduceMul, Int.reduceNeg, Int.reduceBEq, Int.reduceBNe, b_verify_bracket_87, c']
    · obtain rfl := h1 rfl
      rw [List.length_nil, Int.natCast_zero] at c'
      cases m
      · simp only [openA, Bool.false_eq_true, if_false, if_true]
        simp -implicitDefEqProofs only [eqs, eqd, eqe, lh_some, ↓reduceIte, reduceCtorEq, Nat.reduceEqDiff, Nat.reduceAdd, Nat.reduceSub, Nat.reduceMul, Nat.reduceLT, Nat.reduceLeDiff, Nat.reduceBEq, Nat.reduceBNe, Nat.reduceGT, Int.reduceEq, Int.reduceLT, Int.reduceLE, Int.reduceToNat, Int.reduceAdd, Int.reduceSub, Int.reduceMul, Int.reduceNeg, Int.reduceBEq, Int.reduceBNe, b_verify_bracket_87, c']
      · obtain rfl := h2 rfl
        exact absurd rfl c
end Go.Proofs.Ythkjiclplecljaa.Ver

/- One more leads to an instruction. -/
namespace Go.Proofs.Ythkjiclplecljaa.Ver
open Go Go.Proofs.Ythkjiclplecljaa.Sym Go.Proofs.Ythkjiclplecljaa.Tab
set_option linter.unusedVariables false
set_option linter.unusedSimpArgs false
set_option maxHeartbeats 4000000
set_option maxRecDepth 20000
theorem r0 (Ω : List Sym.Obj) : reach Ω 400 [] [] = some [] := rfl
theorem s0 (Ω : List Sym.Obj) (b : Bool) : sub Ω [] b = [] := rfl
theorem c_atom (a : Ah) : a.c.all atom = true := by obtain ⟨k, n, bs⟩ := a; cases n <;> rfl
def objs (t : List (Option Ah)) : List Sym.Obj := (som t).map fun a => ⟨true, false, true, a.c⟩
theorem canT_eq (t : List (Option Ah)) : canT t false = ⟨true, false, false, tcl (List.range' 1 (som t).length) t⟩ :: objs t := rfl
theorem objs_len (t : List (Option Ah)) : (objs t).length = (som t).length := by simp [objs]
theorem lead_new (k : Nat) (t : List (Option Ah)) (tgt : Nat) (hto : t[tgt]? = some none) (hs : (som t).length < 300) (a : Ah) :
    acall T (k + 14) 51 1 [.view 0 0 t.length 1 (some t.length), .v (.int .i64 tgt), .agg a.c] (canT t false) = some ⟨.v (.bool true), canT (t.set tgt (some a)) false, 2⟩ := by
  have hlt := (List.getElem?_eq_some_iff.1 hto).1
  rw [acall_go (body := b_verify_table_lead) rfl rfl (by rw [canT_eq]; show 1 ≤ _ + 1; omega)]
  have hcan := canT_has t false (by omega)
  rw [canT_eq] at hcan
  have ht := tcl_none (List.range' 1 (som t).length) t tgt hto
  have htl := tcl_len (List.range' 1 (som t).length) t
  have hta := tcl_atom (List.range' 1 (som t).length) t
  have c1 : (tgt : Int) < t.length := by omega
  have c0 : (0 : Int) ≤ tgt := by omega
  have c2 : tgt + 1 ≤ t.length := hlt
  have key : ∀ (fl : Bool) (B : List AV), B = a.c → HasT (⟨true, false, false, (tcl (List.range' 1 (som t).length) t).set tgt (.ptr ((objs t).length + 1) 0)⟩ :: (objs t ++ [⟨true, true, true, B⟩])) ((List.range' 1 (som t).length).take (cnt t tgt) ++ ((objs t).length + 1) :: (List.range' 1 (som t).length).drop (cnt t tgt)) (t.set tgt (some a)) false := fun fl B hB => by
    subst hB
    refine hcan.new hto ⟨false, rfl, id⟩ (fun p hp => ?_) ⟨true, ?_, fun _ => rfl⟩ (by omega) ?_ (by rw [List.length_range']; exact hs)
    · rw [List.mem_range'_1] at hp
      obtain ⟨p, rfl⟩ : ∃ q, p = q + 1 := ⟨p - 1, by omega⟩
      rw [List.getElem?_cons_succ, List.getElem?_cons_succ, List.getElem?_append_left (by rw [objs_len]; omega)]
    · rw [List.getElem?_cons_succ, List.getElem?_append_right (Nat.le_refl _), Nat.sub_self]
      rfl
    · rw [List.mem_range'_1, objs_len]
      omega
  have hk := key true _ rfl
  have hr := hk.reach
  have hsb := hk.sub false (fun h => by cases h)
  rw [Bool.false_and] at hsb
  generalize hP : (List.range' 1 (som t).length).take (cnt t tgt) ++ ((objs t).length + 1) :: (List.range' 1 (som t).length).drop (cnt t tgt) = P at *
  have hX : ∃ X, canT (t.set tgt (some a)) false = X := ⟨_, rfl⟩
  obtain ⟨X, hX⟩ := hX
  rw [hX] at hsb ⊢
  rw [canT_eq]
  generalize objs t = L at *
  generalize tcl (List.range' 1 (som t).length) t = tc at *
  obtain ⟨ak, an, bs⟩ := a
  cases an <;> simp only [Ah.c, openA, Bool.false_eq_true, if_false, if_true] at hr hsb ⊢ <;>
  simp -implicitDefEqProofs only [eqs, eqd, aCall, Sym.pos, ↓reduceIte, reduceCtorEq, Nat.reduceEqDiff, Nat.reduceAdd, Nat.reduceSub, Nat.reduceMul, Nat.reduceLT, Nat.reduceLeDiff, Nat.reduceBEq, Nat.reduceBNe, Nat.reduceGT, Int.reduceEq, Int.reduceLT, Int.reduceLE, Int.reduceToNat, Int.reduceAdd, Int.reduceSub, Int.reduceMul, Int.reduceNeg, Int.reduceBEq, Int.reduceBNe, b_verify_table_lead, gs_verify_table_lead, r0, s0, nilp, ht, htl, hta, c0, c1, c2, hr, hsb, Int.toNat_natCast, List.length_set, Nat.add_comm 1]
end Go.Proofs.Ythkjiclplecljaa.Ver
