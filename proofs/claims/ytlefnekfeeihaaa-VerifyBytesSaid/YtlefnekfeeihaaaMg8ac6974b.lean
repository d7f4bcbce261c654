/- The program's all: an instruction that leads on. -/
import Derived.Test.YtlefnekfeeihaaaProg
import Derived.KernelRfl
import Derived.Test.YtlefnekfeeihaaaMg673b424e
import Derived.Test.YtlefnekfeeihaaaMgb6d58f5e
import Derived.Test.YtlefnekfeeihaaaMg0d7e18fc
namespace Go.Proofs.Ytlefnekfeeihaaa.Ver
open Go Go.Proofs.Ytlefnekfeeihaaa.Sym Go.Proofs.Ytlefnekfeeihaaa.Tab
set_option linter.unusedVariables false
set_option linter.unusedSimpArgs false
set_option maxHeartbeats 4000000
set_option maxRecDepth 20000
theorem after_X (t t' : List (Option Ah)) (hs : (som t).length ≤ 300) (o7 o8 : Sym.Obj) : (after (canT t true ++ [o7] ++ [o8]) (List.range' 1 (som t).length) t')[(canT t true).length]? = some o7 ∧ (after (canT t true ++ [o7] ++ [o8]) (List.range' 1 (som t).length) t')[(canT t true ++ [o7]).length]? = some o8 := by
  have hl := canT_len t true
  constructor
  · rw [after_other (by omega) (by rw [List.mem_range'_1]; omega) (by simp)]
    exact wz3 _ _ _
  · rw [after_other (by simp) (by rw [List.mem_range'_1, List.length_append]; simp; omega) (by simp)]
    exact wz1 _ _
theorem has_more2 (t : List (Option Ah)) (hs : (som t).length ≤ 300) (o7 o8 : Sym.Obj) : HasT (canT t true ++ [o7] ++ [o8]) (List.range' 1 (som t).length) t true := by
  rw [List.append_assoc]
  exact has_more t hs _
theorem all_on (k lf : Nat) (L : List Ins) (hL : L.length ≤ 200) (t : List (Option Ah)) (hA : AllIn t) (hlen : t.length = L.length + 1) (i : Nat) (hi : i < L.length) (hr : right L[i] = true) (a : Ah) (hx : t[i]? = some (some a)) (b : Ah) (hbi : b.In) (on : onI L[i] = true) (jm : jmp L[i] = false)
    (hb : acall T (k + 16) 28 0 [.agg a.c, .agg L[i].c] [] = some ⟨.tup [.agg b.c, .v (.int .i64 0)], [], 1⟩) (N : Nat) :
    ((lead1 t (i + 1) b).2 = true → pfin k lf L t i (N + 1) = pfin k lf L (lead1 t (i + 1) b).1 (i + 1) N) ∧
    ((lead1 t (i + 1) b).2 = false → pfin k lf L t i (N + 1) = some ⟨.tup [.v (.slice none 0 0), .v (.int .i64 7), .v (.int .i64 i)], [], 1⟩) := by
  have c1 : (i : Int) < L.length := by omega
  have c0 : (0 : Int) ≤ i := by omega
  have c2 : (i : Int) < ((L.length + 1 : Nat) : Int) := by omega
  have w : IntKind.i64.wrap ((i : Int) + 1) = i + 1 := w64 (by omega) (by omega)
  have h5 := ins_at L i hi
  have l5 : i * 5 + 5 ≤ L.length * 5 := by omega
  have hri := right_a (k + 11) L[i]
  rw [hr] at hri
  have hja := jumps_a (k + 15) L[i]
  rw [jm] at hja
  have hoa := on_a (k + 15) L[i]
  rw [on] at hoa
  have hri := flat_call hri
  have hja := flat_call hja
  have hoa := flat_call hoa
  have hs := som_le t
  have hs1 := som_le (lead1 t (i + 1) b).1
  rw [lead1_len] at hs1
  obtain ⟨p, hp, ht, hso⟩ := tcl_some (List.range' 1 (som t).length) t i a (by simp) hx
  have htl := tcl_len (List.range' 1 (som t).length) t
  rw [hlen] at htl
  have l1 : i + 1 ≤ L.length + 1 := by omega
  have m3 := more_tab t
  have m4 := more_obj t (by omega) hp hso
  have hT := has_more2 t (by omega) ⟨true, true, true, L[i].c⟩ ⟨true, true, true, b.c⟩
  have hld := lead1_call (k + 2) hT (i + 1) (by omega) (by omega) hA b hbi
  rw [hlen] at hld
  have hX := after_X t (lead1 t (i + 1) b).1 (by omega) ⟨true, true, true, L[i].c⟩ ⟨true, true, true, b.c⟩
  have hT2 := after_has (t' := (lead1 t (i + 1) b).1) hT (by omega) (by simp)
  have hX7 := hX.1
  have q1 := hT2.reach
  have q2 := hT2.sub true (fun _ => rfl)
  rw [Bool.and_true] at q2
  clear hx hp hso hT hT2 hX
  unfold pfin pst penv plive
  rw [lh_as l_verify_all_0.eq_1]
  generalize (lead1 t (i + 1) b).1 = t' at *
  generalize (lead1 t (i + 1) b).2 = r at *
  generalize L[i] = ins at *
  generalize hM : L.length + 1 = M at *
  generalize after (canT t true ++ [(⟨true, true, true, ins.c⟩ : Sym.Obj)] ++ [(⟨true, true, true, b.c⟩ : Sym.Obj)]) (List.range' 1 (som t).length) t' = X at *
  generalize canT t true = W at *
  generalize canT t' true = Y at *
  generalize tcl (List.range' 1 (som t).length) t = tc at *
  generalize List.range' _ (som t').length = ps' at *
  obtain ⟨ak, an, as1⟩ := a
  obtain ⟨bk, bn, bs⟩ := b
  simp only [Ins.c] at hri hja hoa hb hX7 hld
  refine ⟨fun hr => ?_, fun hr => ?_⟩
  · rw [hr] at hld
    cases an <;> cases bn <;> simp only [Ah.c, openA, Bool.false_eq_true, if_false, if_true, Int.natCast_add, Int.natCast_one] at hb m4 hld <;>
    simp -implicitDefEqProofs only [eqs, eqd, Sym.pos, ↓reduceIte, reduceCtorEq, Nat.reduceEqDiff, Nat.reduceAdd, Nat.reduceSub, Nat.reduceMul, Nat.reduceLT, Nat.reduceLeDiff, Nat.reduceBEq, Nat.reduceBNe, Nat.reduceGT, Int.reduceEq, Int.reduceLT, Int.reduceLE, Int.reduceToNat, Int.reduceAdd, Int.reduceSub, Int.reduceMul, Int.reduceNeg, Int.reduceBEq, Int.reduceBNe, nx_nil, Ins.c, nilp, c0, c1, c2, w, h5, l5, l1, ins_len, hri, hja, hoa, hb, hld, hX7, q1, q2, ht, htl, m3, m4, Int.toNat_natCast, Int.natCast_add, r0, s0, wz1, wz2, wz3]
  · rw [hr] at hld
    cases an <;> cases bn <;> simp only [Ah.c, openA, Bool.false_eq_true, if_false, if_true, Int.natCast_add, Int.natCast_one] at hb m4 hld <;>
    simp -implicitDefEqProofs only [eqs, eqd, Sym.pos, ↓reduceIte, reduceCtorEq, Nat.reduceEqDiff, Nat.reduceAdd, Nat.reduceSub, Nat.reduceMul, Nat.reduceLT, Nat.reduceLeDiff, Nat.reduceBEq, Nat.reduceBNe, Nat.reduceGT, Int.reduceEq, Int.reduceLT, Int.reduceLE, Int.reduceToNat, Int.reduceAdd, Int.reduceSub, Int.reduceMul, Int.reduceNeg, Int.reduceBEq, Int.reduceBNe, nx_nil, Ins.c, nilp, c0, c1, c2, w, h5, l5, l1, ins_len, hri, hja, hoa, hb, hld, hX7, q1, q2, ht, htl, m3, m4, Int.toNat_natCast, Int.natCast_add, r0, s0, wz1, wz2, wz3]
end Go.Proofs.Ytlefnekfeeihaaa.Ver

/- The program's all: an instruction that only jumps, and one that ends. -/
namespace Go.Proofs.Ytlefnekfeeihaaa.Ver
open Go Go.Proofs.Ytlefnekfeeihaaa.Sym Go.Proofs.Ytlefnekfeeihaaa.Tab
set_option linter.unusedVariables false
set_option linter.unusedSimpArgs false
set_option maxHeartbeats 4000000
set_option maxRecDepth 20000
theorem all_to (k lf : Nat) (L : List Ins) (hL : L.length ≤ 200) (t : List (Option Ah)) (hA : AllIn t) (hlen : t.length = L.length + 1) (i : Nat) (hi : i < L.length) (hr : right L[i] = true) (a : Ah) (hx : t[i]? = some (some a)) (b : Ah) (hbi : b.In) (on : onI L[i] = false) (jm : jmp L[i] = true) (J : Nat) (hJ : L[i].at_ = J) (hj : i < J ∧ J ≤ L.length)
    (hb : acall T (k + 16) 28 0 [.agg a.c, .agg L[i].c] [] = some ⟨.tup [.agg b.c, .v (.int .i64 0)], [], 1⟩) (N : Nat) :
    ((lead1 t J b).2 = true → pfin k lf L t i (N + 1) = pfin k lf L (lead1 t J b).1 (i + 1) N) ∧
    ((lead1 t J b).2 = false → pfin k lf L t i (N + 1) = some ⟨.tup [.v (.slice none 0 0), .v (.int .i64 7), .v (.int .i64 i)], [], 1⟩) := by
  have c1 : (i : Int) < L.length := by omega
  have c0 : (0 : Int) ≤ i := by omega
  have c2 : (i : Int) < ((L.length + 1 : Nat) : Int) := by omega
  have d1 : ¬ (J : Int) ≤ i := by omega
  have d2 : ¬ (L.length : Int) < J := by omega
  have w : IntKind.i64.wrap ((i : Int) + 1) = i + 1 := w64 (by omega) (by omega)
  have h5 := ins_at L i hi
  have l5 : i * 5 + 5 ≤ L.length * 5 := by omega
  have hri := right_a (k + 11) L[i]
  rw [hr] at hri
  have hja := jumps_a (k + 15) L[i]
  rw [jm] at hja
  have hoa := on_a (k + 15) L[i]
  rw [on] at hoa
  have hri := flat_call hri
  have hja := flat_call hja
  have hoa := flat_call hoa
  have hs := som_le t
  have hs1 := som_le (lead1 t J b).1
  rw [lead1_len] at hs1
  obtain ⟨p, hp, ht, hso⟩ := tcl_some (List.range' 1 (som t).length) t i a (by simp) hx
  have htl := tcl_len (List.range' 1 (som t).length) t
  rw [hlen] at htl
  have l1 : i + 1 ≤ L.length + 1 := by omega
  have m3 := more_tab t
  have m4 := more_obj t (by omega) hp hso
  have hT := has_more2 t (by omega) ⟨true, true, true, L[i].c⟩ ⟨true, true, true, b.c⟩
  have hld := lead1_call (k + 2) hT J (by omega) (by omega) hA b hbi
  rw [hlen] at hld
  have hX := after_X t (lead1 t J b).1 (by omega) ⟨true, true, true, L[i].c⟩ ⟨true, true, true, b.c⟩
  have hT2 := after_has (t' := (lead1 t J b).1) hT (by omega) (by simp)
  have hX7 := hX.1
  have q1 := hT2.reach
  have q2 := hT2.sub true (fun _ => rfl)
  rw [Bool.and_true] at q2
  clear hx hp hso hT hT2 hX
  unfold pfin pst penv plive
  rw [lh_as l_verify_all_0.eq_1]
  generalize (lead1 t J b).1 = t' at *
  generalize (lead1 t J b).2 = r at *
  generalize L[i] = ins at *
  generalize hM : L.length + 1 = M at *
  generalize after (canT t true ++ [(⟨true, true, true, ins.c⟩ : Sym.Obj)] ++ [(⟨true, true, true, b.c⟩ : Sym.Obj)]) (List.range' 1 (som t).length) t' = X at *
  generalize canT t true = W at *
  generalize canT t' true = Y at *
  generalize tcl (List.range' 1 (som t).length) t = tc at *
  generalize List.range' _ (som t').length = ps' at *
  obtain ⟨ak, an, as1⟩ := a
  obtain ⟨bk, bn, bs⟩ := b
  simp only [Ins.c, hJ] at hri hja hoa hb hX7 hld
  refine ⟨fun hr => ?_, fun hr => ?_⟩
  · rw [hr] at hld
    cases an <;> cases bn <;> simp only [Ah.c, openA, Bool.false_eq_true, if_false, if_true, Int.natCast_add, Int.natCast_one] at hb m4 hld <;>
    simp -implicitDefEqProofs only [eqs, eqd, Sym.pos, ↓reduceIte, reduceCtorEq, Nat.reduceEqDiff, Nat.reduceAdd, Nat.reduceSub, Nat.reduceMul, Nat.reduceLT, Nat.reduceLeDiff, Nat.reduceBEq, Nat.reduceBNe, Nat.reduceGT, Int.reduceEq, Int.reduceLT, Int.reduceLE, Int.reduceToNat, Int.reduceAdd, Int.reduceSub, Int.reduceMul, Int.reduceNeg, Int.reduceBEq, Int.reduceBNe, nx_nil, Ins.c, hJ, d1, d2, nilp, c0, c1, c2, w, h5, l5, l1, ins_len, hri, hja, hoa, hb, hld, hX7, q1, q2, ht, htl, m3, m4, Int.toNat_natCast, Int.natCast_add, r0, s0, wz1, wz2, wz3]
  · rw [hr] at hld
    cases an <;> cases bn <;> simp only [Ah.c, openA, Bool.false_eq_true, if_false, if_true, Int.natCast_add, Int.natCast_one] at hb m4 hld <;>
    simp -implicitDefEqProofs only [eqs, eqd, Sym.pos, ↓reduceIte, reduceCtorEq, Nat.reduceEqDiff, Nat.reduceAdd, Nat.reduceSub, Nat.reduceMul, Nat.reduceLT, Nat.reduceLeDiff, Nat.reduceBEq, Nat.reduceBNe, Nat.reduceGT, Int.reduceEq, Int.reduceLT, Int.reduceLE, Int.reduceToNat, Int.reduceAdd, Int.reduceSub, Int.reduceMul, Int.reduceNeg, Int.reduceBEq, Int.reduceBNe, nx_nil, Ins.c, hJ, d1, d2, nilp, c0, c1, c2, w, h5, l5, l1, ins_len, hri, hja, hoa, hb, hld, hX7, q1, q2, ht, htl, m3, m4, Int.toNat_natCast, Int.natCast_add, r0, s0, wz1, wz2, wz3]
theorem all_end (k lf : Nat) (L : List Ins) (hL : L.length ≤ 200) (t : List (Option Ah)) (hA : AllIn t) (hlen : t.length = L.length + 1) (i : Nat) (hi : i < L.length) (hr : right L[i] = true) (a : Ah) (hx : t[i]? = some (some a)) (b : Ah) (hbi : b.In) (on : onI L[i] = false) (jm : jmp L[i] = false)
    (hb : acall T (k + 16) 28 0 [.agg a.c, .agg L[i].c] [] = some ⟨.tup [.agg b.c, .v (.int .i64 0)], [], 1⟩) (N : Nat) :
    pfin k lf L t i (N + 1) = pfin k lf L t (i + 1) N := by
  have c1 : (i : Int) < L.length := by omega
  have c0 : (0 : Int) ≤ i := by omega
  have c2 : (i : Int) < ((L.length + 1 : Nat) : Int) := by omega
  have w : IntKind.i64.wrap ((i : Int) + 1) = i + 1 := w64 (by omega) (by omega)
  have h5 := ins_at L i hi
  have l5 : i * 5 + 5 ≤ L.length * 5 := by omega
  have hri := right_a (k + 11) L[i]
  rw [hr] at hri
  have hja := jumps_a (k + 15) L[i]
  rw [jm] at hja
  have hoa := on_a (k + 15) L[i]
  rw [on] at hoa
  have hri := flat_call hri
  have hja := flat_call hja
  have hoa := flat_call hoa
  have hs := som_le t
  obtain ⟨p, hp, ht, hso⟩ := tcl_some (List.range' 1 (som t).length) t i a (by simp) hx
  have htl := tcl_len (List.range' 1 (som t).length) t
  rw [hlen] at htl
  have l1 : i + 1 ≤ L.length + 1 := by omega
  have m3 := more_tab t
  have m4 := more_obj t (by omega) hp hso
  have hT := has_more2 t (by omega) ⟨true, true, true, L[i].c⟩ ⟨true, true, true, b.c⟩
  have q1 := hT.reach
  have q2 := hT.sub true (fun _ => rfl)
  rw [Bool.and_true] at q2
  clear hx hp hso hT
  unfold pfin pst penv plive
  rw [lh_as l_verify_all_0.eq_1]
  generalize L[i] = ins at *
  generalize hM : L.length + 1 = M at *
  generalize canT t true = W at *
  generalize tcl (List.range' 1 (som t).length) t = tc at *
  obtain ⟨ak, an, as1⟩ := a
  obtain ⟨bk, bn, bs⟩ := b
  simp only [Ins.c] at hri hja hoa hb q1 q2
  cases an <;> cases bn <;> simp only [Ah.c, openA, Bool.false_eq_true, if_false, if_true] at hb m4 q1 q2 <;>
  simp -implicitDefEqProofs only [eqs, eqd, Sym.pos, ↓reduceIte, reduceCtorEq, Nat.reduceEqDiff, Nat.reduceAdd, Nat.reduceSub, Nat.reduceMul, Nat.reduceLT, Nat.reduceLeDiff, Nat.reduceBEq, Nat.reduceBNe, Nat.reduceGT, Int.reduceEq, Int.reduceLT, Int.reduceLE, Int.reduceToNat, Int.reduceAdd, Int.reduceSub, Int.reduceMul, Int.reduceNeg, Int.reduceBEq, Int.reduceBNe, nx_nil, Ins.c, nilp, c0, c1, c2, w, h5, l5, l1, ins_len, hri, hja, hoa, hb, q1, q2, ht, htl, m3, m4, Int.toNat_natCast, Int.natCast_add, r0, s0, wz1, wz2, wz3]
end Go.Proofs.Ytlefnekfeeihaaa.Ver

/- The program's all: an instruction that leads on and jumps. -/
namespace Go.Proofs.Ytlefnekfeeihaaa.Ver
open Go Go.Proofs.Ytlefnekfeeihaaa.Sym Go.Proofs.Ytlefnekfeeihaaa.Tab
set_option linter.unusedVariables false
set_option linter.unusedSimpArgs false
set_option maxHeartbeats 4000000
set_option maxRecDepth 20000
theorem all_both (k lf : Nat) (L : List Ins) (hL : L.length ≤ 200) (t : List (Option Ah)) (hA : AllIn t) (hlen : t.length = L.length + 1) (i : Nat) (hi : i < L.length) (hr : right L[i] = true) (a : Ah) (hx : t[i]? = some (some a)) (b : Ah) (hbi : b.In ∧ BrIn b.bs) (on : onI L[i] = true) (jm : jmp L[i] = true) (J : Nat) (hJ : L[i].at_ = J) (hj : i < J ∧ J ≤ L.length)
    (hb : acall T (k + 16) 28 0 [.agg a.c, .agg L[i].c] [] = some ⟨.tup [.agg b.c, .v (.int .i64 0)], [], 1⟩) (N : Nat) :
    ((lead1 t (i + 1) b).2 = true → (lead1 (lead1 t (i + 1) b).1 J b).2 = true → pfin k lf L t i (N + 1) = pfin k lf L (lead1 (lead1 t (i + 1) b).1 J b).1 (i + 1) N) ∧
    ((lead1 t (i + 1) b).2 = true → (lead1 (lead1 t (i + 1) b).1 J b).2 = false → pfin k lf L t i (N + 1) = some ⟨.tup [.v (.slice none 0 0), .v (.int .i64 7), .v (.int .i64 i)], [], 1⟩) ∧
    ((lead1 t (i + 1) b).2 = false → pfin k lf L t i (N + 1) = some ⟨.tup [.v (.slice none 0 0), .v (.int .i64 7), .v (.int .i64 i)], [], 1⟩) := by
  have c1 : (i : Int) < L.length := by omega
  have c0 : (0 : Int) ≤ i := by omega
  have c2 : (i : Int) < ((L.length + 1 : Nat) : Int) := by omega
  have d1 : ¬ (J : Int) ≤ i := by omega
  have d2 : ¬ (L.length : Int) < J := by omega
  have w : IntKind.i64.wrap ((i : Int) + 1) = i + 1 := w64 (by omega) (by omega)
  have h5 := ins_at L i hi
  have l5 : i * 5 + 5 ≤ L.length * 5 := by omega
  have hri := right_a (k + 11) L[i]
  rw [hr] at hri
  have hja := jumps_a (k + 15) L[i]
  rw [jm] at hja
  have hoa := on_a (k + 15) L[i]
  rw [on] at hoa
  have hri := flat_call hri
  have hja := flat_call hja
  have hoa := flat_call hoa
  have hs := som_le t
  have hs1 := som_le (lead1 t (i + 1) b).1
  rw [lead1_len] at hs1
  obtain ⟨p, hp, ht, hso⟩ := tcl_some (List.range' 1 (som t).length) t i a (by simp) hx
  have htl := tcl_len (List.range' 1 (som t).length) t
  rw [hlen] at htl
  have l1 : i + 1 ≤ L.length + 1 := by omega
  have m3 := more_tab t
  have m4 := more_obj t (by omega) hp hso
  have hT := has_more2 t (by omega) ⟨true, true, true, L[i].c⟩ ⟨true, true, true, b.c⟩
  have hld := lead1_call (k + 2) hT (i + 1) (by omega) (by omega) hA b hbi.1
  rw [hlen] at hld
  have hX := after_X t (lead1 t (i + 1) b).1 (by omega) ⟨true, true, true, L[i].c⟩ ⟨true, true, true, b.c⟩
  have hT2 := after_has (t' := (lead1 t (i + 1) b).1) hT (by omega) (by simp)
  have hX7 := hX.1
  have hX8 := hX.2
  have hl1 : (lead1 t (i + 1) b).1.length = L.length + 1 := by rw [lead1_len, hlen]
  have hs2 := som_le (lead1 (lead1 t (i + 1) b).1 J b).1
  rw [lead1_len, lead1_len] at hs2
  have hld2 := lead1_call (k + 2) hT2 J (by omega) (by omega) (hA.lead1 hbi) b hbi.1
  rw [hl1] at hld2
  have hT3 := after_has (t' := (lead1 (lead1 t (i + 1) b).1 J b).1) hT2 (by omega) (by rw [after_len]; simp; omega)
  have q1 := hT3.reach
  have q2 := hT3.sub true (fun _ => rfl)
  rw [Bool.and_true] at q2
  clear hx hp hso hT hT2 hT3 hX hl1
  unfold pfin pst penv plive
  rw [lh_as l_verify_all_0.eq_1]
  generalize (lead1 (lead1 t (i + 1) b).1 J b).1 = t2 at *
  generalize (lead1 (lead1 t (i + 1) b).1 J b).2 = r2 at *
  generalize (lead1 t (i + 1) b).1 = t' at *
  generalize (lead1 t (i + 1) b).2 = r at *
  generalize L[i] = ins at *
  generalize hM : L.length + 1 = M at *
  generalize after (canT t true ++ [(⟨true, true, true, ins.c⟩ : Sym.Obj)] ++ [(⟨true, true, true, b.c⟩ : Sym.Obj)]) (List.range' 1 (som t).length) t' = X at *
  generalize List.range' (canT t true ++ [(⟨true, true, true, ins.c⟩ : Sym.Obj)] ++ [(⟨true, true, true, b.c⟩ : Sym.Obj)]).length (som t').length = ps' at *
  generalize after X ps' t2 = X2 at *
  generalize canT t2 true = Y at *
  generalize List.range' X.length (som t2).length = ps2 at *
  generalize canT t true = W at *
  generalize tcl (List.range' 1 (som t).length) t = tc at *
  obtain ⟨ak, an, as1⟩ := a
  obtain ⟨bk, bn, bs⟩ := b
  simp only [Ins.c, hJ] at hri hja hoa hb hX7 hX8 hld
  refine ⟨fun hr hr2 => ?_, fun hr hr2 => ?_, fun hr => ?_⟩
  · rw [hr] at hld
    rw [hr2] at hld2
    cases an <;> cases bn <;> simp only [Ah.c, openA, Bool.false_eq_true, if_false, if_true, Int.natCast_add, Int.natCast_one] at hb m4 hld hld2 hX8 <;>
    simp -implicitDefEqProofs only [eqs, eqd, Sym.pos, ↓reduceIte, reduceCtorEq, Nat.reduceEqDiff, Nat.reduceAdd, Nat.reduceSub, Nat.reduceMul, Nat.reduceLT, Nat.reduceLeDiff, Nat.reduceBEq, Nat.reduceBNe, Nat.reduceGT, Int.reduceEq, Int.reduceLT, Int.reduceLE, Int.reduceToNat, Int.reduceAdd, Int.reduceSub, Int.reduceMul, Int.reduceNeg, Int.reduceBEq, Int.reduceBNe, nx_nil, Ins.c, hJ, d1, d2, nilp, c0, c1, c2, w, h5, l5, l1, ins_len, hri, hja, hoa, hb, hld, hld2, hX7, hX8, q1, q2, ht, htl, m3, m4, Int.toNat_natCast, Int.natCast_add, r0, s0, wz1, wz2, wz3]
  · rw [hr] at hld
    rw [hr2] at hld2
    cases an <;> cases bn <;> simp only [Ah.c, openA, Bool.false_eq_true, if_false, if_true, Int.natCast_add, Int.natCast_one] at hb m4 hld hld2 hX8 <;>
    simp -implicitDefEqProofs only [eqs, eqd, Sym.pos, ↓reduceIte, reduceCtorEq, Nat.reduceEqDiff, Nat.reduceAdd, Nat.reduceSub, Nat.reduceMul, Nat.reduceLT, Nat.reduceLeDiff, Nat.reduceBEq, Nat.reduceBNe, Nat.reduceGT, Int.reduceEq, Int.reduceLT, Int.reduceLE, Int.reduceToNat, Int.reduceAdd, Int.reduceSub, Int.reduceMul, Int.reduceNeg, Int.reduceBEq, Int.reduceBNe, nx_nil, Ins.c, hJ, d1, d2, nilp, c0, c1, c2, w, h5, l5, l1, ins_len, hri, hja, hoa, hb, hld, hld2, hX7, hX8, q1, q2, ht, htl, m3, m4, Int.toNat_natCast, Int.natCast_add, r0, s0, wz1, wz2, wz3]
  · rw [hr] at hld
    clear hld2 q1 q2
    cases an <;> cases bn <;> simp only [Ah.c, openA, Bool.false_eq_true, if_false, if_true, Int.natCast_add, Int.natCast_one] at hb m4 hld <;>
    simp -implicitDefEqProofs only [eqs, eqd, Sym.pos, ↓reduceIte, reduceCtorEq, Nat.reduceEqDiff, Nat.reduceAdd, Nat.reduceSub, Nat.reduceMul, Nat.reduceLT, Nat.reduceLeDiff, Nat.reduceBEq, Nat.reduceBNe, Nat.reduceGT, Int.reduceEq, Int.reduceLT, Int.reduceLE, Int.reduceToNat, Int.reduceAdd, Int.reduceSub, Int.reduceMul, Int.reduceNeg, Int.reduceBEq, Int.reduceBNe, nx_nil, Ins.c, hJ, d1, d2, nilp, c0, c1, c2, w, h5, l5, l1, ins_len, hri, hja, hoa, hb, hld, hX7, ht, htl, m3, m4, Int.toNat_natCast, Int.natCast_add, r0, s0, wz1, wz2, wz3]
end Go.Proofs.Ytlefnekfeeihaaa.Ver

/- The program's all: each round is a step. -/
namespace Go.Proofs.Ytlefnekfeeihaaa.Ver
open Go Go.Proofs.Ytlefnekfeeihaaa.Sym Go.Proofs.Ytlefnekfeeihaaa.Tab
set_option linter.unusedVariables false
set_option linter.unusedSimpArgs false
set_option maxHeartbeats 4000000
theorem all_step (k lf : Nat) (L : List Ins) (hL : L.length ≤ 200) (t : List (Option Ah)) (ht : AllIn t) (hlen : t.length = L.length + 1) (i : Nat) (hi : i < L.length) (hin : L[i].In) (N : Nat) :
    ((stp L.length i t L[i]).1 = 0 → pfin k lf L t i (N + 1) = pfin k lf L (stp L.length i t L[i]).2 (i + 1) N ∧ AllIn (stp L.length i t L[i]).2 ∧ (stp L.length i t L[i]).2.length = L.length + 1) ∧
    ((stp L.length i t L[i]).1 ≠ 0 → pfin k lf L t i (N + 1) = some ⟨.tup [.v (.slice none 0 0), .v (.int .i64 (stp L.length i t L[i]).1), .v (.int .i64 i)], [], 1⟩) := by
  unfold stp
  by_cases hr : right L[i] = false
  · rw [if_pos hr]
    exact ⟨fun h => absurd h (by simp), fun _ => all_bad k lf L hL t hlen i hi hin hr (N + 1)⟩
  rw [if_neg hr]
  have hr : right L[i] = true := by simpa using hr
  have hop := right_op hr
  have hx : t[i]? = some t[i] := List.getElem?_eq_getElem (by omega)
  rw [hx]
  generalize hxx : t[i] = x at hx
  cases x with
  | none => exact ⟨fun _ => ⟨congrArg _ (all_skip k lf L hL t hlen i hi hin hr hx N _), ht, hlen⟩, fun h => absurd rfl h⟩
  | some a =>
    have ha := ht i a hx
    simp only
    by_cases hj : jmp L[i] = true ∧ ¬ ((i : Int) < L[i].at_ ∧ L[i].at_ ≤ L.length)
    · rw [if_pos hj]
      have hjo : 25 ≤ L[i].op ∧ L[i].op ≤ 27 := by have := hj.1; unfold jmp at this; simpa using this
      exact ⟨fun h => absurd h (by simp), fun _ => all_jump k lf L hL t hlen i hi hr a hx hj.1 hj.2 (N + 1)⟩
    rw [if_neg hj]
    have hj' : 25 ≤ L[i].op ∧ L[i].op ≤ 27 → (i : Int) < L[i].at_ ∧ L[i].at_ ≤ L.length := fun h => by
      refine Classical.byContradiction fun hc => hj ⟨?_, hc⟩
      unfold jmp
      simp [h.1, h.2]
    have hok : okJ L.length i L[i] := fun h => hj' (by unfold jmp at h; simpa using h)
    have hb := beh_a (k + 11) a L[i] ha.1 hop
    by_cases he : (beh a L[i]).2 ≠ 0
    · rw [if_pos he]
      exact ⟨fun h => absurd h he, fun _ => all_err k lf L hL t hlen i hi hr a hx hok _ _ he hb (N + 1)⟩
    rw [if_neg he]
    have he : (beh a L[i]).2 = 0 := by simpa using he
    have hbin := beh_in ha L[i] he
    rw [he] at hb
    generalize (beh a L[i]).1 = b at *
    unfold lead2
    have fin : ∀ {r : List (Option Ah) × Bool}, (r.2 = true → pfin k lf L t i (N + 1) = pfin k lf L r.1 (i + 1) N ∧ AllIn r.1 ∧ r.1.length = L.length + 1) → (r.2 = false → pfin k lf L t i (N + 1) = some ⟨.tup [.v (.slice none 0 0), .v (.int .i64 7), .v (.int .i64 i)], [], 1⟩) →
        ((if r.2 = true then ((0 : Int), r.1) else (7, t)).1 = 0 → pfin k lf L t i (N + 1) = pfin k lf L (if r.2 = true then ((0 : Int), r.1) else (7, t)).2 (i + 1) N ∧ AllIn (if r.2 = true then ((0 : Int), r.1) else (7, t)).2 ∧ (if r.2 = true then ((0 : Int), r.1) else (7, t)).2.length = L.length + 1) ∧
        ((if r.2 = true then ((0 : Int), r.1) else (7, t)).1 ≠ 0 → pfin k lf L t i (N + 1) = some ⟨.tup [.v (.slice none 0 0), .v (.int .i64 (if r.2 = true then ((0 : Int), r.1) else (7, t)).1), .v (.int .i64 i)], [], 1⟩) := fun {r} h1 h2 => by
      obtain ⟨r1, r2⟩ := r
      cases r2
      · exact ⟨fun h => absurd h (by simp), fun _ => h2 rfl⟩
      · exact ⟨fun _ => h1 rfl, fun h => absurd rfl h⟩
    by_cases o25 : L[i].op = 25
    · have on : onI L[i] = false := by unfold onI; rw [o25]; rfl
      have jm : jmp L[i] = true := by unfold jmp; rw [o25]; rfl
      obtain ⟨j1, j2⟩ := hj' (by omega)
      obtain ⟨J, hJ⟩ : ∃ J : Nat, L[i].at_ = J := ⟨L[i].at_.toNat, by omega⟩
      obtain ⟨key, key2⟩ := all_to k lf L hL t ht hlen i hi hr a hx b hbin.1 on jm J hJ (by omega) hb N
      simp only [on, jm, hJ, Bool.false_eq_true, if_false, if_true, and_self, Int.toNat_natCast]
      exact fin (fun h => ⟨key h, ht.lead1 hbin, by rw [lead1_len, hlen]⟩) key2
    by_cases o28 : L[i].op = 28
    · have on : onI L[i] = false := by unfold onI; rw [o28]; rfl
      have jm : jmp L[i] = false := by unfold jmp; rw [o28]; rfl
      simp only [on, jm, Bool.false_eq_true, if_false, and_false]
      exact fin (r := (t, true)) (fun _ => ⟨all_end k lf L hL t ht hlen i hi hr a hx b hbin.1 on jm hb N, ht, hlen⟩) (fun h => by cases h)
    have on : onI L[i] = true := by unfold onI; simp [o25, o28]
    by_cases o67 : L[i].op = 26 ∨ L[i].op = 27
    · have jm : jmp L[i] = true := by unfold jmp; rcases o67 with h | h <;> rw [h] <;> rfl
      obtain ⟨j1, j2⟩ := hj' (by omega)
      obtain ⟨J, hJ⟩ : ∃ J : Nat, L[i].at_ = J := ⟨L[i].at_.toNat, by omega⟩
      obtain ⟨key, key21, key22⟩ := all_both k lf L hL t ht hlen i hi hr a hx b hbin on jm J hJ (by omega) hb N
      simp only [on, jm, hJ, if_true, and_true, Int.toNat_natCast]
      by_cases q : (lead1 t (i + 1) b).2 = true
      · simp only [q, if_true]
        exact fin (fun h => ⟨key q h, (ht.lead1 hbin).lead1 hbin, by rw [lead1_len, lead1_len, hlen]⟩) (fun h => key21 q h)
      · have q' : (lead1 t (i + 1) b).2 = false := by simpa using q
        rw [if_neg q]
        exact fin (fun h => absurd h q) (fun _ => key22 q')
    · have jm : jmp L[i] = false := by
        unfold jmp
        cases h1 : decide (25 ≤ L[i].op)
        · rfl
        · have : ¬ L[i].op ≤ 27 := by have := of_decide_eq_true h1; omega
          simp [this]
      obtain ⟨key, key2⟩ := all_on k lf L hL t ht hlen i hi hr a hx b hbin.1 on jm hb N
      simp only [on, jm, Bool.false_eq_true, if_true, if_false, and_false]
      exact fin (fun h => ⟨key h, ht.lead1 hbin, by rw [lead1_len, hlen]⟩) key2
end Go.Proofs.Ytlefnekfeeihaaa.Ver

/- The program's all. -/
namespace Go.Proofs.Ytlefnekfeeihaaa.Ver
open Go Go.Proofs.Ytlefnekfeeihaaa.Sym Go.Proofs.Ytlefnekfeeihaaa.Tab
set_option linter.unusedVariables false
set_option linter.unusedSimpArgs false
set_option maxHeartbeats 4000000
set_option maxRecDepth 20000
def pres (n : Nat) (r : Int × Int × List (Option Ah)) : Res := if r.1 = 0 then ⟨.tup [.view 0 0 (n + 1) 1 (some (n + 1)), .v (.int .i64 0), .v (.int .i64 0)], canT r.2.2 true, 1⟩ else ⟨.tup [.v (.slice none 0 0), .v (.int .i64 r.1), .v (.int .i64 r.2.1)], [], 1⟩
theorem all_fin (k lf : Nat) (L : List Ins) (hL : L.length ≤ 200) (t : List (Option Ah)) (hA : AllIn t) (hlen : t.length = L.length + 1) (N : Nat) : pfin k lf L t L.length N = some (pres L.length ((endE L.length t).1, (endE L.length t).2, t)) := by
  have c1 : ¬ (L.length : Int) < L.length := by omega
  have c0 : (0 : Int) ≤ L.length := by omega
  have c2 : (L.length : Int) < ((L.length + 1 : Nat) : Int) := by omega
  have hx : t[L.length]? = some t[L.length] := List.getElem?_eq_getElem (by omega)
  have hs := som_le t
  have htl := tcl_len (List.range' 1 (som t).length) t
  rw [hlen] at htl
  have m1 := more_reach t (by omega) []
  have m2 := more_sub t (by omega) []
  have m3 := more_tab t []
  rw [List.append_nil] at m1 m2 m3
  have l1 : L.length + 1 ≤ L.length + 1 := Nat.le_refl _
  unfold pfin pst penv plive endE
  rw [hx, lh_as l_verify_all_0.eq_1]
  generalize t[L.length] = x at *
  cases x with
  | none =>
    have ht := tcl_none (List.range' 1 (som t).length) t _ hx
    unfold pres
    simp only [if_true]
    generalize hM : L.length + 1 = M at *
    generalize canT t true = W at *
    generalize tcl (List.range' 1 (som t).length) t = tc at *
    generalize List.range' 1 (som t).length = ps at *
    simp -implicitDefEqProofs only [eqs, eqd, aCall, Sym.pos, ↓reduceIte, reduceCtorEq, Nat.reduceEqDiff, Nat.reduceAdd, Nat.reduceSub, Nat.reduceMul, Nat.reduceLT, Nat.reduceLeDiff, Nat.reduceBEq, Nat.reduceBNe, Nat.reduceGT, Int.reduceEq, Int.reduceLT, Int.reduceLE, Int.reduceToNat, Int.reduceAdd, Int.reduceSub, Int.reduceMul, Int.reduceNeg, Int.reduceBEq, Int.reduceBNe, l_verify_all_1, nilp, c0, c1, c2, l1, ht, htl, m1, m2, m3, Int.toNat_natCast, r0, s0]
  | some a =>
    obtain ⟨p, hp, ht, hso⟩ := tcl_some (List.range' 1 (som t).length) t _ a (by simp) hx
    have m4 := more_obj t (by omega) hp hso []
    rw [List.append_nil] at m4
    have hn := (hA _ a hx).1.nil
    clear hp hso
    obtain ⟨ak, an, bs⟩ := a
    simp only at hn
    by_cases c : bs = []
    · subst c
      unfold pres
      simp only [if_true]
      generalize hM : L.length + 1 = M at *
      generalize canT t true = W at *
      generalize tcl (List.range' 1 (som t).length) t = tc at *
      generalize List.range' 1 (som t).length = ps at *
      cases an <;> simp only [Ah.c, openA, Bool.false_eq_true, if_false, if_true] at m4 <;>
      simp -implicitDefEqProofs only [eqs, eqd, aCall, Sym.pos, ↓reduceIte, reduceCtorEq, Nat.reduceEqDiff, Nat.reduceAdd, Nat.reduceSub, Nat.reduceMul, Nat.reduceLT, Nat.reduceLeDiff, Nat.reduceBEq, Nat.reduceBNe, Nat.reduceGT, Int.reduceEq, Int.reduceLT, Int.reduceLE, Int.reduceToNat, Int.reduceAdd, Int.reduceSub, Int.reduceMul, Int.reduceNeg, Int.reduceBEq, Int.reduceBNe, l_verify_all_1, nilp, c0, c1, c2, l1, ht, htl, m1, m2, m3, m4, Int.toNat_natCast, r0, s0]
    · have h0 : (0 : Int) < bs.length := by have := List.length_pos_iff.2 c; omega
      have an0 : an = false := by cases an; rfl; exact absurd (hn rfl) c
      subst an0
      simp only [c, if_false]
      unfold pres
      rw [if_neg (by simp)]
      generalize hM : L.length + 1 = M at *
      generalize canT t true = W at *
      generalize tcl (List.range' 1 (som t).length) t = tc at *
      generalize List.range' 1 (som t).length = ps at *
      simp only [Ah.c, openA, Bool.false_eq_true, if_false, if_true] at m4
      simp -implicitDefEqProofs only [eqs, eqd, aCall, Sym.pos, ↓reduceIte, reduceCtorEq, Nat.reduceEqDiff, Nat.reduceAdd, Nat.reduceSub, Nat.reduceMul, Nat.reduceLT, Nat.reduceLeDiff, Nat.reduceBEq, Nat.reduceBNe, Nat.reduceGT, Int.reduceEq, Int.reduceLT, Int.reduceLE, Int.reduceToNat, Int.reduceAdd, Int.reduceSub, Int.reduceMul, Int.reduceNeg, Int.reduceBEq, Int.reduceBNe, l_verify_all_1, nilp, c0, c1, c2, l1, ht, htl, h0, m3, m4, Int.toNat_natCast, r0, s0]
theorem all_run (k lf : Nat) (L : List Ins) (hL : L.length ≤ 200) (hin : ∀ (i : Nat) (h : i < L.length), L[i].In) : ∀ (m i N : Nat) (t : List (Option Ah)), i + m = L.length → m ≤ N → AllIn t → t.length = L.length + 1 → pfin k lf L t i N = some (pres L.length (run L m i t))
  | 0, i, N, t, hi, hN, ht, hlen => by
    obtain rfl : i = L.length := by omega
    exact all_fin k lf L hL t ht hlen N
  | m + 1, i, N, t, hi, hN, ht, hlen => by
    obtain ⟨N, rfl⟩ : ∃ M, N = M + 1 := ⟨N - 1, by omega⟩
    have h : i < L.length := by omega
    obtain ⟨h1, h2⟩ := all_step k lf L hL t ht hlen i h (hin i h) N
    rw [run, dif_pos h]
    by_cases c : (stp L.length i t L[i]).1 = 0
    · rw [if_pos c]
      obtain ⟨e, a1, a2⟩ := h1 c
      rw [e]
      exact all_run k lf L hL hin m (i + 1) N _ (by omega) (by omega) a1 a2
    · rw [if_neg c, h2 c]
      unfold pres
      rw [if_neg c]
end Go.Proofs.Ytlefnekfeeihaaa.Ver

/- The program's all, from its beginning. -/
namespace Go.Proofs.Ytlefnekfeeihaaa.Ver
open Go Go.Proofs.Ytlefnekfeeihaaa.Sym Go.Proofs.Ytlefnekfeeihaaa.Tab
set_option linter.unusedVariables false
set_option linter.unusedSimpArgs false
set_option maxHeartbeats 4000000
set_option maxRecDepth 20000
theorem all_long (k : Nat) (L : List Ins) (hL : 200 < L.length) : acall T (k + 17) 14 0 [.shr L.length false (L.flatMap Ins.c)] [] = some ⟨.tup [.v (.slice none 0 0), .v (.int .i64 2), .v (.int .i64 200)], [], 0⟩ := by
  rw [acall_go (body := b_verify_all) rfl rfl (Nat.zero_le _)]
  have c : (200 : Int) < L.length := by omega
  simp -implicitDefEqProofs only [eqs, eqd, aCall, Sym.reach, Sym.pos, Sym.sub, ↓reduceIte, reduceCtorEq, Nat.reduceEqDiff, Nat.reduceAdd, Nat.reduceSub, Nat.reduceMul, Nat.reduceLT, Nat.reduceLeDiff, Nat.reduceBEq, Nat.reduceBNe, Nat.reduceGT, Int.reduceEq, Int.reduceLT, Int.reduceLE, Int.reduceToNat, Int.reduceAdd, Int.reduceSub, Int.reduceMul, Int.reduceNeg, Int.reduceBEq, Int.reduceBNe, b_verify_all, c]
theorem tcl_rep : ∀ (n : Nat) (ps : List Nat), tcl ps (List.replicate n none) = List.replicate n nilp
  | 0, ps => by rw [List.replicate_zero, tcl, List.replicate_zero]
  | n + 1, ps => by rw [List.replicate_succ, tcl, tcl_rep n ps, List.replicate_succ]
theorem som_00 (n : Nat) : som (t00 n) = [⟨0, true, []⟩] := by
  unfold t00 som
  rw [List.filterMap_cons]
  simp
theorem canT_00 (n : Nat) : canT (t00 n) true = [⟨true, true, false, (List.replicate (n + 1) nilp).set 0 (.ptr 1 0)⟩, ⟨true, true, true, [.v (.int .i64 0), .v (.slice none 0 0)]⟩] := by
  unfold canT
  rw [som_00]
  have : tcl [1] (t00 n) = (List.replicate (n + 1) nilp).set 0 (.ptr 1 0) := by
    unfold t00
    rw [tcl, tcl_rep, List.replicate_succ]
    rfl
  show (⟨true, true, false, tcl [1] (t00 n)⟩ : Sym.Obj) :: _ = _
  rw [this]
  rfl
theorem all_a (k : Nat) (hk : 200 ≤ k) (L : List Ins) (hL : L.length ≤ 200) (hin : ∀ (i : Nat) (h : i < L.length), L[i].In) : acall T (k + 17) 14 0 [.shr L.length false (L.flatMap Ins.c)] [] = some (pres L.length (run L L.length 0 (t00 L.length))) := by
  rw [acall_go (body := b_verify_all) rfl rfl (Nat.zero_le _)]
  have c : ¬ (200 : Int) < L.length := by omega
  have w : IntKind.i64.wrap ((L.length : Int) + 1) = ((L.length + 1 : Nat) : Int) := by rw [w64 (by omega) (by omega)]; omega
  have h := all_run k (k + 16) L hL hin L.length 0 (k + 15) (t00 L.length) (by omega) (by omega) (t00_in _) (t00_len _)
  have lp : ∀ (ks : List It) (s : St), Lp (acall T (k + 16)) (k + 16) [0, 5, 22, 23, 24] l_verify_all_0 (k + 16) ks s = Lh (acall T (k + 16)) (k + 16) (canon [0, 5, 22, 23, 24] s) [0, 5, 22, 23, 24] l_verify_all_0 (k + 15) ks := fun ks s => lp_succ (n := k + 15)
  have n1 : (0 : Int) ≤ ((L.length + 1 : Nat) : Int) := by omega
  have n2 : ((L.length + 1 : Nat) : Int) ≤ ((L.length + 1 : Nat) : Int) := Int.le_refl _
  have n3 : (L.length + 1) * 8 ≤ 140737488355328 := by omega
  have n4 : L.length + 1 ≤ 9223372036854775807 := by omega
  have n5 : (0 : Int) < ((L.length + 1 : Nat) : Int) := by omega
  have n6 : 1 ≤ L.length + 1 := by omega
  have hT := canT_has (t00 L.length) true (by rw [som_00]; decide)
  have q1 := hT.reach
  have q2 := hT.sub true (fun _ => rfl)
  rw [Bool.and_true] at q2
  rw [som_00] at q1 q2
  rw [canT_00] at q1 q2
  rw [← h]
  unfold pfin pst penv plive
  rw [canT_00]
  clear h hT
  simp only [List.length_singleton, List.range'_one, nilp] at q1 q2
  generalize hM : L.length + 1 = M at *
  simp -implicitDefEqProofs only [eqs, eqd, aCall, Sym.pos, ↓reduceIte, reduceCtorEq, Nat.reduceEqDiff, Nat.reduceAdd, Nat.reduceSub, Nat.reduceMul, Nat.reduceLT, Nat.reduceLeDiff, Nat.reduceBEq, Nat.reduceBNe, Nat.reduceGT, Int.reduceEq, Int.reduceLT, Int.reduceLE, Int.reduceToNat, Int.reduceAdd, Int.reduceSub, Int.reduceMul, Int.reduceNeg, Int.reduceBEq, Int.reduceBNe, b_verify_all, c, w, r0, s0, q1, q2, n1, n2, n3, n4, n5, n6, nilp, lp, Int.toNat_natCast, Int.natCast_zero, List.length_replicate]
end Go.Proofs.Ytlefnekfeeihaaa.Ver

/- Check, the program's. -/
namespace Go.Proofs.Ytlefnekfeeihaaa.Ver
open Go Go.Proofs.Ytlefnekfeeihaaa.Sym Go.Proofs.Ytlefnekfeeihaaa.Tab
set_option linter.unusedVariables false
set_option linter.unusedSimpArgs false
set_option maxHeartbeats 4000000
set_option maxRecDepth 20000
theorem check_err (k : Nat) (y : AV) (e p : Int) (d : Nat) (hd : d ≤ 1) (x : AV) (hx : ∃ n cs, x = .shr n false cs ∧ cs.all atom = true ∧ cs.all flat0 = true) (h : acall T (k + 17) 14 0 [x] [] = some ⟨.tup [.v (.slice none 0 0), .v (.int .i64 e), .v (.int .i64 p)], [], d⟩) :
    ∃ d', acall T (k + 18) 7 0 [x] [] = some ⟨.tup [.v (.int .i64 e), .v (.int .i64 p)], [], d'⟩ ∧ d' ≤ 1 := by
  obtain ⟨n, cs, rfl, h1, h2⟩ := hx
  refine ⟨d, ?_, hd⟩
  rw [acall_go (body := b_verify_Check) rfl rfl (Nat.zero_le _)]
  have hdd : d = 0 ∨ d = 1 := by omega
  rcases hdd with rfl | rfl <;> simp -implicitDefEqProofs only [eqs, eqd, aCall, Sym.reach, Sym.pos, ↓reduceIte, reduceCtorEq, Nat.reduceEqDiff, Nat.reduceAdd, Nat.reduceSub, Nat.reduceMul, Nat.reduceLT, Nat.reduceLeDiff, Nat.reduceBEq, Nat.reduceBNe, Nat.reduceGT, Int.reduceEq, Int.reduceLT, Int.reduceLE, Int.reduceToNat, Int.reduceAdd, Int.reduceSub, Int.reduceMul, Int.reduceNeg, Int.reduceBEq, Int.reduceBNe, b_verify_Check, h, r0, s0]
theorem check_ok (k : Nat) (n M : Nat) (cs : List AV) (W : List Sym.Obj) (h : acall T (k + 17) 14 0 [.shr n false cs] [] = some ⟨.tup [.view 0 0 M 1 (some M), .v (.int .i64 0), .v (.int .i64 0)], W, 1⟩) :
    acall T (k + 18) 7 0 [.shr n false cs] [] = some ⟨.tup [.v (.int .i64 0), .v (.int .i64 0)], [], 1⟩ := by
  rw [acall_go (body := b_verify_Check) rfl rfl (Nat.zero_le _)]
  simp -implicitDefEqProofs only [eqs, eqd, aCall, Sym.pos, ↓reduceIte, reduceCtorEq, Nat.reduceEqDiff, Nat.reduceAdd, Nat.reduceSub, Nat.reduceMul, Nat.reduceLT, Nat.reduceLeDiff, Nat.reduceBEq, Nat.reduceBNe, Nat.reduceGT, Int.reduceEq, Int.reduceLT, Int.reduceLE, Int.reduceToNat, Int.reduceAdd, Int.reduceSub, Int.reduceMul, Int.reduceNeg, Int.reduceBEq, Int.reduceBNe, b_verify_Check, h, r0, s0]
end Go.Proofs.Ytlefnekfeeihaaa.Ver

/- Kinds: one round. -/
namespace Go.Proofs.Ytlefnekfeeihaaa.Ver
open Go Go.Proofs.Ytlefnekfeeihaaa.Sym Go.Proofs.Ytlefnekfeeihaaa.Tab
set_option linter.unusedVariables false
set_option linter.unusedSimpArgs false
set_option maxHeartbeats 4000000
set_option maxRecDepth 20000
/-- The kind ahead, -1 where nothing leads. -/
def kd : Option Ah → Int
  | none => -1
  | some a => a.k
def kl (t : List (Option Ah)) : List AV := t.map fun x => .v (.int .i64 (kd x))
def kA (ks : List AV) : AV := if ks = [] then .v (.slice none 0 0) else .shr ks.length false ks
theorem kl_len (t : List (Option Ah)) : (kl t).length = t.length := by simp [kl]
end Go.Proofs.Ytlefnekfeeihaaa.Ver

/- Kinds: the table behind the list that is built. -/
namespace Go.Proofs.Ytlefnekfeeihaaa.Ver
open Go Go.Proofs.Ytlefnekfeeihaaa.Sym Go.Proofs.Ytlefnekfeeihaaa.Tab
set_option linter.unusedVariables false
set_option linter.unusedSimpArgs false
set_option maxHeartbeats 4000000
set_option maxRecDepth 20000
/-- The table behind one object. -/
def sT (t : List (Option Ah)) : List Sym.Obj := ⟨true, true, false, tcl (List.range' 2 (som t).length) t⟩ :: (som t).map fun a => ⟨true, true, true, a.c⟩
/-- A table in memory, anywhere. -/
structure HA (Ω : List Sym.Obj) (z : Nat) (ps : List Nat) (t : List (Option Ah)) : Prop where
  tab : Ω[z]? = some ⟨true, true, false, tcl ps t⟩
  len : ps.length = (som t).length
  obj : ∀ (j : Nat) p a, ps[j]? = some p → (som t)[j]? = some a → Ω[p]? = some ⟨true, true, true, a.c⟩
  nodup : ps.Nodup
  zero : z ∉ ps
  small : ps.length ≤ 300
theorem HA.reach {Ω : List Sym.Obj} {q z : Nat} {ps : List Nat} {t : List (Option Ah)} (h : HA Ω z ps t) (cs : List AV) (hq : Ω[q]? = some ⟨true, true, true, cs⟩) (hqz : q ≠ z) (hqp : q ∉ ps) : reach Ω 400 [q, z] [] = some (q :: z :: ps) := by
  show Sym.reach Ω (398 + 1 + 1) [q, z] [] = _
  rw [Sym.reach, List.contains_nil, if_neg (by decide), hq]
  simp only [if_true]
  show Sym.reach Ω (398 + 1) [z] [q] = _
  have hc : List.contains [q] z = false := by
    rw [List.contains_cons, List.contains_nil, Bool.or_false, beq_eq_false_iff_ne]
    exact fun e => hqz e.symm
  rw [Sym.reach, hc, if_neg (by decide), h.tab]
  simp only [if_true, Bool.false_eq_true, if_false, List.nil_append]
  rw [tcl_refs _ _ h.len]
  show Sym.reach Ω 398 ps [q, z] = _
  rw [reach_flat ps [q, z] 398 (fun k hk => ?_) h.nodup (fun k hk => ?_) (by have := h.small; omega)]
  · rfl
  · obtain ⟨j, hj⟩ := List.mem_iff_getElem?.1 hk
    have hlt := (List.getElem?_eq_some_iff.1 hj).1
    exact ⟨_, h.obj j k _ hj (List.getElem?_eq_getElem (by rw [← h.len]; exact hlt)), rfl⟩
  · intro e
    rcases List.mem_cons.1 e with e | e
    · exact hqp (e ▸ hk)
    · rw [List.mem_singleton] at e
      exact h.zero (e ▸ hk)
theorem pos_list2 {q z : Nat} {ps : List Nat} (hd : ps.Nodup) (h0 : z ∉ ps) (h1 : q ∉ ps) : ps.map (pos (q :: z :: ps)) = List.range' 2 ps.length := by
  apply List.ext_getElem?
  intro j
  rw [List.getElem?_map]
  by_cases c : j < ps.length
  · rw [List.getElem?_eq_getElem c, List.getElem?_range' c]
    have hne : ps[j] ≠ z := fun e => h0 (e ▸ List.getElem_mem c)
    have hnq : ps[j] ≠ q := fun e => h1 (e ▸ List.getElem_mem c)
    show some (List.idxOf ps[j] (q :: z :: ps)) = _
    rw [List.idxOf_cons, show (q == ps[j]) = false by rw [beq_eq_false_iff_ne]; exact fun e => hnq e.symm, cond_false, List.idxOf_cons, show (z == ps[j]) = false by rw [beq_eq_false_iff_ne]; exact fun e => hne e.symm, cond_false, hd.idxOf_getElem j c]
    congr 1
    omega
  · rw [List.getElem?_eq_none (by omega), List.getElem?_eq_none (by simp; omega)]
    rfl
theorem HA.sub {Ω : List Sym.Obj} {q z : Nat} {ps : List Nat} {t : List (Option Ah)} (h : HA Ω z ps t) (cs : List AV) (hq : Ω[q]? = some ⟨true, true, true, cs⟩) (hqz : q ≠ z) (hqp : q ∉ ps) : sub Ω (q :: z :: ps) true = ⟨true, true, true, cs⟩ :: sT t := by
  unfold Sym.sub sT
  rw [List.map_cons, List.map_cons]
  have e1 : Ω.getD q dead0 = ⟨true, true, true, cs⟩ := by rw [List.getD_eq_getElem?_getD, hq]; rfl
  have e0 : Ω.getD z dead0 = ⟨true, true, false, tcl ps t⟩ := by rw [List.getD_eq_getElem?_getD, h.tab]; rfl
  rw [e0, e1]
  congr 1
  congr 1
  · simp only [renO, if_true, Bool.false_eq_true, if_false]
    rw [tcl_ren, pos_list2 h.nodup h.zero hqp, h.len]
    rfl
  · apply List.ext_getElem?
    intro j
    rw [List.getElem?_map, List.getElem?_map]
    by_cases c : j < ps.length
    · have c' : j < (som t).length := by rw [← h.len]; exact c
      have ho := h.obj j _ _ (List.getElem?_eq_getElem c) (List.getElem?_eq_getElem c')
      rw [List.getElem?_eq_getElem c, List.getElem?_eq_getElem c']
      have e1 : Ω.getD ps[j] dead0 = ⟨true, true, true, ((som t)[j]).c⟩ := by rw [List.getD_eq_getElem?_getD, ho]; rfl
      simp only [Option.map_some, e1, renO, if_true]
      rfl
    · rw [List.getElem?_eq_none (by omega), List.getElem?_eq_none (by rw [← h.len]; omega)]
      rfl
theorem pos_q (q : Nat) (l : List Nat) : pos (q :: l) q = 0 := List.idxOf_cons_self
theorem pos_z {q z : Nat} (l : List Nat) (h : q ≠ z) : pos (q :: z :: l) z = 1 := by
  show List.idxOf z (q :: z :: l) = 1
  rw [List.idxOf_cons, show (q == z) = false by rw [beq_eq_false_iff_ne]; exact h, cond_false, List.idxOf_cons_self]
theorem sT_len (t : List (Option Ah)) : (sT t).length = (som t).length + 1 := by unfold sT; simp
/-- Behind the first one. -/
theorem ha_first (t : List (Option Ah)) (hs : (som t).length ≤ 300) (E : List Sym.Obj) : HA (canT t true ++ E) 0 (List.range' 1 (som t).length) t where
  tab := rfl
  len := by simp
  obj := fun j p a hp ha => by
    have hj := (List.getElem?_eq_some_iff.1 ha).1
    rw [List.getElem?_range' hj] at hp
    obtain rfl := Option.some.inj hp
    have hl := canT_len t true
    rw [List.getElem?_append_left (by omega)]
    unfold canT
    rw [show 1 + 1 * j = j + 1 by omega, List.getElem?_cons_succ, List.getElem?_map, ha]
    rfl
  nodup := List.nodup_range'
  zero := by simp
  small := by simpa using hs
/-- Behind another one. -/
theorem ha_next (t : List (Option Ah)) (hs : (som t).length ≤ 300) (d : Sym.Obj) (E : List Sym.Obj) : HA (d :: (sT t ++ E)) 1 (List.range' 2 (som t).length) t where
  tab := rfl
  len := by simp
  obj := fun j p a hp ha => by
    have hj := (List.getElem?_eq_some_iff.1 ha).1
    rw [List.getElem?_range' hj] at hp
    obtain rfl := Option.some.inj hp
    have hl := sT_len t
    rw [show 2 + 1 * j = (j + 1) + 1 by omega, List.getElem?_cons_succ, List.getElem?_append_left (by omega)]
    unfold sT
    rw [List.getElem?_cons_succ, List.getElem?_map, ha]
    rfl
  nodup := List.nodup_range'
  zero := by simp
  small := by simpa using hs
theorem wn1 (t : List (Option Ah)) (d r : Sym.Obj) (cs : List AV) : (d :: (sT t ++ [r] ++ [⟨true, true, true, cs⟩]))[(sT t ++ [r]).length + 1]? = some ⟨true, true, true, cs⟩ := by rw [List.getElem?_cons_succ, wz1]
theorem next_q (t : List (Option Ah)) (r : Sym.Obj) : (sT t ++ [r]).length + 1 ∉ List.range' 2 (som t).length ∧ (sT t ++ [r]).length + 1 ≠ 1 := by rw [List.length_append, sT_len, List.mem_range'_1]; simp; omega
theorem first_q (t : List (Option Ah)) (r : Sym.Obj) : (canT t true ++ [r]).length ∉ List.range' 1 (som t).length ∧ (canT t true ++ [r]).length ≠ 0 := by rw [List.length_append, canT_len, List.mem_range'_1]; simp; omega
theorem next_reach (t : List (Option Ah)) (hs : (som t).length ≤ 300) (d r : Sym.Obj) (cs : List AV) : reach (d :: (sT t ++ [r] ++ [⟨true, true, true, cs⟩])) 400 [(sT t ++ [r]).length + 1, 1] [] = some (((sT t ++ [r]).length + 1) :: 1 :: List.range' 2 (som t).length) := by
  have h := wn1 t d r cs
  rw [List.append_assoc] at h ⊢
  exact (ha_next t hs d _).reach cs h (next_q t r).2 (next_q t r).1
theorem next_sub (t : List (Option Ah)) (hs : (som t).length ≤ 300) (d r : Sym.Obj) (cs : List AV) : sub (d :: (sT t ++ [r] ++ [⟨true, true, true, cs⟩])) (((sT t ++ [r]).length + 1) :: 1 :: List.range' 2 (som t).length) true = ⟨true, true, true, cs⟩ :: sT t := by
  have h := wn1 t d r cs
  rw [List.append_assoc] at h ⊢
  exact (ha_next t hs d _).sub cs h (next_q t r).2 (next_q t r).1
theorem first_reach (t : List (Option Ah)) (hs : (som t).length ≤ 300) (r : Sym.Obj) (cs : List AV) : reach (canT t true ++ [r] ++ [(⟨true, true, true, cs⟩ : Sym.Obj)]) 400 [(canT t true ++ [r]).length, 0] [] = some ((canT t true ++ [r]).length :: 0 :: List.range' 1 (som t).length) := by
  have h := wz1 (canT t true ++ [r]) (⟨true, true, true, cs⟩ : Sym.Obj)
  rw [List.append_assoc] at h ⊢
  exact (ha_first t hs _).reach cs h (first_q t r).2 (first_q t r).1
theorem first_sub (t : List (Option Ah)) (hs : (som t).length ≤ 300) (r : Sym.Obj) (cs : List AV) : sub (canT t true ++ [r] ++ [(⟨true, true, true, cs⟩ : Sym.Obj)]) ((canT t true ++ [r]).length :: 0 :: List.range' 1 (som t).length) true = ⟨true, true, true, cs⟩ :: sT t := by
  have h := wz1 (canT t true ++ [r]) (⟨true, true, true, cs⟩ : Sym.Obj)
  rw [List.append_assoc] at h ⊢
  exact (ha_first t hs _).sub cs h (first_q t r).2 (first_q t r).1
theorem sT_obj (t : List (Option Ah)) {j p : Nat} {a : Ah} (hp : (List.range' 2 (som t).length)[j]? = some p) (ha : (som t)[j]? = some a) (d : Sym.Obj) : (d :: sT t)[p]? = some ⟨true, true, true, a.c⟩ := by
  have hj := (List.getElem?_eq_some_iff.1 ha).1
  rw [List.getElem?_range' hj] at hp
  obtain rfl := Option.some.inj hp
  unfold sT
  rw [show 2 + 1 * j = (j + 1) + 1 by omega, List.getElem?_cons_succ, List.getElem?_cons_succ, List.getElem?_map, ha]
  rfl
end Go.Proofs.Ytlefnekfeeihaaa.Ver

/- Kinds: its loop. -/
namespace Go.Proofs.Ytlefnekfeeihaaa.Ver
open Go Go.Proofs.Ytlefnekfeeihaaa.Sym Go.Proofs.Ytlefnekfeeihaaa.Tab
set_option linter.unusedVariables false
set_option linter.unusedSimpArgs false
set_option maxHeartbeats 4000000
set_option maxRecDepth 20000
/-- The kinds of so many, from one on. -/
def kr (t : List (Option Ah)) : Nat → Nat → List AV
  | 0, _ => []
  | m + 1, i => .v (.int .i64 (kd (t[i]?.getD none))) :: kr t m (i + 1)
theorem kr_len (t : List (Option Ah)) : ∀ m i, (kr t m i).length = m
  | 0, _ => rfl
  | m + 1, i => by rw [kr, List.length_cons, kr_len t m]
theorem kr_at (t : List (Option Ah)) : ∀ m i j, j < m → (kr t m i)[j]? = some (.v (.int .i64 (kd (t[i + j]?.getD none))))
  | 0, _, j, h => by omega
  | m + 1, i, 0, h => rfl
  | m + 1, i, j + 1, h => by
    rw [kr, List.getElem?_cons_succ, kr_at t m (i + 1) j (by omega), show i + 1 + j = i + (j + 1) by omega]
def kst0 (n : Nat) (t : List (Option Ah)) : St := ⟨[(7, .v (.slice none 0 0)), (21, .view 0 0 n 1 (some (n + 1))), (22, .v (.int .i64 n)), (23, .v (.int .i64 0))], canT t true, 1, []⟩
def kst (n : Nat) (t : List (Option Ah)) (i : Nat) (ks : List AV) : St := ⟨[(7, .view 0 0 i 1 none), (21, .view 1 0 n 1 (some (n + 1))), (22, .v (.int .i64 n)), (23, .v (.int .i64 i))], ⟨true, true, true, ks⟩ :: sT t, 1, []⟩
theorem kinds_first (C : CT) (lf n : Nat) (hn : 0 < n) (hn2 : n ≤ 200) (t : List (Option Ah)) (ht : AllIn t) (hlen : t.length = n + 1) (N : Nat) (ks : List It) :
    Lh C lf (some (kst0 n t)) [7, 21, 22, 23] l_verify_Kinds_0 (N + 1) ks = Lh C lf (some (kst n t 1 [.v (.int .i64 (kd (t[0]?.getD none)))])) [7, 21, 22, 23] l_verify_Kinds_0 N ks := by
  have c1 : (0 : Int) < n := by omega
  have hs : (som t).length ≤ 300 := by have := som_le t; omega
  have hx : t[0]? = some t[0] := List.getElem?_eq_getElem (by omega)
  have htl := tcl_len (List.range' 1 (som t).length) t
  rw [hlen] at htl
  have l1 : 0 + 1 ≤ n + 1 := by omega
  have m3 := more_tab t []
  rw [List.append_nil] at m3
  have f1 := fun r => first_reach t hs r [.v (.int .i64 (kd (t[0]?.getD none)))]
  have f2 := fun r => first_sub t hs r [.v (.int .i64 (kd (t[0]?.getD none)))]
  have p1 := fun r => pos_z (List.range' 1 (som t).length) (first_q t r).2
  have p2 := fun r => pos_q (canT t true ++ [r]).length (0 :: List.range' 1 (som t).length)
  have q0 := fun r => (first_q t r).2
  have q1 : ∀ r, ¬ (0 : Nat) = (canT t true ++ [r]).length := fun r e => q0 r e.symm
  rw [hx] at f1 f2 ⊢
  unfold kst0 kst
  rw [lh_as l_verify_Kinds_0.eq_1]
  generalize t[0] = x at *
  cases x with
  | none =>
    have ht0 := tcl_none (List.range' 1 (som t).length) t 0 hx
    simp only [Option.getD_some, kd] at f1 f2 ⊢
    generalize hM : n + 1 = M at *
    generalize canT t true = W at *
    generalize tcl (List.range' 1 (som t).length) t = tc at *
    simp -implicitDefEqProofs only [eqs, eqd, aCall, ↓reduceIte, reduceCtorEq, Nat.reduceEqDiff, Nat.reduceAdd, Nat.reduceSub, Nat.reduceMul, Nat.reduceLT, Nat.reduceLeDiff, Nat.reduceBEq, Nat.reduceBNe, Nat.reduceGT, Int.reduceEq, Int.reduceLT, Int.reduceLE, Int.reduceToNat, Int.reduceAdd, Int.reduceSub, Int.reduceMul, Int.reduceNeg, Int.reduceBEq, Int.reduceBNe, g_verify_Kinds_0, nilp, c1, l1, ht0, htl, m3, f1, f2, p1, p2, q0, q1, r0, s0, wz1, wz2]
  | some a =>
    obtain ⟨p, hp, ht0, hso⟩ := tcl_some (List.range' 1 (som t).length) t 0 a (by simp) hx
    have m4 := more_obj t hs hp hso []
    rw [List.append_nil] at m4
    obtain ⟨ak, an, as1⟩ := a
    simp only [Option.getD_some, kd] at f1 f2 ⊢
    generalize hM : n + 1 = M at *
    generalize canT t true = W at *
    generalize tcl (List.range' 1 (som t).length) t = tc at *
    clear hx hp hso
    cases an <;> simp only [Ah.c, openA, Bool.false_eq_true, if_false, if_true] at m4 <;>
    simp -implicitDefEqProofs only [eqs, eqd, aCall, ↓reduceIte, reduceCtorEq, Nat.reduceEqDiff, Nat.reduceAdd, Nat.reduceSub, Nat.reduceMul, Nat.reduceLT, Nat.reduceLeDiff, Nat.reduceBEq, Nat.reduceBNe, Nat.reduceGT, Int.reduceEq, Int.reduceLT, Int.reduceLE, Int.reduceToNat, Int.reduceAdd, Int.reduceSub, Int.reduceMul, Int.reduceNeg, Int.reduceBEq, Int.reduceBNe, g_verify_Kinds_0, nilp, c1, l1, ht0, htl, m3, m4, f1, f2, p1, p2, q0, q1, r0, s0, wz1, wz2]
theorem kinds_next (C : CT) (lf n : Nat) (hn2 : n ≤ 200) (t : List (Option Ah)) (ht : AllIn t) (hlen : t.length = n + 1) (i : Nat) (hi : i < n) (l : List AV) (hl : l.length = i) (N : Nat) (ks : List It) :
    Lh C lf (some (kst n t i l)) [7, 21, 22, 23] l_verify_Kinds_0 (N + 1) ks = Lh C lf (some (kst n t (i + 1) (l ++ [.v (.int .i64 (kd (t[i]?.getD none)))]))) [7, 21, 22, 23] l_verify_Kinds_0 N ks := by
  have c1 : (i : Int) < n := by omega
  have c0 : (0 : Int) ≤ i := by omega
  have w : IntKind.i64.wrap ((i : Int) + 1) = i + 1 := w64 (by omega) (by omega)
  have hs : (som t).length ≤ 300 := by have := som_le t; omega
  have hx : t[i]? = some t[i] := List.getElem?_eq_getElem (by omega)
  have htl := tcl_len (List.range' 2 (som t).length) t
  rw [hlen] at htl
  have l1 : i + 1 ≤ n + 1 := by omega
  have l2 : ¬ i + 1 ≤ i := by omega
  have l3 : (i + 1) * 8 ≤ 140737488355328 := by omega
  have l4 : i ≤ 9223372036854775806 := by omega
  have lt : l.take i = l := by rw [← hl, List.take_length]
  have m3 : ∀ d : Sym.Obj, (d :: sT t)[1]? = some ⟨true, true, false, tcl (List.range' 2 (som t).length) t⟩ := fun d => rfl
  have f1 := fun d r => next_reach t hs d r (l ++ [.v (.int .i64 (kd (t[i]?.getD none)))])
  have f2 := fun d r => next_sub t hs d r (l ++ [.v (.int .i64 (kd (t[i]?.getD none)))])
  have p1 := fun r => pos_z (List.range' 2 (som t).length) (next_q t r).2
  have p2 := fun r => pos_q ((sT t ++ [r]).length + 1) (1 :: List.range' 2 (som t).length)
  have q0 := fun r => (next_q t r).2
  have q1 : ∀ r, ¬ (1 : Nat) = (sT t ++ [r]).length + 1 := fun r e => q0 r e.symm
  rw [hx] at f1 f2 ⊢
  unfold kst
  rw [lh_as l_verify_Kinds_0.eq_1]
  generalize t[i] = x at *
  cases x with
  | none =>
    have ht0 := tcl_none (List.range' 2 (som t).length) t i hx
    simp only [Option.getD_some, kd] at f1 f2 ⊢
    generalize hM : n + 1 = M at *
    generalize sT t = W at *
    generalize tcl (List.range' 2 (som t).length) t = tc at *
    simp -implicitDefEqProofs only [eqs, eqd, aCall, ↓reduceIte, reduceCtorEq, Nat.reduceEqDiff, Nat.reduceAdd, Nat.reduceSub, Nat.reduceMul, Nat.reduceLT, Nat.reduceLeDiff, Nat.reduceBEq, Nat.reduceBNe, Nat.reduceGT, Int.reduceEq, Int.reduceLT, Int.reduceLE, Int.reduceToNat, Int.reduceAdd, Int.reduceSub, Int.reduceMul, Int.reduceNeg, Int.reduceBEq, Int.reduceBNe, g_verify_Kinds_0, nilp, c0, c1, w, hl, l1, l2, l3, l4, lt, ht0, htl, m3, f1, f2, p1, p2, q0, q1, r0, s0, wz1, wz2, Int.toNat_natCast, Int.natCast_add]
  | some a =>
    obtain ⟨p, hp, ht0, hso⟩ := tcl_some (List.range' 2 (som t).length) t i a (by simp) hx
    have m4 := fun d => sT_obj t hp hso d
    obtain ⟨ak, an, as1⟩ := a
    simp only [Option.getD_some, kd] at f1 f2 ⊢
    generalize hM : n + 1 = M at *
    generalize sT t = W at *
    generalize tcl (List.range' 2 (som t).length) t = tc at *
    clear hx hp hso
    cases an <;> simp only [Ah.c, openA, Bool.false_eq_true, if_false, if_true] at m4 <;>
    simp -implicitDefEqProofs only [eqs, eqd, aCall, ↓reduceIte, reduceCtorEq, Nat.reduceEqDiff, Nat.reduceAdd, Nat.reduceSub, Nat.reduceMul, Nat.reduceLT, Nat.reduceLeDiff, Nat.reduceBEq, Nat.reduceBNe, Nat.reduceGT, Int.reduceEq, Int.reduceLT, Int.reduceLE, Int.reduceToNat, Int.reduceAdd, Int.reduceSub, Int.reduceMul, Int.reduceNeg, Int.reduceBEq, Int.reduceBNe, g_verify_Kinds_0, nilp, c0, c1, w, hl, l1, l2, l3, l4, lt, ht0, htl, m3, m4, f1, f2, p1, p2, q0, q1, r0, s0, wz1, wz2, Int.toNat_natCast, Int.natCast_add]
noncomputable abbrev kfin (C : CT) (lf : Nat) (s : St) (N : Nat) : Option Res := FnR [.t 2, .t 3] false false (Lh C lf (some s) [7, 21, 22, 23] l_verify_Kinds_0 N [.b 0, .c l_verify_Kinds_1])
theorem kinds_fin (C : CT) (lf n : Nat) (t : List (Option Ah)) (l : List AV) (N : Nat) : kfin C lf (kst n t n l) N = some ⟨.tup [.view 0 0 n 1 none, .v (.bool true)], [⟨true, true, true, l⟩], 1⟩ := by
  have c1 : ¬ (n : Int) < n := by omega
  unfold kfin kst
  rw [lh_as l_verify_Kinds_0.eq_1]
  have m1 : ∀ W, reach (⟨true, true, true, l⟩ :: W) 400 [0] [] = some [0] := fun W => rfl
  have m2 : ∀ W, sub (⟨true, true, true, l⟩ :: W) [0] true = [⟨true, true, true, l⟩] := fun W => rfl
  generalize sT t = W at *
  simp -implicitDefEqProofs only [eqs, eqd, aCall, Sym.pos, ↓reduceIte, reduceCtorEq, Nat.reduceEqDiff, Nat.reduceAdd, Nat.reduceSub, Nat.reduceMul, Nat.reduceLT, Nat.reduceLeDiff, Nat.reduceBEq, Nat.reduceBNe, Nat.reduceGT, Int.reduceEq, Int.reduceLT, Int.reduceLE, Int.reduceToNat, Int.reduceAdd, Int.reduceSub, Int.reduceMul, Int.reduceNeg, Int.reduceBEq, Int.reduceBNe, g_verify_Kinds_0, l_verify_Kinds_1, c1, m1, m2, r0, s0]
theorem kinds_fin0 (C : CT) (lf : Nat) (t : List (Option Ah)) (N : Nat) : kfin C lf (kst0 0 t) N = some ⟨.tup [.v (.slice none 0 0), .v (.bool true)], [], 1⟩ := by
  unfold kfin kst0
  rw [lh_as l_verify_Kinds_0.eq_1]
  simp -implicitDefEqProofs only [eqs, eqd, aCall, Sym.pos, ↓reduceIte, reduceCtorEq, Nat.reduceEqDiff, Nat.reduceAdd, Nat.reduceSub, Nat.reduceMul, Nat.reduceLT, Nat.reduceLeDiff, Nat.reduceBEq, Nat.reduceBNe, Nat.reduceGT, Int.reduceEq, Int.reduceLT, Int.reduceLE, Int.reduceToNat, Int.reduceAdd, Int.reduceSub, Int.reduceMul, Int.reduceNeg, Int.reduceBEq, Int.reduceBNe, g_verify_Kinds_0, l_verify_Kinds_1, r0, s0]
theorem kinds_run (C : CT) (lf n : Nat) (hn2 : n ≤ 200) (t : List (Option Ah)) (ht : AllIn t) (hlen : t.length = n + 1) : ∀ (m i N : Nat) (l : List AV), i + m = n → m ≤ N → l.length = i → kfin C lf (kst n t i l) N = some ⟨.tup [.view 0 0 n 1 none, .v (.bool true)], [⟨true, true, true, l ++ kr t m i⟩], 1⟩
  | 0, i, N, l, hi, hN, hl => by
    obtain rfl : i = n := by omega
    rw [kr, List.append_nil]
    exact kinds_fin C lf i t l N
  | m + 1, i, N, l, hi, hN, hl => by
    obtain ⟨N, rfl⟩ : ∃ M, N = M + 1 := ⟨N - 1, by omega⟩
    have := kinds_run C lf n hn2 t ht hlen m (i + 1) N (l ++ [.v (.int .i64 (kd (t[i]?.getD none)))]) (by omega) (by omega) (by simp [hl])
    unfold kfin at this ⊢
    rw [kinds_next C lf n hn2 t ht hlen i (by omega) l hl N _, this, kr, List.append_assoc]
    rfl
def kres (n : Nat) (t : List (Option Ah)) : Res := if n = 0 then ⟨.tup [.v (.slice none 0 0), .v (.bool true)], [], 1⟩ else ⟨.tup [.view 0 0 n 1 none, .v (.bool true)], [⟨true, true, true, kr t n 0⟩], 1⟩
theorem kinds_all (C : CT) (lf n : Nat) (hn2 : n ≤ 200) (t : List (Option Ah)) (ht : AllIn t) (hlen : t.length = n + 1) (N : Nat) (hN : n ≤ N) : kfin C lf (kst0 n t) N = some (kres n t) := by
  unfold kres
  by_cases c : n = 0
  · subst c
    exact kinds_fin0 C lf t N
  · rw [if_neg c]
    obtain ⟨m, rfl⟩ : ∃ m, n = m + 1 := ⟨n - 1, by omega⟩
    obtain ⟨N, rfl⟩ : ∃ M, N = M + 1 := ⟨N - 1, by omega⟩
    have := kinds_run C lf (m + 1) hn2 t ht hlen m 1 N [.v (.int .i64 (kd (t[0]?.getD none)))] (by omega) (by omega) rfl
    unfold kfin at this ⊢
    rw [kinds_first C lf (m + 1) (by omega) hn2 t ht hlen N, this, kr]
    rfl
end Go.Proofs.Ytlefnekfeeihaaa.Ver

/- Kinds, the program's. -/
namespace Go.Proofs.Ytlefnekfeeihaaa.Ver
open Go Go.Proofs.Ytlefnekfeeihaaa.Sym Go.Proofs.Ytlefnekfeeihaaa.Tab
set_option linter.unusedVariables false
set_option linter.unusedSimpArgs false
set_option maxHeartbeats 4000000
set_option maxRecDepth 20000
theorem kinds_err (k : Nat) (e p : Int) (he : e ≠ 0) (d : Nat) (hd : d ≤ 1) (x : AV) (hx : ∃ n cs, x = .shr n false cs ∧ cs.all atom = true ∧ cs.all flat0 = true) (h : acall T (k + 17) 14 0 [x] [] = some ⟨.tup [.v (.slice none 0 0), .v (.int .i64 e), .v (.int .i64 p)], [], d⟩) :
    ∃ d', acall T (k + 18) 9 0 [x] [] = some ⟨.tup [.v (.slice none 0 0), .v (.bool false)], [], d'⟩ ∧ d' ≤ 1 := by
  obtain ⟨n, cs, rfl, h1, h2⟩ := hx
  refine ⟨d, ?_, hd⟩
  rw [acall_go (body := b_verify_Kinds) rfl rfl (Nat.zero_le _)]
  have he' : (e != 0) = true := by simpa using he
  have hdd : d = 0 ∨ d = 1 := by omega
  rcases hdd with rfl | rfl <;> simp -implicitDefEqProofs only [eqs, eqd, aCall, Sym.reach, Sym.pos, ↓reduceIte, reduceCtorEq, Nat.reduceEqDiff, Nat.reduceAdd, Nat.reduceSub, Nat.reduceMul, Nat.reduceLT, Nat.reduceLeDiff, Nat.reduceBEq, Nat.reduceBNe, Nat.reduceGT, Int.reduceEq, Int.reduceLT, Int.reduceLE, Int.reduceToNat, Int.reduceAdd, Int.reduceSub, Int.reduceMul, Int.reduceNeg, Int.reduceBEq, Int.reduceBNe, b_verify_Kinds, g_verify_Kinds_0, h, he', r0, s0]
theorem canT_merge (t : List (Option Ah)) : (canT t true).map (mergeO [] [] 0) = canT t true := by
  have hg : ∀ j, gmap [] 0 ([] : List Sym.Obj).length j = j := fun j => by
    unfold gmap
    rw [if_neg (by omega)]
    show 0 + (j - 0) = j
    omega
  unfold canT
  rw [List.map_cons, List.map_map]
  congr 1
  · unfold mergeO renO
    simp only [if_true, Bool.false_eq_true, if_false, Bool.true_or]
    rw [tcl_ren, show (List.range' 1 (som t).length).map (gmap [] 0 ([] : List Sym.Obj).length) = List.range' 1 (som t).length from by
      conv => rhs; rw [← List.map_id (List.range' 1 (som t).length)]
      exact List.map_congr_left fun j _ => hg j]
theorem kinds_ok (k : Nat) (hk : 200 ≤ k) (n : Nat) (hn : n ≤ 200) (t : List (Option Ah)) (ht : AllIn t) (hlen : t.length = n + 1) (cs : List AV) (h : acall T (k + 17) 14 0 [.shr n false cs] [] = some ⟨.tup [.view 0 0 (n + 1) 1 (some (n + 1)), .v (.int .i64 0), .v (.int .i64 0)], canT t true, 1⟩) :
    acall T (k + 18) 9 0 [.shr n false cs] [] = some (kres n t) := by
  rw [acall_go (body := b_verify_Kinds) rfl rfl (Nat.zero_le _), ← kinds_all (acall T (k + 17)) (k + 17) n hn t ht hlen (k + 16) (by omega)]
  have lp : ∀ (ks : List It) (s : St), Lp (acall T (k + 17)) (k + 17) [7, 21, 22, 23] l_verify_Kinds_0 (k + 17) ks s = Lh (acall T (k + 17)) (k + 17) (canon [7, 21, 22, 23] s) [7, 21, 22, 23] l_verify_Kinds_0 (k + 16) ks := fun ks s => lp_succ (n := k + 16)
  have hs : (som t).length ≤ 300 := by have := som_le t; omega
  have hT := canT_has t true hs
  have q1 := hT.reach
  have q2 := hT.sub true (fun _ => rfl)
  rw [Bool.and_true] at q2
  have n1 : n ≤ n + 1 := by omega
  have q3 := canT_merge t
  unfold kfin kst0
  clear hT
  generalize hM : n + 1 = M at *
  generalize canT t true = W at *
  generalize List.range' 1 (som t).length = ps at *
  simp -implicitDefEqProofs only [eqs, eqd, aCall, ↓reduceIte, reduceCtorEq, Nat.reduceEqDiff, Nat.reduceAdd, Nat.reduceSub, Nat.reduceMul, Nat.reduceLT, Nat.reduceLeDiff, Nat.reduceBEq, Nat.reduceBNe, Nat.reduceGT, Int.reduceEq, Int.reduceLT, Int.reduceLE, Int.reduceToNat, Int.reduceAdd, Int.reduceSub, Int.reduceMul, Int.reduceNeg, Int.reduceBEq, Int.reduceBNe, b_verify_Kinds, g_verify_Kinds_0, h, r0, s0, pos_q, q1, q2, q3, n1, lp, Int.toNat_natCast, Int.natCast_zero]
end Go.Proofs.Ytlefnekfeeihaaa.Ver

/- awake answers true. -/
namespace Go.Proofs.Ytlefnekfeeihaaa.VAwk
open Go Go.Proofs.Ytlefnekfeeihaaa.Sym Go.Proofs.Ytlefnekfeeihaaa.Tab
theorem awake_a : acall T 299 6 0 [] [] = some ⟨.v (.bool true), [], 1⟩ := by kernel_rfl
end Go.Proofs.Ytlefnekfeeihaaa.VAwk

/- The law VerifyChecks: its loop. -/
namespace Go.Proofs.Ytlefnekfeeihaaa.Ver
open Go Go.Proofs.Ytlefnekfeeihaaa.Sym Go.Proofs.Ytlefnekfeeihaaa.Tab
set_option linter.unusedVariables false
set_option linter.unusedSimpArgs false
set_option maxHeartbeats 4000000
set_option maxRecDepth 20000
theorem run_in (L : List Ins) (hL : L.length ≤ 200) (hin : ∀ (i : Nat) (h : i < L.length), L[i].In) : ∀ (m i : Nat) (t : List (Option Ah)), i + m = L.length → AllIn t → t.length = L.length + 1 → AllIn (run L m i t).2.2 ∧ (run L m i t).2.2.length = L.length + 1
  | 0, i, t, hi, ht, hlen => ⟨ht, hlen⟩
  | m + 1, i, t, hi, ht, hlen => by
    have h : i < L.length := by omega
    have h1 := (all_step 0 0 L hL t ht hlen i h (hin i h) 0).1
    rw [run, dif_pos h]
    by_cases c : (stp L.length i t L[i]).1 = 0
    · rw [if_pos c]
      exact run_in L hL hin m (i + 1) _ (by omega) (h1 c).2.1 (h1 c).2.2
    · rw [if_neg c]
      exact ⟨ht, hlen⟩
def vst (n : Nat) (cs : List AV) (t : List (Option Ah)) (i : Nat) : St := ⟨[(0, .shr n false cs), (5, .view 0 0 (n + 1) 3 (some (n + 1))), (8, .view 1 0 n 1 none), (51, .v (.int .i64 n)), (52, .v (.int .i64 i))], [⟨true, true, true, rr t⟩, ⟨true, true, true, kr t n 0⟩], 1, []⟩
noncomputable abbrev vfin (C : CT) (lf : Nat) (s : St) (N : Nat) : Option Res := FnR [.t 2] false false (Lh C lf (some s) [0, 5, 8, 51, 52] l_fuglemanlaw14_VerifyChecks_0 N [.b 0, .c l_fuglemanlaw14_VerifyChecks_1])
theorem vch_next (C : CT) (lf n : Nat) (hn : n ≤ 200) (cs : List AV) (t : List (Option Ah)) (hlen : t.length = n + 1) (i : Nat) (hi : i < n) (N : Nat) (ks : List It) :
    Lh C lf (some (vst n cs t i)) [0, 5, 8, 51, 52] l_fuglemanlaw14_VerifyChecks_0 (N + 1) ks = Lh C lf (some (vst n cs t (i + 1))) [0, 5, 8, 51, 52] l_fuglemanlaw14_VerifyChecks_0 N ks := by
  have c1 : (i : Int) < n := by omega
  have c0 : (0 : Int) ≤ i := by omega
  have c2 : (i : Int) < ((n + 1 : Nat) : Int) := by omega
  have c3 : ¬ (n : Int) ≤ i := by omega
  have w : IntKind.i64.wrap ((i : Int) + 1) = i + 1 := w64 (by omega) (by omega)
  have hx : t[i]? = some t[i] := List.getElem?_eq_getElem (by omega)
  have z0 : (rr t)[i * 3]? = (ra t[i])[0]? := rr_at hx (j := 0) (by decide)
  have z1 : (rr t)[i * 3 + 1]? = (ra t[i])[1]? := rr_at hx (j := 1) (by decide)
  have hk := kr_at t n 0 i hi
  rw [Nat.zero_add, hx, Option.getD_some] at hk
  unfold vst
  rw [lh_as l_fuglemanlaw14_VerifyChecks_0.eq_1]
  generalize t[i] = x at *
  generalize rr t = R at *
  generalize kr t n 0 = K at *
  generalize hM : n + 1 = M at *
  cases x with
  | none =>
    simp only [ra, List.getElem?_cons_zero, List.getElem?_cons_succ] at z0 z1
    simp only [kd] at hk
    simp -implicitDefEqProofs only [eqs, eqd, aCall, Sym.reach, Sym.pos, Sym.sub, ↓reduceIte, reduceCtorEq, Nat.reduceEqDiff, Nat.reduceAdd, Nat.reduceSub, Nat.reduceMul, Nat.reduceLT, Nat.reduceLeDiff, Nat.reduceBEq, Nat.reduceBNe, Nat.reduceGT, Int.reduceEq, Int.reduceLT, Int.reduceLE, Int.reduceToNat, Int.reduceAdd, Int.reduceSub, Int.reduceMul, Int.reduceNeg, Int.reduceBEq, Int.reduceBNe, nx_nil, c0, c1, c2, c3, w, z0, z1, hk, Int.toNat_natCast, Int.natCast_add]
  | some a =>
    simp only [ra, rc, List.getElem?_cons_zero, List.getElem?_cons_succ] at z0 z1
    simp only [kd] at hk
    simp -implicitDefEqProofs only [eqs, eqd, aCall, Sym.reach, Sym.pos, Sym.sub, ↓reduceIte, reduceCtorEq, Nat.reduceEqDiff, Nat.reduceAdd, Nat.reduceSub, Nat.reduceMul, Nat.reduceLT, Nat.reduceLeDiff, Nat.reduceBEq, Nat.reduceBNe, Nat.reduceGT, Int.reduceEq, Int.reduceLT, Int.reduceLE, Int.reduceToNat, Int.reduceAdd, Int.reduceSub, Int.reduceMul, Int.reduceNeg, Int.reduceBEq, Int.reduceBNe, nx_nil, c0, c1, c2, c3, w, z0, z1, hk, Int.toNat_natCast, Int.natCast_add]
theorem vch_end (C : CT) (lf n : Nat) (cs : List AV) (t : List (Option Ah)) (N : Nat) : vfin C lf (vst n cs t n) N = some ⟨.v (.bool true), [], 1⟩ := by
  have c1 : ¬ (n : Int) < n := by omega
  unfold vfin vst
  rw [lh_as l_fuglemanlaw14_VerifyChecks_0.eq_1]
  simp -implicitDefEqProofs only [eqs, eqd, aCall, Sym.reach, Sym.pos, Sym.sub, ↓reduceIte, reduceCtorEq, Nat.reduceEqDiff, Nat.reduceAdd, Nat.reduceSub, Nat.reduceMul, Nat.reduceLT, Nat.reduceLeDiff, Nat.reduceBEq, Nat.reduceBNe, Nat.reduceGT, Int.reduceEq, Int.reduceLT, Int.reduceLE, Int.reduceToNat, Int.reduceAdd, Int.reduceSub, Int.reduceMul, Int.reduceNeg, Int.reduceBEq, Int.reduceBNe, nx_nil, l_fuglemanlaw14_VerifyChecks_1, c1]
theorem vch_run (C : CT) (lf n : Nat) (hn : n ≤ 200) (cs : List AV) (t : List (Option Ah)) (hlen : t.length = n + 1) : ∀ (m i N : Nat), i + m = n → m ≤ N → vfin C lf (vst n cs t i) N = some ⟨.v (.bool true), [], 1⟩
  | 0, i, N, hi, hN => by
    obtain rfl : i = n := by omega
    exact vch_end C lf i cs t N
  | m + 1, i, N, hi, hN => by
    obtain ⟨N, rfl⟩ : ∃ M, N = M + 1 := ⟨N - 1, by omega⟩
    have := vch_run C lf n hn cs t hlen m (i + 1) N (by omega) (by omega)
    unfold vfin at this ⊢
    rw [vch_next C lf n hn cs t hlen i (by omega) N _, this]
end Go.Proofs.Ytlefnekfeeihaaa.Ver

/- A table behind other objects. -/
namespace Go.Proofs.Ytlefnekfeeihaaa.Ver
open Go Go.Proofs.Ytlefnekfeeihaaa.Sym Go.Proofs.Ytlefnekfeeihaaa.Tab
set_option linter.unusedVariables false
set_option linter.unusedSimpArgs false
set_option maxHeartbeats 4000000
set_option maxRecDepth 20000
/-- The table at a number. -/
def tT (z : Nat) (t : List (Option Ah)) : List Sym.Obj := ⟨true, true, false, tcl (List.range' (z + 1) (som t).length) t⟩ :: (som t).map fun a => ⟨true, true, true, a.c⟩
theorem tT_len (z : Nat) (t : List (Option Ah)) : (tT z t).length = (som t).length + 1 := by unfold tT; simp
theorem canT_off (Ω : List Sym.Obj) (t : List (Option Ah)) : (canT t true).map (mergeO Ω [] 0) = tT Ω.length t := by
  have hg : ∀ j, gmap [] 0 Ω.length j = Ω.length + j := fun j => by
    unfold gmap
    rw [if_neg (by omega), Nat.sub_zero]
  unfold canT tT
  rw [List.map_cons, List.map_map]
  congr 1
  unfold mergeO renO
  simp only [if_true, Bool.false_eq_true, if_false, Bool.true_or]
  rw [tcl_ren, show (List.range' 1 (som t).length).map (gmap [] 0 Ω.length) = List.range' (Ω.length + 1) (som t).length from by
    rw [show gmap [] 0 Ω.length = (fun j => Ω.length + j) from funext hg, List.map_add_range']]
theorem tT_ha (z : Nat) (A : List Sym.Obj) (hA : A.length = z) (t : List (Option Ah)) (hs : (som t).length ≤ 300) (E : List Sym.Obj) : HA (A ++ (tT z t ++ E)) z (List.range' (z + 1) (som t).length) t where
  tab := by rw [List.getElem?_append_right (by omega), hA, Nat.sub_self]; rfl
  len := by simp
  obj := fun j p a hp ha => by
    have hj := (List.getElem?_eq_some_iff.1 ha).1
    rw [List.getElem?_range' hj] at hp
    obtain rfl := Option.some.inj hp
    have hl := tT_len z t
    rw [List.getElem?_append_right (by omega), hA, show z + 1 + 1 * j - z = j + 1 by omega, List.getElem?_append_left (by omega)]
    unfold tT
    rw [List.getElem?_cons_succ, List.getElem?_map, ha]
    rfl
  nodup := List.nodup_range'
  zero := by rw [List.mem_range'_1]; omega
  small := by simpa using hs
theorem t2_reach (t : List (Option Ah)) (hs : (som t).length ≤ 300) (c1 c2 : List AV) (E : List Sym.Obj) : reach (⟨true, true, true, c1⟩ :: ⟨true, true, true, c2⟩ :: (tT 2 t ++ E)) 400 [0, 1, 2] [] = some (0 :: 1 :: 2 :: List.range' 3 (som t).length) := by
  have h := tT_ha 2 [⟨true, true, true, c1⟩, ⟨true, true, true, c2⟩] rfl t hs E
  have e : ([⟨true, true, true, c1⟩, ⟨true, true, true, c2⟩] ++ (tT 2 t ++ E) : List Sym.Obj) = ⟨true, true, true, c1⟩ :: ⟨true, true, true, c2⟩ :: (tT 2 t ++ E) := rfl
  rw [e] at h
  generalize hΩ : (⟨true, true, true, c1⟩ :: ⟨true, true, true, c2⟩ :: (tT 2 t ++ E) : List Sym.Obj) = Ω at h ⊢
  have h0 : Ω[0]? = some ⟨true, true, true, c1⟩ := by rw [← hΩ]; rfl
  have h1 : Ω[1]? = some ⟨true, true, true, c2⟩ := by rw [← hΩ]; rfl
  show Sym.reach Ω (397 + 1 + 1 + 1) [0, 1, 2] [] = _
  rw [Sym.reach, List.contains_nil, if_neg (by decide), h0]
  show Sym.reach Ω (397 + 1 + 1) [1, 2] [0] = _
  rw [Sym.reach, if_neg (by decide), h1]
  show Sym.reach Ω (397 + 1) [2] [0, 1] = _
  rw [Sym.reach, if_neg (by decide), h.tab]
  simp only [if_true, Bool.false_eq_true, if_false, List.nil_append]
  rw [tcl_refs _ _ h.len]
  show Sym.reach Ω 397 (List.range' (2 + 1) (som t).length) [0, 1, 2] = _
  rw [reach_flat (List.range' (2 + 1) (som t).length) [0, 1, 2] 397 (fun k hk => ?_) h.nodup (fun k hk => ?_) (by have := h.small; omega)]
  · rfl
  · obtain ⟨j, hj⟩ := List.mem_iff_getElem?.1 hk
    have hlt := (List.getElem?_eq_some_iff.1 hj).1
    exact ⟨_, h.obj j k _ hj (List.getElem?_eq_getElem (by rw [← h.len]; exact hlt)), rfl⟩
  · rw [List.mem_range'_1] at hk
    simp only [List.mem_cons, List.not_mem_nil, or_false]
    omega
theorem pos_list3 (n : Nat) : (List.range' 3 n).map (pos (0 :: 1 :: 2 :: List.range' 3 n)) = List.range' 3 n := by
  apply List.ext_getElem?
  intro j
  rw [List.getElem?_map]
  by_cases c : j < n
  · rw [List.getElem?_range' c]
    show some (List.idxOf (3 + 1 * j) (0 :: 1 :: 2 :: List.range' 3 n)) = _
    have hj : (List.range' 3 n)[j]'(by simpa using c) = 3 + 1 * j := List.getElem_range' _
    rw [List.idxOf_cons, show ((0 : Nat) == 3 + 1 * j) = false by rw [beq_eq_false_iff_ne]; omega, cond_false, List.idxOf_cons, show ((1 : Nat) == 3 + 1 * j) = false by rw [beq_eq_false_iff_ne]; omega, cond_false, List.idxOf_cons, show ((2 : Nat) == 3 + 1 * j) = false by rw [beq_eq_false_iff_ne]; omega, cond_false]
    have hd : (List.range' 3 n).Nodup := List.nodup_range'
    have := hd.idxOf_getElem j (by simpa using c)
    rw [hj] at this
    rw [this]
    congr 1
    omega
  · rw [List.getElem?_eq_none (by simpa using c)]
    rfl
theorem t2_sub (t : List (Option Ah)) (hs : (som t).length ≤ 300) (c1 c2 : List AV) (E : List Sym.Obj) : sub (⟨true, true, true, c1⟩ :: ⟨true, true, true, c2⟩ :: (tT 2 t ++ E)) (0 :: 1 :: 2 :: List.range' 3 (som t).length) true = ⟨true, true, true, c1⟩ :: ⟨true, true, true, c2⟩ :: tT 2 t := by
  have h := tT_ha 2 [⟨true, true, true, c1⟩, ⟨true, true, true, c2⟩] rfl t hs E
  have e : ([⟨true, true, true, c1⟩, ⟨true, true, true, c2⟩] ++ (tT 2 t ++ E) : List Sym.Obj) = ⟨true, true, true, c1⟩ :: ⟨true, true, true, c2⟩ :: (tT 2 t ++ E) := rfl
  rw [e] at h
  generalize hΩ : (⟨true, true, true, c1⟩ :: ⟨true, true, true, c2⟩ :: (tT 2 t ++ E) : List Sym.Obj) = Ω at h ⊢
  have e0 : Ω.getD 0 dead0 = ⟨true, true, true, c1⟩ := by rw [← hΩ]; rfl
  have e1 : Ω.getD 1 dead0 = ⟨true, true, true, c2⟩ := by rw [← hΩ]; rfl
  have e2 : Ω.getD 2 dead0 = ⟨true, true, false, tcl (List.range' 3 (som t).length) t⟩ := by rw [List.getD_eq_getElem?_getD, h.tab]; rfl
  unfold Sym.sub tT
  rw [List.map_cons, List.map_cons, List.map_cons, e0, e1, e2]
  congr 1
  congr 1
  congr 1
  · simp only [renO, if_true, Bool.false_eq_true, if_false]
    rw [tcl_ren, pos_list3]
    rfl
  · apply List.ext_getElem?
    intro j
    rw [List.getElem?_map, List.getElem?_map]
    by_cases c : j < (som t).length
    · have hp : (List.range' 3 (som t).length)[j]? = some (3 + 1 * j) := List.getElem?_range' c
      have ho := h.obj j _ _ hp (List.getElem?_eq_getElem c)
      rw [hp, List.getElem?_eq_getElem c]
      have e1 : Ω.getD (3 + 1 * j) dead0 = ⟨true, true, true, ((som t)[j]).c⟩ := by rw [List.getD_eq_getElem?_getD, ho]; rfl
      simp only [Option.map_some, e1, renO, if_true]
      rfl
    · rw [List.getElem?_eq_none (by simp; omega), List.getElem?_eq_none (by omega)]
      rfl
end Go.Proofs.Ytlefnekfeeihaaa.Ver

/- The bytes that a program touches: one round of the program's. -/
namespace Go.Proofs.Ytlefnekfeeihaaa.Ver
open Go Go.Proofs.Ytlefnekfeeihaaa.Sym Go.Proofs.Ytlefnekfeeihaaa.Tab
set_option linter.unusedVariables false
set_option linter.unusedSimpArgs false
set_option maxHeartbeats 4000000
set_option maxRecDepth 20000
def stI (i : Ins) : Bool := decide (3 ≤ i.op) && decide (i.op ≤ 6)
/-- Is it one that was asked for? -/
def askI (w : Bool) (i : Ins) : Bool := if w = true then stI i || decide (34 ≤ i.op) else !stI i
def askF (w : Bool) : Nat := if w = true then 23 else 25
theorem stores_a (k : Nat) (i : Ins) : acall T (k + 1) 24 0 [.agg i.c] [] = some ⟨.v (.bool (stI i)), [], 1⟩ := by
  rw [acall_go (body := b_verify_stores) rfl rfl (Nat.zero_le _)]
  unfold stI
  obtain ⟨op, ik, ar, at_, nn⟩ := i
  by_cases c : 3 ≤ op
  · by_cases d : op ≤ 6 <;> simp -implicitDefEqProofs only [eqs, eqd, aCall, Sym.reach, Sym.pos, Sym.sub, lh_some, ↓reduceIte, reduceCtorEq, Nat.reduceEqDiff, Nat.reduceAdd, Nat.reduceSub, Nat.reduceMul, Nat.reduceLT, Nat.reduceLeDiff, Nat.reduceBEq, Nat.reduceBNe, Nat.reduceGT, Int.reduceEq, Int.reduceLT, Int.reduceLE, Int.reduceToNat, Int.reduceAdd, Int.reduceSub, Int.reduceMul, Int.reduceNeg, Int.reduceBEq, Int.reduceBNe, b_verify_stores, Ins.c, c, d]
  · simp -implicitDefEqProofs only [eqs, eqd, aCall, Sym.reach, Sym.pos, Sym.sub, lh_some, ↓reduceIte, reduceCtorEq, Nat.reduceEqDiff, Nat.reduceAdd, Nat.reduceSub, Nat.reduceMul, Nat.reduceLT, Nat.reduceLeDiff, Nat.reduceBEq, Nat.reduceBNe, Nat.reduceGT, Int.reduceEq, Int.reduceLT, Int.reduceLE, Int.reduceToNat, Int.reduceAdd, Int.reduceSub, Int.reduceMul, Int.reduceNeg, Int.reduceBEq, Int.reduceBNe, b_verify_stores, Ins.c, c]
theorem ask_a (k : Nat) (w : Bool) (i : Ins) : acall T (k + 2) (askF w) 0 [.agg i.c] [] = some ⟨.v (.bool (askI w i)), [], 1⟩ := by
  have h := stores_a k i
  unfold askF askI
  cases w
  · simp only [Bool.false_eq_true, if_false]
    rw [acall_go (body := b_verify_Reads_1) rfl rfl (Nat.zero_le _)]
    obtain ⟨op, ik, ar, at_, nn⟩ := i
    simp only [Ins.c] at h
    simp -implicitDefEqProofs only [eqs, eqd, aCall, Sym.reach, Sym.pos, Sym.sub, lh_some, ↓reduceIte, reduceCtorEq, Nat.reduceEqDiff, Nat.reduceAdd, Nat.reduceSub, Nat.reduceMul, Nat.reduceLT, Nat.reduceLeDiff, Nat.reduceBEq, Nat.reduceBNe, Nat.reduceGT, Int.reduceEq, Int.reduceLT, Int.reduceLE, Int.reduceToNat, Int.reduceAdd, Int.reduceSub, Int.reduceMul, Int.reduceNeg, Int.reduceBEq, Int.reduceBNe, b_verify_Reads_1, Ins.c, h]
  · simp only [if_true]
    rw [acall_go (body := b_verify_Writes_1) rfl rfl (Nat.zero_le _)]
    cases hs : stI i
    · rw [hs] at h
      obtain ⟨op, ik, ar, at_, nn⟩ := i
      simp only [Ins.c] at h
      simp -implicitDefEqProofs only [eqs, eqd, aCall, Sym.reach, Sym.pos, Sym.sub, lh_some, ↓reduceIte, reduceCtorEq, Nat.reduceEqDiff, Nat.reduceAdd, Nat.reduceSub, Nat.reduceMul, Nat.reduceLT, Nat.reduceLeDiff, Nat.reduceBEq, Nat.reduceBNe, Nat.reduceGT, Int.reduceEq, Int.reduceLT, Int.reduceLE, Int.reduceToNat, Int.reduceAdd, Int.reduceSub, Int.reduceMul, Int.reduceNeg, Int.reduceBEq, Int.reduceBNe, b_verify_Writes_1, Ins.c, h]
    · rw [hs] at h
      obtain ⟨op, ik, ar, at_, nn⟩ := i
      simp only [Ins.c] at h
      simp -implicitDefEqProofs only [eqs, eqd, aCall, Sym.reach, Sym.pos, Sym.sub, lh_some, ↓reduceIte, reduceCtorEq, Nat.reduceEqDiff, Nat.reduceAdd, Nat.reduceSub, Nat.reduceMul, Nat.reduceLT, Nat.reduceLeDiff, Nat.reduceBEq, Nat.reduceBNe, Nat.reduceGT, Int.reduceEq, Int.reduceLT, Int.reduceLE, Int.reduceToNat, Int.reduceAdd, Int.reduceSub, Int.reduceMul, Int.reduceNeg, Int.reduceBEq, Int.reduceBNe, b_verify_Writes_1, Ins.c, h]
/-- So many bytes at a place. -/
def mk (n at_ : Int) : Int := IntKind.u64.wrap (IntKind.u64.wrap (IntKind.u64.wrap (1 * 2 ^ min n.toNat IntKind.u64.bits) - 1) * 2 ^ min at_.toNat IntKind.u64.bits)
def szI (i : Ins) : Int := if i.op = 34 ∨ i.op = 35 then 5 else if i.op = 36 then 1 else ksz i.k
def u4 (q : List Int) : List AV := q.map fun x => .v (.int .u64 x)
theorem u4_set (q : List Int) (J : Nat) (x : Int) : (u4 q).set J (.v (.int .u64 x)) = u4 (q.set J x) := by
  unfold u4
  rw [List.map_set]
theorem u4_at {q : List Int} {J : Nat} (h : J < q.length) : (u4 q)[J]? = some (.v (.int .u64 q[J])) := by
  unfold u4
  rw [List.getElem?_map, List.getElem?_eq_getElem h]
  rfl
theorem u4_len (q : List Int) : (u4 q).length = q.length := by unfold u4; rw [List.length_map]
theorem u4_atom (q : List Int) : (u4 q).all atom = true := by
  induction q with
  | nil => rfl
  | cons x q ih => exact ih
theorem u4_flat (q : List Int) : (u4 q).all flat0 = true := by
  induction q with
  | nil => rfl
  | cons x q ih => exact ih
abbrev z4 : List Int := [0, 0, 0, 0]
def byst (w : Bool) (L : List Ins) (t : List (Option Ah)) (i : Nat) (q : List Int) : St := ⟨[(1, .fn (askF w) []), (4, .ptr 0 0), (5, .ptr 1 0), (6, .view 2 0 (L.length + 1) 1 (some (L.length + 1))), (21, .shr L.length false (L.flatMap Ins.c)), (22, .v (.int .i64 L.length)), (23, .v (.int .i64 i))], ⟨true, true, true, u4 z4⟩ :: ⟨true, true, true, u4 q⟩ :: tT 2 t, 1, []⟩
abbrev bylive : List Nat := [1, 4, 5, 6, 21, 22, 23]
theorem t2_tab (t : List (Option Ah)) (o1 o2 : Sym.Obj) (E : List Sym.Obj) : (o1 :: o2 :: (tT 2 t ++ E))[2]? = some ⟨true, true, false, tcl (List.range' 3 (som t).length) t⟩ := rfl
theorem by_skip (k lf : Nat) (w : Bool) (L : List Ins) (hL : L.length ≤ 200) (t : List (Option Ah)) (hlen : t.length = L.length + 1) (i : Nat) (hi : i < L.length) (q : List Int) (h : t[i]? = some none ∨ L[i].ar = 0 ∨ askI w L[i] = false) (N : Nat) (ks : List It) :
    Lh (acall T (k + 17)) lf (some (byst w L t i q)) bylive l_verify_bytes_0 (N + 1) ks = Lh (acall T (k + 17)) lf (some (byst w L t (i + 1) q)) bylive l_verify_bytes_0 N ks := by
  have c1 : (i : Int) < L.length := by omega
  have c0 : (0 : Int) ≤ i := by omega
  have c2 : (i : Int) < ((L.length + 1 : Nat) : Int) := by omega
  have w1 : IntKind.i64.wrap ((i : Int) + 1) = i + 1 := w64 (by omega) (by omega)
  have h5 := ins_at L i hi
  have l5 : i * 5 + 5 ≤ L.length * 5 := by omega
  have hs : (som t).length ≤ 300 := by have := som_le t; omega
  have hx : t[i]? = some t[i] := List.getElem?_eq_getElem (by omega)
  have htl := tcl_len (List.range' 3 (som t).length) t
  rw [hlen] at htl
  have l1 : i + 1 ≤ L.length + 1 := by omega
  have m1 := t2_reach t hs
  have m2 := t2_sub t hs
  have m3 := t2_tab t
  have hak := ask_a (k + 15) w L[i]
  unfold byst bylive
  rw [lh_as l_verify_bytes_0.eq_1]
  generalize t[i] = x at *
  generalize L[i] = ins at *
  generalize hM : L.length + 1 = M at *
  generalize u4 q = qc at *
  generalize u4 z4 = zc at *
  cases x with
  | none =>
    have ht := tcl_none (List.range' 3 (som t).length) t i hx
    generalize tT 2 t = W at *
    generalize tcl (List.range' 3 (som t).length) t = tc at *
    generalize List.range' 3 (som t).length = ps at *
    clear hx h
    simp -implicitDefEqProofs only [eqs, eqd, aCall, Sym.pos, ↓reduceIte, reduceCtorEq, Nat.reduceEqDiff, Nat.reduceAdd, Nat.reduceSub, Nat.reduceMul, Nat.reduceLT, Nat.reduceLeDiff, Nat.reduceBEq, Nat.reduceBNe, Nat.reduceGT, Int.reduceEq, Int.reduceLT, Int.reduceLE, Int.reduceToNat, Int.reduceAdd, Int.reduceSub, Int.reduceMul, Int.reduceNeg, Int.reduceBEq, Int.reduceBNe, g_verify_bytes_0, Ins.c, nilp, c0, c1, c2, w1, h5, l5, l1, ins_len, ht, htl, m1, m2, m3, Int.toNat_natCast, Int.natCast_add, r0, s0, wz1, wz2]
  | some a =>
    obtain ⟨p, hp, ht, hso⟩ := tcl_some (List.range' 3 (som t).length) t i a (by simp) hx
    generalize tT 2 t = W at *
    generalize tcl (List.range' 3 (som t).length) t = tc at *
    generalize List.range' 3 (som t).length = ps at *
    have h' : ins.ar = 0 ∨ ¬ ins.ar = 0 ∧ askI w ins = false := by
      rcases h with h | h | h
      · simp [hx] at h
      · exact Or.inl h
      · by_cases c : ins.ar = 0
        · exact Or.inl c
        · exact Or.inr ⟨c, h⟩
    clear hx hp hso h
    rcases h' with h | ⟨h, h2⟩
    · simp -implicitDefEqProofs only [eqs, eqd, aCall, Sym.pos, ↓reduceIte, reduceCtorEq, Nat.reduceEqDiff, Nat.reduceAdd, Nat.reduceSub, Nat.reduceMul, Nat.reduceLT, Nat.reduceLeDiff, Nat.reduceBEq, Nat.reduceBNe, Nat.reduceGT, Int.reduceEq, Int.reduceLT, Int.reduceLE, Int.reduceToNat, Int.reduceAdd, Int.reduceSub, Int.reduceMul, Int.reduceNeg, Int.reduceBEq, Int.reduceBNe, g_verify_bytes_0, Ins.c, nilp, c0, c1, c2, w1, h5, l5, l1, ins_len, ht, htl, m1, m2, m3, h, Int.toNat_natCast, Int.natCast_add, r0, s0, wz1, wz2]
    · rw [h2] at hak
      have h0 : (ins.ar == 0) = false := by simpa using h
      simp only [Ins.c] at hak
      simp -implicitDefEqProofs only [eqs, eqd, aCall, Sym.pos, ↓reduceIte, reduceCtorEq, Nat.reduceEqDiff, Nat.reduceAdd, Nat.reduceSub, Nat.reduceMul, Nat.reduceLT, Nat.reduceLeDiff, Nat.reduceBEq, Nat.reduceBNe, Nat.reduceGT, Int.reduceEq, Int.reduceLT, Int.reduceLE, Int.reduceToNat, Int.reduceAdd, Int.reduceSub, Int.reduceMul, Int.reduceNeg, Int.reduceBEq, Int.reduceBNe, g_verify_bytes_0, Ins.c, nilp, c0, c1, c2, w1, h5, l5, l1, ins_len, ht, htl, m1, m2, m3, h0, hak, Int.toNat_natCast, Int.natCast_add, r0, s0, wz1, wz2]
end Go.Proofs.Ytlefnekfeeihaaa.Ver

/- The bytes that a program touches: one round of the program's that adds some; all rounds. -/
namespace Go.Proofs.Ytlefnekfeeihaaa.Ver
open Go Go.Proofs.Ytlefnekfeeihaaa.Sym Go.Proofs.Ytlefnekfeeihaaa.Tab
set_option linter.unusedVariables false
set_option linter.unusedSimpArgs false
set_option maxHeartbeats 4000000
set_option maxRecDepth 20000
def orU (a b : Int) : Int := bitsV .or .u64 a b
theorem by_put (k lf : Nat) (w : Bool) (L : List Ins) (hL : L.length ≤ 200) (t : List (Option Ah)) (hlen : t.length = L.length + 1) (i : Nat) (hi : i < L.length) (q : List Int) (hq : q.length = 4) (a : Ah) (hx : t[i]? = some (some a)) (J : Nat) (hJ : L[i].ar = (J : Int) + 1) (hJ4 : J < 4) (hat : 0 ≤ L[i].at_) (hask : askI w L[i] = true) (N : Nat) (ks : List It) :
    Lh (acall T (k + 17)) lf (some (byst w L t i q)) bylive l_verify_bytes_0 (N + 1) ks = Lh (acall T (k + 17)) lf (some (byst w L t (i + 1) (q.set J (orU (q[J]'(by omega)) (mk (szI L[i]) L[i].at_))))) bylive l_verify_bytes_0 N ks := by
  have c1 : (i : Int) < L.length := by omega
  have c0 : (0 : Int) ≤ i := by omega
  have c2 : (i : Int) < ((L.length + 1 : Nat) : Int) := by omega
  have w1 : IntKind.i64.wrap ((i : Int) + 1) = i + 1 := w64 (by omega) (by omega)
  have h5 := ins_at L i hi
  have l5 : i * 5 + 5 ≤ L.length * 5 := by omega
  have hs : (som t).length ≤ 300 := by have := som_le t; omega
  have htl := tcl_len (List.range' 3 (som t).length) t
  rw [hlen] at htl
  have l1 : i + 1 ≤ L.length + 1 := by omega
  have m1 := t2_reach t hs
  have m2 := t2_sub t hs
  have m3 := t2_tab t
  have hak := ask_a (k + 15) w L[i]
  rw [hask] at hak
  have hsz := ksize_a (k + 14) L[i].k
  have b2 : ¬ ksz L[i].k < 0 := by have := (ksz_in L[i].k).1; omega
  have b1 : ¬ L[i].at_ < 0 := by omega
  have h0 : (L[i].ar == 0) = false := by simp only [beq_eq_false_iff_ne]; omega
  have w2 : IntKind.i64.wrap (L[i].ar - 1) = J := by rw [w64 (by omega) (by omega)]; omega
  have j0 : (0 : Int) ≤ J := by omega
  have j4 : (J : Int) < 4 := by omega
  have j3 : J ≤ 3 := by omega
  have ql : (u4 q).length = 4 := by rw [u4_len, hq]
  have qa := u4_at (q := q) (J := J) (by omega)
  obtain ⟨p, hp, ht, hso⟩ := tcl_some (List.range' 3 (som t).length) t i a (by simp) hx
  unfold byst bylive
  rw [← u4_set, lh_as l_verify_bytes_0.eq_1]
  unfold orU mk szI
  generalize q[J] = v at *
  generalize L[i] = ins at *
  generalize hM : L.length + 1 = M at *
  generalize u4 q = qc at *
  generalize u4 z4 = zc at *
  generalize tT 2 t = W at *
  generalize tcl (List.range' 3 (som t).length) t = tc at *
  generalize List.range' 3 (som t).length = ps at *
  clear hx hp hso hask hJ hJ4 hat
  simp only [Ins.c] at hak
  by_cases o1 : ins.op = 34
  · have d1 : (ins.op == 34) = true := by simpa using o1
    rw [if_pos (Or.inl o1)]
    simp -implicitDefEqProofs only [eqs, eqd, aCall, Sym.pos, ↓reduceIte, reduceCtorEq, Nat.reduceEqDiff, Nat.reduceAdd, Nat.reduceSub, Nat.reduceMul, Nat.reduceLT, Nat.reduceLeDiff, Nat.reduceBEq, Nat.reduceBNe, Nat.reduceGT, Int.reduceEq, Int.reduceLT, Int.reduceLE, Int.reduceToNat, Int.reduceAdd, Int.reduceSub, Int.reduceMul, Int.reduceNeg, Int.reduceBEq, Int.reduceBNe, g_verify_bytes_0, Ins.c, nilp, c0, c1, c2, w1, w2, h5, l5, l1, ins_len, ht, htl, m1, m2, m3, h0, hak, hsz, b1, b2, j0, j3, j4, ql, qa, d1, Int.toNat_natCast, Int.natCast_add, r0, s0, wz1, wz2]
  have d1 : (ins.op == 34) = false := by simpa using o1
  by_cases o2 : ins.op = 35
  · have d2 : (ins.op == 35) = true := by simpa using o2
    rw [if_pos (Or.inr o2)]
    simp -implicitDefEqProofs only [eqs, eqd, aCall, Sym.pos, ↓reduceIte, reduceCtorEq, Nat.reduceEqDiff, Nat.reduceAdd, Nat.reduceSub, Nat.reduceMul, Nat.reduceLT, Nat.reduceLeDiff, Nat.reduceBEq, Nat.reduceBNe, Nat.reduceGT, Int.reduceEq, Int.reduceLT, Int.reduceLE, Int.reduceToNat, Int.reduceAdd, Int.reduceSub, Int.reduceMul, Int.reduceNeg, Int.reduceBEq, Int.reduceBNe, g_verify_bytes_0, Ins.c, nilp, c0, c1, c2, w1, w2, h5, l5, l1, ins_len, ht, htl, m1, m2, m3, h0, hak, hsz, b1, b2, j0, j3, j4, ql, qa, d1, d2, Int.toNat_natCast, Int.natCast_add, r0, s0, wz1, wz2]
  have d2 : (ins.op == 35) = false := by simpa using o2
  rw [if_neg (by omega)]
  by_cases o3 : ins.op = 36
  · have d3 : (ins.op == 36) = true := by simpa using o3
    rw [if_pos o3]
    simp -implicitDefEqProofs only [eqs, eqd, aCall, Sym.pos, ↓reduceIte, reduceCtorEq, Nat.reduceEqDiff, Nat.reduceAdd, Nat.reduceSub, Nat.reduceMul, Nat.reduceLT, Nat.reduceLeDiff, Nat.reduceBEq, Nat.reduceBNe, Nat.reduceGT, Int.reduceEq, Int.reduceLT, Int.reduceLE, Int.reduceToNat, Int.reduceAdd, Int.reduceSub, Int.reduceMul, Int.reduceNeg, Int.reduceBEq, Int.reduceBNe, g_verify_bytes_0, Ins.c, nilp, c0, c1, c2, w1, w2, h5, l5, l1, ins_len, ht, htl, m1, m2, m3, h0, hak, hsz, b1, b2, j0, j3, j4, ql, qa, d1, d2, d3, Int.toNat_natCast, Int.natCast_add, r0, s0, wz1, wz2]
  have d3 : (ins.op == 36) = false := by simpa using o3
  rw [if_neg o3]
  simp -implicitDefEqProofs only [eqs, eqd, aCall, Sym.pos, ↓reduceIte, reduceCtorEq, Nat.reduceEqDiff, Nat.reduceAdd, Nat.reduceSub, Nat.reduceMul, Nat.reduceLT, Nat.reduceLeDiff, Nat.reduceBEq, Nat.reduceBNe, Nat.reduceGT, Int.reduceEq, Int.reduceLT, Int.reduceLE, Int.reduceToNat, Int.reduceAdd, Int.reduceSub, Int.reduceMul, Int.reduceNeg, Int.reduceBEq, Int.reduceBNe, g_verify_bytes_0, Ins.c, nilp, c0, c1, c2, w1, w2, h5, l5, l1, ins_len, ht, htl, m1, m2, m3, h0, hak, hsz, b1, b2, j0, j3, j4, ql, qa, d1, d2, d3, Int.toNat_natCast, Int.natCast_add, r0, s0, wz1, wz2]
end Go.Proofs.Ytlefnekfeeihaaa.Ver

/- The bytes that a program touches: the document's, bit by bit. -/
namespace Go.Proofs.Ytlefnekfeeihaaa.Ver
open Go Go.Proofs.Ytlefnekfeeihaaa.Sym Go.Proofs.Ytlefnekfeeihaaa.Tab
set_option linter.unusedVariables false
set_option linter.unusedSimpArgs false
set_option maxHeartbeats 4000000
set_option maxRecDepth 20000
def bit (at_ : Int) (c : Nat) : Int := IntKind.u64.wrap (1 * 2 ^ min (at_ + c).toNat IntKind.u64.bits)
def rbst (w : Bool) (L : List Ins) (t : List (Option Ah)) (i : Nat) (q : List Int) : St := ⟨[(0, .shr L.length false (L.flatMap Ins.c)), (1, .v (.bool w)), (4, .ptr 0 0), (5, .ptr 1 0), (6, .view 2 0 (L.length + 1) 3 (some (L.length + 1))), (9, .v (.int .i64 i))], [⟨true, true, true, u4 z4⟩, ⟨true, true, true, u4 q⟩, ⟨true, true, true, rr t⟩], 1, []⟩
abbrev rblive : List Nat := [0, 1, 4, 5, 6, 9]
def rist (w : Bool) (L : List Ins) (t : List (Option Ah)) (i : Nat) (ins : Ins) (s : Int) (c : Nat) (q : List Int) : St := ⟨[(0, .shr L.length false (L.flatMap Ins.c)), (1, .v (.bool w)), (4, .ptr 0 0), (5, .ptr 1 0), (6, .view 2 0 (L.length + 1) 3 (some (L.length + 1))), (9, .v (.int .i64 i)), (10, .ptr 3 0), (11, .v (.int .i64 s)), (13, .v (.int .i64 c))], [⟨true, true, true, u4 z4⟩, ⟨true, true, true, u4 q⟩, ⟨true, true, true, rr t⟩, ⟨true, true, true, ins.c⟩], 1, []⟩
abbrev rilive : List Nat := [0, 1, 4, 5, 6, 9, 10, 11, 13]
theorem rby_one (C : CT) (lf : Nat) (w : Bool) (L : List Ins) (t : List (Option Ah)) (i : Nat) (ins : Ins) (s : Int) (c : Nat) (q : List Int) (hq : q.length = 4) (J : Nat) (hJ : ins.ar = (J : Int) + 1) (hJ4 : J < 4) (hat : 0 ≤ ins.at_ ∧ ins.at_ ≤ 64) (hs : s ≤ 5) (hc : (c : Int) < s) (N : Nat) (ks : List It) :
    Lh C lf (some (rist w L t i ins s c q)) rilive l_fuglemanref14_Bytes_1 (N + 1) ks = Lh C lf (some (rist w L t i ins s (c + 1) (q.set J (orU (q[J]'(by omega)) (bit ins.at_ c))))) rilive l_fuglemanref14_Bytes_1 N ks := by
  have w1 : IntKind.i64.wrap ((c : Int) + 1) = c + 1 := w64 (by omega) (by omega)
  have w2 : IntKind.i64.wrap (ins.ar - 1) = J := by rw [w64 (by omega) (by omega)]; omega
  have w3 : IntKind.i64.wrap (ins.at_ + c) = ins.at_ + c := w64 (by omega) (by omega)
  have b1 : ¬ ins.at_ + (c : Int) < 0 := by omega
  have j0 : (0 : Int) ≤ J := by omega
  have j4 : (J : Int) < 4 := by omega
  have j3 : J ≤ 3 := by omega
  have ql : (u4 q).length = 4 := by rw [u4_len, hq]
  have qa := u4_at (q := q) (J := J) (by omega)
  unfold rist rilive
  rw [← u4_set, lh_as l_fuglemanref14_Bytes_1.eq_1]
  unfold orU bit
  generalize q[J] = v at *
  generalize hM : L.length + 1 = M at *
  generalize u4 q = qc at *
  generalize u4 z4 = zc at *
  generalize rr t = R at *
  simp -implicitDefEqProofs only [eqs, eqd, aCall, Sym.reach, Sym.pos, Sym.sub, ↓reduceIte, reduceCtorEq, Nat.reduceEqDiff, Nat.reduceAdd, Nat.reduceSub, Nat.reduceMul, Nat.reduceLT, Nat.reduceLeDiff, Nat.reduceBEq, Nat.reduceBNe, Nat.reduceGT, Int.reduceEq, Int.reduceLT, Int.reduceLE, Int.reduceToNat, Int.reduceAdd, Int.reduceSub, Int.reduceMul, Int.reduceNeg, Int.reduceBEq, Int.reduceBNe, nx_nil, Ins.c, w1, w2, w3, b1, hc, j0, j3, j4, ql, qa, Int.toNat_natCast, Int.natCast_add]
theorem rby_end (C : CT) (lf : Nat) (w : Bool) (L : List Ins) (hL : L.length ≤ 200) (t : List (Option Ah)) (i : Nat) (hi : i < L.length) (ins : Ins) (s : Int) (c : Nat) (hc : (c : Int) = s) (q : List Int) (N1 N : Nat) (ks : List It) :
    Lh C lf (some (rist w L t i ins s c q)) rilive l_fuglemanref14_Bytes_1 N1 (.b 2 :: .b 1 :: .c l_fuglemanref14_Bytes_2 :: .l rblive l_fuglemanref14_Bytes_0 (N + 1) :: ks) = Lh C lf (some (rbst w L t (i + 1) q)) rblive l_fuglemanref14_Bytes_0 N ks := by
  have c1 : ¬ (c : Int) < s := by omega
  have w1 : IntKind.i64.wrap ((i : Int) + 1) = i + 1 := w64 (by omega) (by omega)
  unfold rist rilive rbst rblive
  rw [lh_as l_fuglemanref14_Bytes_1.eq_1]
  generalize hM : L.length + 1 = M at *
  generalize u4 q = qc at *
  generalize u4 z4 = zc at *
  generalize rr t = R at *
  simp -implicitDefEqProofs only [eqs, eqd, aCall, Sym.reach, Sym.pos, Sym.sub, ↓reduceIte, reduceCtorEq, Nat.reduceEqDiff, Nat.reduceAdd, Nat.reduceSub, Nat.reduceMul, Nat.reduceLT, Nat.reduceLeDiff, Nat.reduceBEq, Nat.reduceBNe, Nat.reduceGT, Int.reduceEq, Int.reduceLT, Int.reduceLE, Int.reduceToNat, Int.reduceAdd, Int.reduceSub, Int.reduceMul, Int.reduceNeg, Int.reduceBEq, Int.reduceBNe, nx_nil, l_fuglemanref14_Bytes_2, Ins.c, w1, c1, Int.toNat_natCast, Int.natCast_add]
/-- Bit by bit. -/
def orN (at_ : Int) (J : Nat) : Nat → Nat → List Int → List Int
  | 0, _, q => q
  | d + 1, c, q => if h : J < q.length then orN at_ J d (c + 1) (q.set J (orU q[J] (bit at_ c))) else q
theorem orN_len (at_ : Int) (J : Nat) : ∀ d c q, (orN at_ J d c q).length = q.length
  | 0, _, q => rfl
  | d + 1, c, q => by
    rw [orN]
    by_cases h : J < q.length
    · rw [dif_pos h, orN_len at_ J d, List.length_set]
    · rw [dif_neg h]
theorem rby_bits (C : CT) (lf : Nat) (w : Bool) (L : List Ins) (hL : L.length ≤ 200) (t : List (Option Ah)) (i : Nat) (hi : i < L.length) (ins : Ins) (s : Int) (J : Nat) (hJ : ins.ar = (J : Int) + 1) (hJ4 : J < 4) (hat : 0 ≤ ins.at_ ∧ ins.at_ ≤ 64) (hs : s ≤ 5) (N : Nat) (ks : List It) : ∀ (d c N1 : Nat) (q : List Int), q.length = 4 → (c : Int) + d = s → d ≤ N1 →
    Lh C lf (some (rist w L t i ins s c q)) rilive l_fuglemanref14_Bytes_1 N1 (.b 2 :: .b 1 :: .c l_fuglemanref14_Bytes_2 :: .l rblive l_fuglemanref14_Bytes_0 (N + 1) :: ks) = Lh C lf (some (rbst w L t (i + 1) (orN ins.at_ J d c q))) rblive l_fuglemanref14_Bytes_0 N ks
  | 0, c, N1, q, hq, hc, hN => rby_end C lf w L hL t i hi ins s c (by omega) q N1 N ks
  | d + 1, c, N1, q, hq, hc, hN => by
    obtain ⟨N1, rfl⟩ : ∃ M, N1 = M + 1 := ⟨N1 - 1, by omega⟩
    rw [rby_one C lf w L t i ins s c q hq J hJ hJ4 hat hs (by omega) N1, rby_bits C lf w L hL t i hi ins s J hJ hJ4 hat hs N ks d (c + 1) N1 _ (by rw [List.length_set, hq]) (by omega) (by omega), orN, dif_pos (by omega)]
end Go.Proofs.Ytlefnekfeeihaaa.Ver

/- The bytes that a program touches: the document's, one round. -/
namespace Go.Proofs.Ytlefnekfeeihaaa.Ver
open Go Go.Proofs.Ytlefnekfeeihaaa.Sym Go.Proofs.Ytlefnekfeeihaaa.Tab
set_option linter.unusedVariables false
set_option linter.unusedSimpArgs false
set_option maxHeartbeats 4000000
set_option maxRecDepth 20000
theorem rby_skip (k lf : Nat) (w : Bool) (L : List Ins) (hL : L.length ≤ 200) (t : List (Option Ah)) (hlen : t.length = L.length + 1) (i : Nat) (hi : i < L.length) (q : List Int) (hop : L[i].op ≤ 36) (h : t[i]? = some none ∨ L[i].ar = 0 ∨ askI w L[i] = false) (N : Nat) (ks : List It) :
    Lh (acall T (k + 13)) lf (some (rbst w L t i q)) rblive l_fuglemanref14_Bytes_0 (N + 1) ks = Lh (acall T (k + 13)) lf (some (rbst w L t (i + 1) q)) rblive l_fuglemanref14_Bytes_0 N ks := by
  have c1 : (i : Int) < L.length := by omega
  have c0 : (0 : Int) ≤ i := by omega
  have c2 : (i : Int) < ((L.length + 1 : Nat) : Int) := by omega
  have w1 : IntKind.i64.wrap ((i : Int) + 1) = i + 1 := w64 (by omega) (by omega)
  have h5 := ins_at L i hi
  have l5 : i * 5 + 5 ≤ L.length * 5 := by omega
  have hx : t[i]? = some t[i] := List.getElem?_eq_getElem (by omega)
  have z0 : (rr t)[i * 3]? = (ra t[i])[0]? := rr_at hx (j := 0) (by decide)
  have hsz := rsize_a (k + 11) L[i].k
  unfold rbst rblive
  rw [lh_as l_fuglemanref14_Bytes_0.eq_1]
  generalize t[i] = x at *
  generalize L[i] = ins at *
  generalize hM : L.length + 1 = M at *
  generalize u4 q = qc at *
  generalize u4 z4 = zc at *
  generalize rr t = R at *
  cases x with
  | none =>
    simp only [ra, List.getElem?_cons_zero] at z0
    clear hx h
    simp -implicitDefEqProofs only [eqs, eqd, aCall, Sym.reach, Sym.pos, Sym.sub, ↓reduceIte, reduceCtorEq, Nat.reduceEqDiff, Nat.reduceAdd, Nat.reduceSub, Nat.reduceMul, Nat.reduceLT, Nat.reduceLeDiff, Nat.reduceBEq, Nat.reduceBNe, Nat.reduceGT, Int.reduceEq, Int.reduceLT, Int.reduceLE, Int.reduceToNat, Int.reduceAdd, Int.reduceSub, Int.reduceMul, Int.reduceNeg, Int.reduceBEq, Int.reduceBNe, nx_nil, l_fuglemanref14_Bytes_2, Ins.c, c0, c1, c2, w1, h5, l5, ins_len, z0, Int.toNat_natCast, Int.natCast_add]
  | some a =>
    simp only [ra, rc, List.getElem?_cons_zero] at z0
    have h' : ins.ar = 0 ∨ ¬ ins.ar = 0 ∧ askI w ins = false := by
      rcases h with h | h | h
      · simp [hx] at h
      · exact Or.inl h
      · by_cases c : ins.ar = 0
        · exact Or.inl c
        · exact Or.inr ⟨c, h⟩
    clear hx h
    rcases h' with h | ⟨h, h2⟩
    · simp -implicitDefEqProofs only [eqs, eqd, aCall, Sym.reach, Sym.pos, Sym.sub, ↓reduceIte, reduceCtorEq, Nat.reduceEqDiff, Nat.reduceAdd, Nat.reduceSub, Nat.reduceMul, Nat.reduceLT, Nat.reduceLeDiff, Nat.reduceBEq, Nat.reduceBNe, Nat.reduceGT, Int.reduceEq, Int.reduceLT, Int.reduceLE, Int.reduceToNat, Int.reduceAdd, Int.reduceSub, Int.reduceMul, Int.reduceNeg, Int.reduceBEq, Int.reduceBNe, nx_nil, l_fuglemanref14_Bytes_2, Ins.c, c0, c1, c2, w1, h5, l5, ins_len, z0, h, Int.toNat_natCast, Int.natCast_add]
    · have h0 : (ins.ar == 0) = false := by simpa using h
      have hlt : ins.op < 34 := by
        refine Classical.byContradiction fun hc => ?_
        have e1 : decide (34 ≤ ins.op) = true := by simp; omega
        have e2 : stI ins = false := by unfold stI; simp; omega
        unfold askI at h2
        rw [e1, e2] at h2
        cases w <;> simp at h2
      have o1 : (ins.op == 34) = false := by simp only [beq_eq_false_iff_ne]; omega
      have o2 : (ins.op == 35) = false := by simp only [beq_eq_false_iff_ne]; omega
      have o3 : (ins.op == 36) = false := by simp only [beq_eq_false_iff_ne]; omega
      have e1 : decide (34 ≤ ins.op) = false := by simp; omega
      unfold askI stI at h2
      rw [e1] at h2
      by_cases g1 : 3 ≤ ins.op
      · by_cases g2 : ins.op ≤ 6
        · obtain rfl : w = false := by cases w; rfl; simp [g1, g2] at h2
          simp -implicitDefEqProofs only [eqs, eqd, aCall, Sym.reach, Sym.pos, Sym.sub, ↓reduceIte, reduceCtorEq, Nat.reduceEqDiff, Nat.reduceAdd, Nat.reduceSub, Nat.reduceMul, Nat.reduceLT, Nat.reduceLeDiff, Nat.reduceBEq, Nat.reduceBNe, Nat.reduceGT, Int.reduceEq, Int.reduceLT, Int.reduceLE, Int.reduceToNat, Int.reduceAdd, Int.reduceSub, Int.reduceMul, Int.reduceNeg, Int.reduceBEq, Int.reduceBNe, nx_nil, l_fuglemanref14_Bytes_2, Ins.c, c0, c1, c2, w1, h5, l5, ins_len, z0, h0, hsz, hlt, o1, o2, o3, g1, g2, Int.toNat_natCast, Int.natCast_add]
        · obtain rfl : w = true := by cases w; simp [g1, g2] at h2; rfl
          simp -implicitDefEqProofs only [eqs, eqd, aCall, Sym.reach, Sym.pos, Sym.sub, ↓reduceIte, reduceCtorEq, Nat.reduceEqDiff, Nat.reduceAdd, Nat.reduceSub, Nat.reduceMul, Nat.reduceLT, Nat.reduceLeDiff, Nat.reduceBEq, Nat.reduceBNe, Nat.reduceGT, Int.reduceEq, Int.reduceLT, Int.reduceLE, Int.reduceToNat, Int.reduceAdd, Int.reduceSub, Int.reduceMul, Int.reduceNeg, Int.reduceBEq, Int.reduceBNe, nx_nil, l_fuglemanref14_Bytes_2, Ins.c, c0, c1, c2, w1, h5, l5, ins_len, z0, h0, hsz, hlt, o1, o2, o3, g1, g2, Int.toNat_natCast, Int.natCast_add]
      · obtain rfl : w = true := by cases w; simp [g1] at h2; rfl
        simp -implicitDefEqProofs only [eqs, eqd, aCall, Sym.reach, Sym.pos, Sym.sub, ↓reduceIte, reduceCtorEq, Nat.reduceEqDiff, Nat.reduceAdd, Nat.reduceSub, Nat.reduceMul, Nat.reduceLT, Nat.reduceLeDiff, Nat.reduceBEq, Nat.reduceBNe, Nat.reduceGT, Int.reduceEq, Int.reduceLT, Int.reduceLE, Int.reduceToNat, Int.reduceAdd, Int.reduceSub, Int.reduceMul, Int.reduceNeg, Int.reduceBEq, Int.reduceBNe, nx_nil, l_fuglemanref14_Bytes_2, Ins.c, c0, c1, c2, w1, h5, l5, ins_len, z0, h0, hsz, hlt, o1, o2, o3, g1, Int.toNat_natCast, Int.natCast_add]
theorem rby_go (k m : Nat) (w : Bool) (L : List Ins) (hL : L.length ≤ 200) (t : List (Option Ah)) (hlen : t.length = L.length + 1) (i : Nat) (hi : i < L.length) (q : List Int) (hop : L[i].op ≤ 36) (a : Ah) (hx : t[i]? = some (some a)) (har : L[i].ar ≠ 0) (hask : askI w L[i] = true) (N : Nat) (ks : List It) :
    Lh (acall T (k + 13)) (m + 1) (some (rbst w L t i q)) rblive l_fuglemanref14_Bytes_0 (N + 1) ks = Lh (acall T (k + 13)) (m + 1) (some (rist w L t i L[i] (szI L[i]) 0 q)) rilive l_fuglemanref14_Bytes_1 m (.b 2 :: .b 1 :: .c l_fuglemanref14_Bytes_2 :: .l rblive l_fuglemanref14_Bytes_0 (N + 1) :: ks) := by
  have c1 : (i : Int) < L.length := by omega
  have c0 : (0 : Int) ≤ i := by omega
  have c2 : (i : Int) < ((L.length + 1 : Nat) : Int) := by omega
  have h5 := ins_at L i hi
  have l5 : i * 5 + 5 ≤ L.length * 5 := by omega
  have z0 : (rr t)[i * 3]? = (ra (some a))[0]? := rr_at hx (j := 0) (by decide)
  simp only [ra, rc, List.getElem?_cons_zero] at z0
  have hsz := rsize_a (k + 11) L[i].k
  have h0 : (L[i].ar == 0) = false := by simpa using har
  unfold rbst rblive rist rilive szI
  rw [lh_as l_fuglemanref14_Bytes_0.eq_1]
  generalize L[i] = ins at *
  generalize hM : L.length + 1 = M at *
  generalize u4 q = qc at *
  generalize u4 z4 = zc at *
  generalize rr t = R at *
  clear hx har
  by_cases o1 : ins.op = 34
  · have d1 : (ins.op == 34) = true := by simpa using o1
    have d3 : (ins.op == 36) = false := by rw [o1]; rfl
    have g1 : 3 ≤ ins.op := by omega
    have g2 : ¬ ins.op ≤ 6 := by omega
    have g3 : ¬ ins.op < 34 := by omega
    rw [if_pos (Or.inl o1)]
    simp -implicitDefEqProofs only [eqs, eqd, aCall, Sym.reach, Sym.pos, Sym.sub, ↓reduceIte, reduceCtorEq, Nat.reduceEqDiff, Nat.reduceAdd, Nat.reduceSub, Nat.reduceMul, Nat.reduceLT, Nat.reduceLeDiff, Nat.reduceBEq, Nat.reduceBNe, Nat.reduceGT, Int.reduceEq, Int.reduceLT, Int.reduceLE, Int.reduceToNat, Int.reduceAdd, Int.reduceSub, Int.reduceMul, Int.reduceNeg, Int.reduceBEq, Int.reduceBNe, nx_nil, Ins.c, c0, c1, c2, h5, l5, ins_len, z0, h0, hsz, d1, d3, g1, g2, g3, Int.toNat_natCast, Int.natCast_add]
  have d1 : (ins.op == 34) = false := by simpa using o1
  by_cases o2 : ins.op = 35
  · have d2 : (ins.op == 35) = true := by simpa using o2
    have d3 : (ins.op == 36) = false := by rw [o2]; rfl
    have g1 : 3 ≤ ins.op := by omega
    have g2 : ¬ ins.op ≤ 6 := by omega
    have g3 : ¬ ins.op < 34 := by omega
    rw [if_pos (Or.inr o2)]
    simp -implicitDefEqProofs only [eqs, eqd, aCall, Sym.reach, Sym.pos, Sym.sub, ↓reduceIte, reduceCtorEq, Nat.reduceEqDiff, Nat.reduceAdd, Nat.reduceSub, Nat.reduceMul, Nat.reduceLT, Nat.reduceLeDiff, Nat.reduceBEq, Nat.reduceBNe, Nat.reduceGT, Int.reduceEq, Int.reduceLT, Int.reduceLE, Int.reduceToNat, Int.reduceAdd, Int.reduceSub, Int.reduceMul, Int.reduceNeg, Int.reduceBEq, Int.reduceBNe, nx_nil, Ins.c, c0, c1, c2, h5, l5, ins_len, z0, h0, hsz, d1, d2, d3, g1, g2, g3, Int.toNat_natCast, Int.natCast_add]
  have d2 : (ins.op == 35) = false := by simpa using o2
  rw [if_neg (by omega)]
  by_cases o3 : ins.op = 36
  · have d3 : (ins.op == 36) = true := by simpa using o3
    have g1 : 3 ≤ ins.op := by omega
    have g2 : ¬ ins.op ≤ 6 := by omega
    have g3 : ¬ ins.op < 34 := by omega
    rw [if_pos o3]
    simp -implicitDefEqProofs only [eqs, eqd, aCall, Sym.reach, Sym.pos, Sym.sub, ↓reduceIte, reduceCtorEq, Nat.reduceEqDiff, Nat.reduceAdd, Nat.reduceSub, Nat.reduceMul, Nat.reduceLT, Nat.reduceLeDiff, Nat.reduceBEq, Nat.reduceBNe, Nat.reduceGT, Int.reduceEq, Int.reduceLT, Int.reduceLE, Int.reduceToNat, Int.reduceAdd, Int.reduceSub, Int.reduceMul, Int.reduceNeg, Int.reduceBEq, Int.reduceBNe, nx_nil, Ins.c, c0, c1, c2, h5, l5, ins_len, z0, h0, hsz, d1, d2, d3, g1, g2, g3, Int.toNat_natCast, Int.natCast_add]
  have d3 : (ins.op == 36) = false := by simpa using o3
  rw [if_neg o3]
  have g3 : ins.op < 34 := by omega
  have e1 : decide (34 ≤ ins.op) = false := by simp; omega
  unfold askI stI at hask
  rw [e1] at hask
  by_cases g1 : 3 ≤ ins.op
  · by_cases g2 : ins.op ≤ 6
    · obtain rfl : w = true := by cases w; simp [g1, g2] at hask; rfl
      simp -implicitDefEqProofs only [eqs, eqd, aCall, Sym.reach, Sym.pos, Sym.sub, ↓reduceIte, reduceCtorEq, Nat.reduceEqDiff, Nat.reduceAdd, Nat.reduceSub, Nat.reduceMul, Nat.reduceLT, Nat.reduceLeDiff, Nat.reduceBEq, Nat.reduceBNe, Nat.reduceGT, Int.reduceEq, Int.reduceLT, Int.reduceLE, Int.reduceToNat, Int.reduceAdd, Int.reduceSub, Int.reduceMul, Int.reduceNeg, Int.reduceBEq, Int.reduceBNe, nx_nil, Ins.c, c0, c1, c2, h5, l5, ins_len, z0, h0, hsz, d1, d2, d3, g1, g2, g3, Int.toNat_natCast, Int.natCast_add]
    · obtain rfl : w = false := by cases w; rfl; simp [g1, g2] at hask
      simp -implicitDefEqProofs only [eqs, eqd, aCall, Sym.reach, Sym.pos, Sym.sub, ↓reduceIte, reduceCtorEq, Nat.reduceEqDiff, Nat.reduceAdd, Nat.reduceSub, Nat.reduceMul, Nat.reduceLT, Nat.reduceLeDiff, Nat.reduceBEq, Nat.reduceBNe, Nat.reduceGT, Int.reduceEq, Int.reduceLT, Int.reduceLE, Int.reduceToNat, Int.reduceAdd, Int.reduceSub, Int.reduceMul, Int.reduceNeg, Int.reduceBEq, Int.reduceBNe, nx_nil, Ins.c, c0, c1, c2, h5, l5, ins_len, z0, h0, hsz, d1, d2, d3, g1, g2, g3, Int.toNat_natCast, Int.natCast_add]
  · obtain rfl : w = false := by cases w; rfl; simp [g1] at hask
    simp -implicitDefEqProofs only [eqs, eqd, aCall, Sym.reach, Sym.pos, Sym.sub, ↓reduceIte, reduceCtorEq, Nat.reduceEqDiff, Nat.reduceAdd, Nat.reduceSub, Nat.reduceMul, Nat.reduceLT, Nat.reduceLeDiff, Nat.reduceBEq, Nat.reduceBNe, Nat.reduceGT, Int.reduceEq, Int.reduceLT, Int.reduceLE, Int.reduceToNat, Int.reduceAdd, Int.reduceSub, Int.reduceMul, Int.reduceNeg, Int.reduceBEq, Int.reduceBNe, nx_nil, Ins.c, c0, c1, c2, h5, l5, ins_len, z0, h0, hsz, d1, d2, d3, g1, g3, Int.toNat_natCast, Int.natCast_add]
end Go.Proofs.Ytlefnekfeeihaaa.Ver

/- Bits one by one, and a mask at once: the same. -/
namespace Go.Proofs.Ytlefnekfeeihaaa.Ver
open Go Go.Proofs.Ytlefnekfeeihaaa.Sym Go.Proofs.Ytlefnekfeeihaaa.Tab
set_option linter.unusedVariables false
set_option linter.unusedSimpArgs false
set_option maxHeartbeats 4000000
set_option maxRecDepth 20000
abbrev B64 (x : Int) : BitVec 64 := BitVec.ofInt 64 x
theorem orU_eq (v m : Int) : orU v m = ((B64 v ||| B64 m).toNat : Int) := by
  have h : (B64 v ||| B64 m).toNat < 18446744073709551616 := (B64 v ||| B64 m).isLt
  show IntKind.u64.wrap ((B64 v ||| B64 m).toNat : Int) = _
  exact wu64 (by omega) (by omega)
theorem b_val (b : BitVec 64) : B64 (b.toNat : Int) = b := by
  apply BitVec.eq_of_toNat_eq
  have h : b.toNat < 2 ^ 64 := b.isLt
  rw [BitVec.toNat_ofInt]
  omega
def bitsB (at_ : Int) : Nat → Nat → BitVec 64
  | 0, _ => 0#64
  | d + 1, c => B64 (bit at_ c) ||| bitsB at_ d (c + 1)
theorem orN_bits (at_ : Int) (J : Nat) : ∀ (d c : Nat) (q : List Int) (h : J < q.length), orN at_ J (d + 1) c q = q.set J (((B64 q[J] ||| bitsB at_ (d + 1) c).toNat : Nat) : Int)
  | 0, c, q, h => by
    rw [orN, dif_pos h, orN, orU_eq, bitsB, bitsB, BitVec.or_zero]
  | d + 1, c, q, h => by
    rw [orN, dif_pos h, orN_bits at_ J d (c + 1) _ (by rw [List.length_set]; exact h), List.set_set, List.getElem_set_self, orU_eq, b_val, BitVec.or_assoc]
    rfl
def putU (q : List Int) (J : Nat) (m : Int) : List Int := if h : J < q.length then q.set J (orU q[J] m) else q
theorem mk1 : ∀ A : Nat, A < 64 → bitsB (A : Int) 1 0 = B64 (mk 1 A) := by decide +kernel
theorem mk2 : ∀ A : Nat, A < 63 → bitsB (A : Int) 2 0 = B64 (mk 2 A) := by decide +kernel
theorem mk4 : ∀ A : Nat, A < 61 → bitsB (A : Int) 4 0 = B64 (mk 4 A) := by decide +kernel
theorem mk5 : ∀ A : Nat, A < 60 → bitsB (A : Int) 5 0 = B64 (mk 5 A) := by decide +kernel
theorem bits_mk (q : List Int) (J : Nat) (h : J < q.length) (at_ : Int) (s : Nat) (hs : s = 1 ∨ s = 2 ∨ s = 4 ∨ s = 5) (h0 : 0 ≤ at_) (h1 : at_ + s ≤ 64) : orN at_ J s 0 q = putU q J (mk s at_) := by
  obtain ⟨A, rfl⟩ : ∃ A : Nat, at_ = A := ⟨at_.toNat, by omega⟩
  unfold putU
  rw [dif_pos h, orU_eq]
  rcases hs with rfl | rfl | rfl | rfl
  · rw [orN_bits _ J 0 0 q h, mk1 A (by omega)]
    rfl
  · rw [orN_bits _ J 1 0 q h, mk2 A (by omega)]
    rfl
  · rw [orN_bits _ J 3 0 q h, mk4 A (by omega)]
    rfl
  · rw [orN_bits _ J 4 0 q h, mk5 A (by omega)]
    rfl
theorem right_bytes {i : Ins} (h : right i = true) (ha : i.ar ≠ 0) : 1 ≤ i.ar ∧ i.ar ≤ 4 ∧ 0 ≤ i.at_ ∧ i.at_ + szI i ≤ 64 ∧ (szI i = 1 ∨ szI i = 2 ∨ szI i = 4 ∨ szI i = 5) := by
  have hk : 0 < ksz i.k → ksz i.k = 1 ∨ ksz i.k = 2 ∨ ksz i.k = 4 := fun h => by
    unfold ksz at h ⊢
    split
    · omega
    · split
      · omega
      · split
        · omega
        · rename_i a b c
          rw [if_neg a, if_neg b, if_neg c] at h
          omega
  have hst : ∀ l, 1 ≤ l → i.op < 34 → stands i l = true → 1 ≤ i.ar ∧ i.ar ≤ 4 ∧ 0 ≤ i.at_ ∧ i.at_ + szI i ≤ 64 ∧ (szI i = 1 ∨ szI i = 2 ∨ szI i = 4 ∨ szI i = 5) := fun l hl ho h => by
    unfold stands at h
    simp only [Bool.and_eq_true, decide_eq_true_eq] at h
    obtain ⟨a, b, c, d, e, f⟩ := h
    have e1 : szI i = ksz i.k := by unfold szI; rw [if_neg (by omega), if_neg (by omega)]
    have := hk a
    rw [e1]
    omega
  have hcl : ∀ o : Int, cl o = 1 ∨ cl o = 2 → o < 34 := fun o h => by
    unfold cl at h
    split at h
    · omega
    · split at h
      · omega
      · omega
  unfold right at h
  by_cases k1 : cl i.op = 1
  · rw [if_pos k1, if_neg ha] at h
    exact hst 1 (by omega) (hcl _ (Or.inl k1)) h
  rw [if_neg k1] at h
  by_cases k2 : cl i.op = 2
  · rw [if_pos k2] at h
    exact hst 2 (by omega) (hcl _ (Or.inr k2)) h
  rw [if_neg k2] at h
  by_cases k3 : cl i.op = 3
  · rw [if_pos k3] at h; simp [ha] at h
  rw [if_neg k3] at h
  by_cases k4 : cl i.op = 4
  · rw [if_pos k4] at h; simp [ha] at h
  rw [if_neg k4] at h
  by_cases k5 : cl i.op = 5
  · rw [if_pos k5] at h; simp [ha] at h
  rw [if_neg k5] at h
  by_cases k6 : cl i.op = 6
  · rw [if_pos k6] at h; simp [ha] at h
  rw [if_neg k6] at h
  by_cases k7 : cl i.op = 7
  · rw [if_pos k7] at h
    have ho : i.op = 34 ∨ i.op = 35 := by
      unfold cl at k7
      repeat' split at k7
      all_goals omega
    have e1 : szI i = 5 := by unfold szI; rw [if_pos ho]
    simp only [Bool.and_eq_true, Bool.or_eq_true, beq_iff_eq, decide_eq_true_eq] at h
    rw [e1]
    omega
  rw [if_neg k7] at h
  by_cases k8 : cl i.op = 8
  · rw [if_pos k8] at h
    have ho : i.op = 36 := by
      unfold cl at k8
      repeat' split at k8
      all_goals omega
    have e1 : szI i = 1 := by unfold szI; rw [if_neg (by omega), if_pos ho]
    simp only [Bool.and_eq_true, Bool.or_eq_true, beq_iff_eq, decide_eq_true_eq] at h
    rw [e1]
    omega
  rw [if_neg k8] at h
  cases h
theorem run_right (L : List Ins) : ∀ (m i : Nat) (t : List (Option Ah)), i + m = L.length → (run L m i t).1 = 0 → ∀ (j : Nat) (h : j < L.length), i ≤ j → right L[j] = true
  | 0, i, t, hi, hr, j, h, hj => by omega
  | m + 1, i, t, hi, hr, j, h, hj => by
    have h' : i < L.length := by omega
    rw [run, dif_pos h'] at hr
    by_cases c : (stp L.length i t L[i]).1 = 0
    · rw [if_pos c] at hr
      by_cases e : j = i
      · subst e
        refine Classical.byContradiction fun hc => ?_
        have hc' : right L[j] = false := by simpa using hc
        unfold stp at c
        rw [if_pos hc'] at c
        simp at c
      · exact run_right L m (i + 1) _ (by omega) hr j h (by omega)
    · rw [if_neg c] at hr
      exact absurd hr c
end Go.Proofs.Ytlefnekfeeihaaa.Ver

/- The bytes that a program touches: of both. -/
namespace Go.Proofs.Ytlefnekfeeihaaa.Ver
open Go Go.Proofs.Ytlefnekfeeihaaa.Sym Go.Proofs.Ytlefnekfeeihaaa.Tab
set_option linter.unusedVariables false
set_option linter.unusedSimpArgs false
set_option maxHeartbeats 4000000
set_option maxRecDepth 20000
def byS (w : Bool) (ins : Ins) (x : Option Ah) (q : List Int) : List Int := match x with
  | none => q
  | some _ => if ins.ar = 0 ∨ askI w ins = false then q else putU q (ins.ar - 1).toNat (mk (szI ins) ins.at_)
def byR (w : Bool) (L : List Ins) (t : List (Option Ah)) : Nat → Nat → List Int → List Int
  | 0, _, q => q
  | m + 1, i, q => if h : i < L.length then byR w L t m (i + 1) (byS w L[i] (t[i]?.getD none) q) else q
theorem putU_len (q : List Int) (J : Nat) (m : Int) : (putU q J m).length = q.length := by
  unfold putU
  split
  · rw [List.length_set]
  · rfl
theorem byS_len (w : Bool) (ins : Ins) (x : Option Ah) (q : List Int) : (byS w ins x q).length = q.length := by
  unfold byS
  split
  · rfl
  · split
    · rfl
    · exact putU_len _ _ _
theorem byR_len (w : Bool) (L : List Ins) (t : List (Option Ah)) : ∀ m i q, (byR w L t m i q).length = q.length
  | 0, _, q => rfl
  | m + 1, i, q => by
    rw [byR]
    split
    · rw [byR_len w L t m, byS_len]
    · rfl
theorem by_step (k lf : Nat) (w : Bool) (L : List Ins) (hL : L.length ≤ 200) (t : List (Option Ah)) (hlen : t.length = L.length + 1) (i : Nat) (hi : i < L.length) (hr : right L[i] = true) (q : List Int) (hq : q.length = 4) (N : Nat) (ks : List It) :
    Lh (acall T (k + 17)) lf (some (byst w L t i q)) bylive l_verify_bytes_0 (N + 1) ks = Lh (acall T (k + 17)) lf (some (byst w L t (i + 1) (byS w L[i] (t[i]?.getD none) q))) bylive l_verify_bytes_0 N ks := by
  have hx : t[i]? = some t[i] := List.getElem?_eq_getElem (by omega)
  generalize t[i] = x at hx
  rw [hx, Option.getD_some]
  unfold byS
  cases x with
  | none => exact by_skip k lf w L hL t hlen i hi q (Or.inl hx) N ks
  | some a =>
    simp only
    by_cases c : L[i].ar = 0 ∨ askI w L[i] = false
    · rw [if_pos c]
      exact by_skip k lf w L hL t hlen i hi q (Or.inr c) N ks
    · rw [if_neg c]
      rw [not_or] at c
      obtain ⟨b1, b2, b3, b4, b5⟩ := right_bytes hr c.1
      obtain ⟨J, hJ⟩ : ∃ J : Nat, L[i].ar = (J : Int) + 1 := ⟨(L[i].ar - 1).toNat, by omega⟩
      rw [by_put k lf w L hL t hlen i hi q hq a hx J hJ (by omega) b3 (by simpa using c.2) N ks, show (L[i].ar - 1).toNat = J by omega]
      unfold putU
      rw [dif_pos (show J < q.length by omega)]
theorem rby_step (k m : Nat) (hm : 5 ≤ m) (w : Bool) (L : List Ins) (hL : L.length ≤ 200) (t : List (Option Ah)) (hlen : t.length = L.length + 1) (i : Nat) (hi : i < L.length) (hr : right L[i] = true) (q : List Int) (hq : q.length = 4) (N : Nat) (ks : List It) :
    Lh (acall T (k + 13)) (m + 1) (some (rbst w L t i q)) rblive l_fuglemanref14_Bytes_0 (N + 1) ks = Lh (acall T (k + 13)) (m + 1) (some (rbst w L t (i + 1) (byS w L[i] (t[i]?.getD none) q))) rblive l_fuglemanref14_Bytes_0 N ks := by
  have hx : t[i]? = some t[i] := List.getElem?_eq_getElem (by omega)
  have hop := (right_op hr).2
  generalize t[i] = x at hx
  rw [hx, Option.getD_some]
  unfold byS
  cases x with
  | none => exact rby_skip k (m + 1) w L hL t hlen i hi q hop (Or.inl hx) N ks
  | some a =>
    simp only
    by_cases c : L[i].ar = 0 ∨ askI w L[i] = false
    · rw [if_pos c]
      exact rby_skip k (m + 1) w L hL t hlen i hi q hop (Or.inr c) N ks
    · rw [if_neg c]
      rw [not_or] at c
      obtain ⟨b1, b2, b3, b4, b5⟩ := right_bytes hr c.1
      obtain ⟨J, hJ⟩ : ∃ J : Nat, L[i].ar = (J : Int) + 1 := ⟨(L[i].ar - 1).toNat, by omega⟩
      obtain ⟨s, hs⟩ : ∃ s : Nat, szI L[i] = s := ⟨(szI L[i]).toNat, by omega⟩
      rw [hs] at b4 b5
      rw [rby_go k m w L hL t hlen i hi q hop a hx c.1 (by simpa using c.2) N ks, hs]
      have := rby_bits (acall T (k + 13)) (m + 1) w L hL t i hi L[i] s J hJ (by omega) ⟨b3, by omega⟩ (by omega) N ks s 0 m q hq (by omega) (by omega)
      rw [this, bits_mk q J (by omega) L[i].at_ s (by omega) b3 b4, show (L[i].ar - 1).toNat = J by omega]
theorem four {q : List Int} (h : q.length = 4) : ∃ a b c d, q = [a, b, c, d] := by
  match q, h with
  | [a, b, c, d], _ => exact ⟨a, b, c, d, rfl⟩
noncomputable abbrev byfin (C : CT) (lf : Nat) (s : St) (N : Nat) : Option Res := FnR [.cell 4 (some 4)] false false (Lh C lf (some s) bylive l_verify_bytes_0 N [.b 0, .c l_verify_bytes_1])
noncomputable abbrev rbyfin (C : CT) (lf : Nat) (s : St) (N : Nat) : Option Res := FnR [.cell 4 (some 4)] false false (Lh C lf (some s) rblive l_fuglemanref14_Bytes_0 N [.b 0, .c l_fuglemanref14_Bytes_3])
theorem by_fin (C : CT) (lf : Nat) (w : Bool) (L : List Ins) (t : List (Option Ah)) (q : List Int) (hq : q.length = 4) (N : Nat) : byfin C lf (byst w L t L.length q) N = some ⟨.agg (u4 q), [], 1⟩ := by
  have c1 : ¬ (L.length : Int) < L.length := by omega
  obtain ⟨a, b, c, d, rfl⟩ := four hq
  unfold byfin byst bylive
  rw [lh_as l_verify_bytes_0.eq_1]
  generalize hM : L.length + 1 = M at *
  generalize tT 2 t = W at *
  simp -implicitDefEqProofs only [eqs, eqd, aCall, Sym.pos, ↓reduceIte, reduceCtorEq, Nat.reduceEqDiff, Nat.reduceAdd, Nat.reduceSub, Nat.reduceMul, Nat.reduceLT, Nat.reduceLeDiff, Nat.reduceBEq, Nat.reduceBNe, Nat.reduceGT, Int.reduceEq, Int.reduceLT, Int.reduceLE, Int.reduceToNat, Int.reduceAdd, Int.reduceSub, Int.reduceMul, Int.reduceNeg, Int.reduceBEq, Int.reduceBNe, g_verify_bytes_0, l_verify_bytes_1, u4, c1, r0, s0]
theorem rby_fin (C : CT) (lf : Nat) (w : Bool) (L : List Ins) (t : List (Option Ah)) (q : List Int) (hq : q.length = 4) (N : Nat) : rbyfin C lf (rbst w L t L.length q) N = some ⟨.agg (u4 q), [], 1⟩ := by
  have c1 : ¬ (L.length : Int) < L.length := by omega
  obtain ⟨a, b, c, d, rfl⟩ := four hq
  unfold rbyfin rbst rblive
  rw [lh_as l_fuglemanref14_Bytes_0.eq_1]
  generalize hM : L.length + 1 = M at *
  generalize rr t = R at *
  simp -implicitDefEqProofs only [eqs, eqd, aCall, Sym.pos, ↓reduceIte, reduceCtorEq, Nat.reduceEqDiff, Nat.reduceAdd, Nat.reduceSub, Nat.reduceMul, Nat.reduceLT, Nat.reduceLeDiff, Nat.reduceBEq, Nat.reduceBNe, Nat.reduceGT, Int.reduceEq, Int.reduceLT, Int.reduceLE, Int.reduceToNat, Int.reduceAdd, Int.reduceSub, Int.reduceMul, Int.reduceNeg, Int.reduceBEq, Int.reduceBNe, nx_nil, l_fuglemanref14_Bytes_3, u4, c1, r0, s0]
theorem by_run (k lf : Nat) (w : Bool) (L : List Ins) (hL : L.length ≤ 200) (t : List (Option Ah)) (hlen : t.length = L.length + 1) (hr : ∀ (j : Nat) (h : j < L.length), right L[j] = true) : ∀ (m i N : Nat) (q : List Int), i + m = L.length → m ≤ N → q.length = 4 → byfin (acall T (k + 17)) lf (byst w L t i q) N = some ⟨.agg (u4 (byR w L t m i q)), [], 1⟩
  | 0, i, N, q, hi, hN, hq => by
    obtain rfl : i = L.length := by omega
    exact by_fin _ lf w L t q hq N
  | m + 1, i, N, q, hi, hN, hq => by
    obtain ⟨N, rfl⟩ : ∃ M, N = M + 1 := ⟨N - 1, by omega⟩
    have h : i < L.length := by omega
    have := by_run k lf w L hL t hlen hr m (i + 1) N (byS w L[i] (t[i]?.getD none) q) (by omega) (by omega) (by rw [byS_len, hq])
    unfold byfin at this ⊢
    rw [by_step k lf w L hL t hlen i h (hr i h) q hq N, this, byR, dif_pos h]
theorem rby_run (k n : Nat) (hn : 5 ≤ n) (w : Bool) (L : List Ins) (hL : L.length ≤ 200) (t : List (Option Ah)) (hlen : t.length = L.length + 1) (hr : ∀ (j : Nat) (h : j < L.length), right L[j] = true) : ∀ (m i N : Nat) (q : List Int), i + m = L.length → m ≤ N → q.length = 4 → rbyfin (acall T (k + 13)) (n + 1) (rbst w L t i q) N = some ⟨.agg (u4 (byR w L t m i q)), [], 1⟩
  | 0, i, N, q, hi, hN, hq => by
    obtain rfl : i = L.length := by omega
    exact rby_fin _ (n + 1) w L t q hq N
  | m + 1, i, N, q, hi, hN, hq => by
    obtain ⟨N, rfl⟩ : ∃ M, N = M + 1 := ⟨N - 1, by omega⟩
    have h : i < L.length := by omega
    have := rby_run k n hn w L hL t hlen hr m (i + 1) N (byS w L[i] (t[i]?.getD none) q) (by omega) (by omega) (by rw [byS_len, hq])
    unfold rbyfin at this ⊢
    rw [rby_step k n hn w L hL t hlen i h (hr i h) q hq N, this, byR, dif_pos h]
end Go.Proofs.Ytlefnekfeeihaaa.Ver

/- The bytes that a program touches: both functions whole. -/
namespace Go.Proofs.Ytlefnekfeeihaaa.Ver
open Go Go.Proofs.Ytlefnekfeeihaaa.Sym Go.Proofs.Ytlefnekfeeihaaa.Tab
set_option linter.unusedVariables false
set_option linter.unusedSimpArgs false
set_option maxHeartbeats 4000000
set_option maxRecDepth 20000
theorem by_err (k : Nat) (w : Bool) (e p : Int) (he : e ≠ 0) (d : Nat) (hd : d ≤ 1) (x : AV) (hx : ∃ n cs, x = .shr n false cs ∧ cs.all atom = true ∧ cs.all flat0 = true) (h : acall T (k + 17) 14 0 [x] [] = some ⟨.tup [.v (.slice none 0 0), .v (.int .i64 e), .v (.int .i64 p)], [], d⟩) :
    acall T (k + 18) 22 0 [x, .fn (askF w) []] [] = some ⟨.agg (u4 z4), [], 1⟩ := by
  obtain ⟨n, cs, rfl, h1, h2⟩ := hx
  rw [acall_go (body := b_verify_bytes) rfl rfl (Nat.zero_le _)]
  have he' : (e != 0) = true := by simpa using he
  have hdd : d = 0 ∨ d = 1 := by omega
  rcases hdd with rfl | rfl <;> simp -implicitDefEqProofs only [eqs, eqd, aCall, Sym.reach, Sym.pos, ↓reduceIte, reduceCtorEq, Nat.reduceEqDiff, Nat.reduceAdd, Nat.reduceSub, Nat.reduceMul, Nat.reduceLT, Nat.reduceLeDiff, Nat.reduceBEq, Nat.reduceBNe, Nat.reduceGT, Int.reduceEq, Int.reduceLT, Int.reduceLE, Int.reduceToNat, Int.reduceAdd, Int.reduceSub, Int.reduceMul, Int.reduceNeg, Int.reduceBEq, Int.reduceBNe, b_verify_bytes, g_verify_bytes_0, u4, h, he', r0, s0]
theorem rby_err (k : Nat) (w : Bool) (e p : Int) (he : e ≠ 0) (d : Nat) (hd : d ≤ 1) (x : AV) (hx : ∃ n cs, x = .shr n false cs ∧ cs.all atom = true ∧ cs.all flat0 = true) (h : acall T (k + 13) 8 0 [x] [] = some ⟨.tup [.v (.slice none 0 0), .v (.int .i64 e), .v (.int .i64 p)], [], d⟩) :
    acall T (k + 14) 12 0 [x, .v (.bool w)] [] = some ⟨.agg (u4 z4), [], 1⟩ := by
  obtain ⟨n, cs, rfl, h1, h2⟩ := hx
  rw [acall_go (body := b_fuglemanref14_Bytes) rfl rfl (Nat.zero_le _)]
  have he' : (e != 0) = true := by simpa using he
  have hdd : d = 0 ∨ d = 1 := by omega
  rcases hdd with rfl | rfl <;> simp -implicitDefEqProofs only [eqs, eqd, aCall, Sym.reach, Sym.pos, ↓reduceIte, reduceCtorEq, Nat.reduceEqDiff, Nat.reduceAdd, Nat.reduceSub, Nat.reduceMul, Nat.reduceLT, Nat.reduceLeDiff, Nat.reduceBEq, Nat.reduceBNe, Nat.reduceGT, Int.reduceEq, Int.reduceLT, Int.reduceLE, Int.reduceToNat, Int.reduceAdd, Int.reduceSub, Int.reduceMul, Int.reduceNeg, Int.reduceBEq, Int.reduceBNe, b_fuglemanref14_Bytes, u4, h, he', r0, s0]
theorem by_ok (k : Nat) (hk : 200 ≤ k) (w : Bool) (L : List Ins) (hL : L.length ≤ 200) (t : List (Option Ah)) (hlen : t.length = L.length + 1) (hr : ∀ (j : Nat) (h : j < L.length), right L[j] = true) (h : acall T (k + 17) 14 0 [.shr L.length false (L.flatMap Ins.c)] [] = some ⟨.tup [.view 0 0 (L.length + 1) 1 (some (L.length + 1)), .v (.int .i64 0), .v (.int .i64 0)], canT t true, 1⟩) :
    acall T (k + 18) 22 0 [.shr L.length false (L.flatMap Ins.c), .fn (askF w) []] [] = some ⟨.agg (u4 (byR w L t L.length 0 z4)), [], 1⟩ := by
  have key := by_run k (k + 17) w L hL t hlen hr L.length 0 (k + 16) z4 (by omega) (by omega) rfl
  rw [acall_go (body := b_verify_bytes) rfl rfl (Nat.zero_le _), ← key]
  clear key hr
  have lp : ∀ (ks : List It) (s : St), Lp (acall T (k + 17)) (k + 17) [1, 4, 5, 6, 21, 22, 23] l_verify_bytes_0 (k + 17) ks s = Lh (acall T (k + 17)) (k + 17) (canon [1, 4, 5, 6, 21, 22, 23] s) [1, 4, 5, 6, 21, 22, 23] l_verify_bytes_0 (k + 16) ks := fun ks s => lp_succ (n := k + 16)
  have hs : (som t).length ≤ 300 := by have := som_le t; omega
  have m1 := fun c1 c2 => t2_reach t hs c1 c2 []
  have m2 := fun c1 c2 => t2_sub t hs c1 c2 []
  simp only [List.append_nil] at m1 m2
  have q3 : ∀ o1 o2 : Sym.Obj, (canT t true).map (mergeO [o1, o2] [] 0) = tT 2 t := fun o1 o2 => canT_off [o1, o2] t
  unfold byfin byst bylive
  generalize hM : L.length + 1 = M at *
  generalize canT t true = V at *
  generalize tT 2 t = W at *
  generalize List.range' 3 (som t).length = ps at *
  generalize L.flatMap Ins.c = cs at *
  generalize L.length = n at *
  simp -implicitDefEqProofs only [eqs, eqd, aCall, Sym.pos, ↓reduceIte, reduceCtorEq, Nat.reduceEqDiff, Nat.reduceAdd, Nat.reduceSub, Nat.reduceMul, Nat.reduceLT, Nat.reduceLeDiff, Nat.reduceBEq, Nat.reduceBNe, Nat.reduceGT, Int.reduceEq, Int.reduceLT, Int.reduceLE, Int.reduceToNat, Int.reduceAdd, Int.reduceSub, Int.reduceMul, Int.reduceNeg, Int.reduceBEq, Int.reduceBNe, b_verify_bytes, g_verify_bytes_0, u4, h, r0, s0, m1, m2, q3, lp, Int.toNat_natCast, Int.natCast_zero]
theorem rby_ok (k : Nat) (hk : 200 ≤ k) (w : Bool) (L : List Ins) (hL : L.length ≤ 200) (t : List (Option Ah)) (hlen : t.length = L.length + 1) (hr : ∀ (j : Nat) (h : j < L.length), right L[j] = true) (h : acall T (k + 13) 8 0 [.shr L.length false (L.flatMap Ins.c)] [] = some ⟨.tup [.view 0 0 (L.length + 1) 3 (some (L.length + 1)), .v (.int .i64 0), .v (.int .i64 0)], [⟨true, true, true, rr t⟩], 1⟩) :
    acall T (k + 14) 12 0 [.shr L.length false (L.flatMap Ins.c), .v (.bool w)] [] = some ⟨.agg (u4 (byR w L t L.length 0 z4)), [], 1⟩ := by
  have key : rbyfin (acall T (k + 13)) (k + 13) (rbst w L t 0 z4) (k + 12) = some ⟨.agg (u4 (byR w L t L.length 0 z4)), [], 1⟩ := rby_run k (k + 12) (by omega) w L hL t hlen hr L.length 0 (k + 12) z4 (by omega) (by omega) rfl
  rw [acall_go (body := b_fuglemanref14_Bytes) rfl rfl (Nat.zero_le _), ← key]
  clear key hr
  have lp : ∀ (ks : List It) (s : St), Lp (acall T (k + 13)) (k + 13) [0, 1, 4, 5, 6, 9] l_fuglemanref14_Bytes_0 (k + 13) ks s = Lh (acall T (k + 13)) (k + 13) (canon [0, 1, 4, 5, 6, 9] s) [0, 1, 4, 5, 6, 9] l_fuglemanref14_Bytes_0 (k + 12) ks := fun ks s => lp_succ (n := k + 12)
  unfold rbyfin rbst rblive
  generalize hM : L.length + 1 = M at *
  generalize rr t = R at *
  generalize L.flatMap Ins.c = cs at *
  generalize L.length = n at *
  simp -implicitDefEqProofs only [eqs, eqd, aCall, Sym.reach, Sym.pos, Sym.sub, ↓reduceIte, reduceCtorEq, Nat.reduceEqDiff, Nat.reduceAdd, Nat.reduceSub, Nat.reduceMul, Nat.reduceLT, Nat.reduceLeDiff, Nat.reduceBEq, Nat.reduceBNe, Nat.reduceGT, Int.reduceEq, Int.reduceLT, Int.reduceLE, Int.reduceToNat, Int.reduceAdd, Int.reduceSub, Int.reduceMul, Int.reduceNeg, Int.reduceBEq, Int.reduceBNe, b_fuglemanref14_Bytes, u4, h, lp, Int.toNat_natCast, Int.natCast_zero]
theorem wr_a (k : Nat) (x : AV) (hx : ∃ n cs, x = .shr n false cs ∧ cs.all atom = true ∧ cs.all flat0 = true) (q : List Int) (hq : q.length = 4) (h : acall T (k + 18) 22 0 [x, .fn (askF true) []] [] = some ⟨.agg (u4 q), [], 1⟩) :
    acall T (k + 19) 11 0 [x] [] = some ⟨.agg (u4 q), [], 1⟩ := by
  obtain ⟨n, cs, rfl, h1, h2⟩ := hx
  obtain ⟨a, b, c, d, rfl⟩ := four hq
  rw [acall_go (body := b_verify_Writes) rfl rfl (Nat.zero_le _)]
  simp only [askF, if_true, u4, List.map_cons, List.map_nil] at h
  simp -implicitDefEqProofs only [eqs, eqd, aCall, Sym.reach, Sym.pos, ↓reduceIte, reduceCtorEq, Nat.reduceEqDiff, Nat.reduceAdd, Nat.reduceSub, Nat.reduceMul, Nat.reduceLT, Nat.reduceLeDiff, Nat.reduceBEq, Nat.reduceBNe, Nat.reduceGT, Int.reduceEq, Int.reduceLT, Int.reduceLE, Int.reduceToNat, Int.reduceAdd, Int.reduceSub, Int.reduceMul, Int.reduceNeg, Int.reduceBEq, Int.reduceBNe, b_verify_Writes, u4, h, r0, s0]
theorem rd_a (k : Nat) (x : AV) (hx : ∃ n cs, x = .shr n false cs ∧ cs.all atom = true ∧ cs.all flat0 = true) (q : List Int) (hq : q.length = 4) (h : acall T (k + 18) 22 0 [x, .fn (askF false) []] [] = some ⟨.agg (u4 q), [], 1⟩) :
    acall T (k + 19) 13 0 [x] [] = some ⟨.agg (u4 q), [], 1⟩ := by
  obtain ⟨n, cs, rfl, h1, h2⟩ := hx
  obtain ⟨a, b, c, d, rfl⟩ := four hq
  rw [acall_go (body := b_verify_Reads) rfl rfl (Nat.zero_le _)]
  simp only [askF, Bool.false_eq_true, if_false, u4, List.map_cons, List.map_nil] at h
  simp -implicitDefEqProofs only [eqs, eqd, aCall, Sym.reach, Sym.pos, ↓reduceIte, reduceCtorEq, Nat.reduceEqDiff, Nat.reduceAdd, Nat.reduceSub, Nat.reduceMul, Nat.reduceLT, Nat.reduceLeDiff, Nat.reduceBEq, Nat.reduceBNe, Nat.reduceGT, Int.reduceEq, Int.reduceLT, Int.reduceLE, Int.reduceToNat, Int.reduceAdd, Int.reduceSub, Int.reduceMul, Int.reduceNeg, Int.reduceBEq, Int.reduceBNe, b_verify_Reads, u4, h, r0, s0]
end Go.Proofs.Ytlefnekfeeihaaa.Ver

/- What the laws are given. Written by a program for this claim. -/
namespace Go.Proofs.Ytlefnekfeeihaaa.Args
open Go Go.Proofs.Ytlefnekfeeihaaa.Sym
set_option linter.unusedVariables false
/-- api.Instr = fugleman/api.Instr -/
structure S37 where
  f0 : Int
  f1 : Int
  f2 : Int
  f3 : Int
  f4 : Int
def S37.av (v : S37) : List AV := [.v (.int .i64 v.f0), .v (.int .i64 v.f1), .v (.int .i64 v.f2), .v (.int .i64 v.f3), .v (.int .i64 v.f4)]
structure S37.In (v : S37) : Prop where
  f0 : (-9223372036854775808 ≤ v.f0 ∧ v.f0 ≤ 9223372036854775807)
  f1 : (-9223372036854775808 ≤ v.f1 ∧ v.f1 ≤ 9223372036854775807)
  f2 : (-9223372036854775808 ≤ v.f2 ∧ v.f2 ≤ 9223372036854775807)
  f3 : (-9223372036854775808 ≤ v.f3 ∧ v.f3 ≤ 9223372036854775807)
  f4 : (-9223372036854775808 ≤ v.f4 ∧ v.f4 ≤ 9223372036854775807)
theorem rd37 : Rd Try.prog 37 5 S37.av S37.In := rd_struct (rdF_cons 3 0 (rd_imp (rd_int Try.underlying3) fun v h => rng_i64 h) (by kernel_rfl) (rdF_cons 3 1 (rd_imp (rd_int Try.underlying3) fun v h => rng_i64 h) (by kernel_rfl) (rdF_cons 3 2 (rd_imp (rd_int Try.underlying3) fun v h => rng_i64 h) (by kernel_rfl) (rdF_cons 3 3 (rd_imp (rd_int Try.underlying3) fun v h => rng_i64 h) (by kernel_rfl) (rdF_one 2 4 (rd_imp (rd_int Try.underlying2) fun v h => rng_i64 h) (by kernel_rfl)))))) Try.underlying37 rfl (fun v => ⟨v.1, v.2.1, v.2.2.1, v.2.2.2.1, v.2.2.2.2⟩) (fun _ => rfl) (fun _ => rfl) (fun v h => ⟨h.1, h.2.1, h.2.2.1, h.2.2.2.1, h.2.2.2.2⟩) (by kernel_rfl)
theorem rVerifyChecks0 : Rd Try.prog 22 1 (fun x : List (S37) => [.shr x.length false (x.flatMap S37.av)]) (fun v : List (S37) => (v.length ≤ 140737488351232 ∧ ∀ (i0 : Nat) x0, v[i0]? = some x0 → S37.In x0)) := (rd_slice Try.underlying22 rd37 (by kernel_rfl) (by kernel_rfl))
theorem rVerifyBehind0 : Rd Try.prog 22 1 (fun x : List (S37) => [.shr x.length false (x.flatMap S37.av)]) (fun v : List (S37) => (v.length ≤ 140737488351232 ∧ ∀ (i0 : Nat) x0, v[i0]? = some x0 → S37.In x0)) := (rd_slice Try.underlying22 rd37 (by kernel_rfl) (by kernel_rfl))
theorem rVerifyBehind1 : Rd Try.prog 22 1 (fun x : List (S37) => [.shr x.length false (x.flatMap S37.av)]) (fun v : List (S37) => (v.length ≤ 140737488351232 ∧ ∀ (i0 : Nat) x0, v[i0]? = some x0 → S37.In x0)) := (rd_slice Try.underlying22 rd37 (by kernel_rfl) (by kernel_rfl))
theorem rVerifyBytes0 : Rd Try.prog 22 1 (fun x : List (S37) => [.shr x.length false (x.flatMap S37.av)]) (fun v : List (S37) => (v.length ≤ 140737488351232 ∧ ∀ (i0 : Nat) x0, v[i0]? = some x0 → S37.In x0)) := (rd_slice Try.underlying22 rd37 (by kernel_rfl) (by kernel_rfl))
end Go.Proofs.Ytlefnekfeeihaaa.Args

/- The law VerifyBytes. -/
namespace Go.Proofs.Ytlefnekfeeihaaa.Said
open Go Go.Proofs.Ytlefnekfeeihaaa.Sym Go.Proofs.Ytlefnekfeeihaaa.Tab Go.Proofs.Ytlefnekfeeihaaa.Args Go.Proofs.Ytlefnekfeeihaaa.Ver Go.Proofs.Ytlefnekfeeihaaa.VAwk
set_option linter.unusedVariables false
set_option linter.unusedSimpArgs false
set_option maxHeartbeats 4000000
set_option maxRecDepth 20000
def toIB (v : S37) : Ins := ⟨v.f0, v.f1, v.f2, v.f3, v.f4⟩
theorem toIB_c (l : List S37) : l.flatMap S37.av = (l.map toIB).flatMap Ins.c := by
  rw [List.flatMap_map]
  rfl
theorem toIB_in {l : List S37} (h : ∀ (i0 : Nat) x0, l[i0]? = some x0 → S37.In x0) (i : Nat) (hi : i < (l.map toIB).length) : ((l.map toIB)[i]).In := by
  rw [List.getElem_map]
  have hl : i < l.length := by simpa using hi
  have := h i l[i] (List.getElem?_eq_getElem hl)
  exact ⟨this.1, this.2, this.3, this.4, this.5⟩
theorem csB_ok (L : List Ins) : ∃ n cs, AV.shr L.length false (L.flatMap Ins.c) = .shr n false cs ∧ cs.all atom = true ∧ cs.all flat0 = true := by
  refine ⟨_, _, rfl, ?_, ?_⟩
  · induction L with
    | nil => rfl
    | cons x L ih => rw [List.flatMap_cons, List.all_append, ih]; rfl
  · induction L with
    | nil => rfl
    | cons x L ih => rw [List.flatMap_cons, List.all_append, ih]; rfl
theorem vb_two (L : List Ins) (hL : ¬ (210 : Int) < L.length) (q p : List Int) (hq : q.length = 4) (hp : p.length = 4)
    (h1 : acall T 298 22 0 [.shr L.length false (L.flatMap Ins.c), .fn (askF true) []] [] = some ⟨.agg (u4 q), [], 1⟩)
    (h2 : acall T 298 22 0 [.shr L.length false (L.flatMap Ins.c), .fn (askF false) []] [] = some ⟨.agg (u4 p), [], 1⟩)
    (h3 : acall T 299 12 0 [.shr L.length false (L.flatMap Ins.c), .v (.bool true)] [] = some ⟨.agg (u4 q), [], 1⟩)
    (h4 : acall T 299 12 0 [.shr L.length false (L.flatMap Ins.c), .v (.bool false)] [] = some ⟨.agg (u4 p), [], 1⟩) :
    ∃ ob d, acall T 300 5 0 [.shr L.length false (L.flatMap Ins.c)] [] = some ⟨.v (.bool true), ob, d⟩ := by
  refine ⟨[], 1, ?_⟩
  have g1 := wr_a 280 _ (csB_ok L) q hq h1
  have g2 := rd_a 280 _ (csB_ok L) p hp h2
  obtain ⟨a, b, c, d, rfl⟩ := four hq
  obtain ⟨a', b', c', d', rfl⟩ := four hp
  rw [acall_go (body := b_fuglemanlaw14_VerifyBytes) rfl rfl (Nat.zero_le _)]
  simp only [u4, List.map_cons, List.map_nil, Nat.reduceAdd] at g1 g2 h3 h4
  simp -implicitDefEqProofs only [eqs, eqd, aCall, Sym.reach, Sym.pos, Sym.sub, ↓reduceIte, reduceCtorEq, Nat.reduceEqDiff, Nat.reduceAdd, Nat.reduceSub, Nat.reduceMul, Nat.reduceLT, Nat.reduceLeDiff, Nat.reduceBEq, Nat.reduceBNe, Nat.reduceGT, Int.reduceEq, Int.reduceLT, Int.reduceLE, Int.reduceToNat, Int.reduceAdd, Int.reduceSub, Int.reduceMul, Int.reduceNeg, Int.reduceBEq, Int.reduceBNe, b_fuglemanlaw14_VerifyBytes, awake_a, g1, g2, h3, h4, hL]
theorem VerifyBytes : ∀ (a0 : List (S37)), (a0.length ≤ 140737488351232 ∧ ∀ (i0 : Nat) x0, a0[i0]? = some x0 → S37.In x0) → ∃ ob d, acall T 300 5 0 [.shr a0.length false (a0.flatMap S37.av)] [] = some ⟨.v (.bool true), ob, d⟩ := fun a0 ⟨_, h⟩ => by
  have hin := toIB_in h
  rw [toIB_c, show a0.length = (a0.map toIB).length by simp]
  generalize a0.map toIB = L at hin
  by_cases c : (210 : Int) < L.length
  · refine ⟨[], 1, ?_⟩
    rw [acall_go (body := b_fuglemanlaw14_VerifyBytes) rfl rfl (Nat.zero_le _)]
    simp -implicitDefEqProofs only [eqs, eqd, aCall, Sym.reach, Sym.pos, Sym.sub, ↓reduceIte, reduceCtorEq, Nat.reduceEqDiff, Nat.reduceAdd, Nat.reduceSub, Nat.reduceMul, Nat.reduceLT, Nat.reduceLeDiff, Nat.reduceBEq, Nat.reduceBNe, Nat.reduceGT, Int.reduceEq, Int.reduceLT, Int.reduceLE, Int.reduceToNat, Int.reduceAdd, Int.reduceSub, Int.reduceMul, Int.reduceNeg, Int.reduceBEq, Int.reduceBNe, b_fuglemanlaw14_VerifyBytes, awake_a, c]
  by_cases c2 : 200 < L.length
  · have h1 := all_long 280 L c2
    have h2 := rall_long 285 L c2
    exact vb_two L c z4 z4 rfl rfl (by_err 280 true 2 200 (by decide) 0 (by omega) _ (csB_ok L) h1) (by_err 280 false 2 200 (by decide) 0 (by omega) _ (csB_ok L) h1) (rby_err 285 true 2 200 (by decide) 0 (by omega) _ (csB_ok L) h2) (rby_err 285 false 2 200 (by decide) 0 (by omega) _ (csB_ok L) h2)
  have hL : L.length ≤ 200 := by omega
  have h1 := all_a 280 (by omega) L hL hin
  have h2 := rall_a 285 (by omega) L hL hin
  obtain ⟨i1, i2⟩ := run_in L hL hin L.length 0 (t00 L.length) (by omega) (t00_in _) (t00_len _)
  have i3 := run_right L L.length 0 (t00 L.length) (by omega)
  generalize run L L.length 0 (t00 L.length) = r at *
  obtain ⟨e, p, t⟩ := r
  unfold pres at h1
  unfold rres at h2
  simp only at h1 h2 i1 i2 i3
  by_cases he : e = 0
  · rw [if_pos he] at h1 h2
    have hr : ∀ (j : Nat) (h : j < L.length), right L[j] = true := fun j h => i3 he j h (Nat.zero_le _)
    exact vb_two L c _ _ (by rw [byR_len]; rfl) (by rw [byR_len]; rfl) (by_ok 280 (by omega) true L hL t i2 hr h1) (by_ok 280 (by omega) false L hL t i2 hr h1) (rby_ok 285 (by omega) true L hL t i2 hr h2) (rby_ok 285 (by omega) false L hL t i2 hr h2)
  · rw [if_neg he] at h1 h2
    exact vb_two L c z4 z4 rfl rfl (by_err 280 true e p he 1 (by omega) _ (csB_ok L) h1) (by_err 280 false e p he 1 (by omega) _ (csB_ok L) h1) (rby_err 285 true e p he 1 (by omega) _ (csB_ok L) h2) (rby_err 285 false e p he 1 (by omega) _ (csB_ok L) h2)
end Go.Proofs.Ytlefnekfeeihaaa.Said
