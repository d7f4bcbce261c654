/- The program's all: an instruction that leads on. -/
import Derived.Test.YtlefnekfeeihaaaProg
import Derived.KernelRfl
import Derived.Test.YtlefnekfeeihaaaMgb96ff016
import Derived.Test.YtlefnekfeeihaaaMg3c743b61
import Derived.Test.YtlefnekfeeihaaaMgdf970f62
namespace Go.Proofs.Ytlefnekfeeihaaa.Ver
open Go Go.Proofs.Ytlefnekfeeihaaa.Sym Go.Proofs.Ytlefnekfeeihaaa.Tab
set_option linter.unusedVariables false
set_option linter.unusedSimpArgs false
set_option maxHeartbeats 4000000
set_option maxRecDepth 20000
theorem after_X (t t' : List (Option Ah)) (hs : (som t).length ≤ 300) (o7 o8 : Sym.Obj) : (after (canT t true ++ [o7] ++ [o8]) (List.range' 1 (som t).length) t')[(canT t true).length]? = some o7 ∧ (after (canT t true ++ [o7] ++ [o8]) (List.range' 1 (som t).length) t')[(canT t true ++ [o7]).length]? = some o8 := by
  have hl := canT_len t true
  constructor
  · rw [after_other (by omega) (by rw [List.mem_range'_1]; omega) (by simp)]
    exact wz3 _ _ _
  · rw [after_other (by simp) (by rw [List.mem_range'_1, List.length_append]; simp; omega) (by simp)]
    exact wz1 _ _
theorem has_more2 (t : List (Option Ah)) (hs : (som t).length ≤ 300) (o7 o8 : Sym.Obj) : HasT (canT t true ++ [o7] ++ [o8]) (List.range' 1 (som t).length) t true := by
  rw [List.append_assoc]
  exact has_more t hs _
theorem all_on (k lf : Nat) (L : List Ins) (hL : L.length ≤ 200) (t : List (Option Ah)) (hA : AllIn t) (hlen : t.length = L.length + 1) (i : Nat) (hi : i < L.length) (hr : right L[i] = true) (a : Ah) (hx : t[i]? = some (some a)) (b : Ah) (hbi : b.In) (on : onI L[i] = true) (jm : jmp L[i] = false)
    (hb : acall T (k + 16) 28 0 [.agg a.c, .agg L[i].c] [] = some ⟨.tup [.agg b.c, .v (.int .i64 0)], [], 1⟩) (N : Nat) :
    ((lead1 t (i + 1) b).2 = true → pfin k lf L t i (N + 1) = pfin k lf L (lead1 t (i + 1) b).1 (i + 1) N) ∧
    ((lead1 t (i + 1) b).2 = false → pfin k lf L t i (N + 1) = some ⟨.tup [.v (.slice none 0 0), .v (.int .i64 7), .v (.int .i64 i)], [], 1⟩) := by
  have c1 : (i : Int) < L.length := by omega
  have c0 : (0 : Int) ≤ i := by omega
  have c2 : (i : Int) < ((L.length + 1 : Nat) : Int) := by omega
  have w : IntKind.i64.wrap ((i : Int) + 1) = i + 1 := w64 (by omega) (by omega)
  have h5 := ins_at L i hi
  have l5 : i * 5 + 5 ≤ L.length * 5 := by omega
  have hri := right_a (k + 11) L[i]
  rw [hr] at hri
  have hja := jumps_a (k + 15) L[i]
  rw [jm] at hja
  have hoa := on_a (k + 15) L[i]
  rw [on] at hoa
  have hri := flat_call hri
  have hja := flat_call hja
  have hoa := flat_call hoa
  have hs := som_le t
  have hs1 := som_le (lead1 t (i + 1) b).1
  rw [lead1_len] at hs1
  obtain ⟨p, hp, ht, hso⟩ := tcl_some (List.range' 1 (som t).length) t i a (by simp) hx
  have htl := tcl_len (List.range' 1 (som t).length) t
  rw [hlen] at htl
  have l1 : i + 1 ≤ L.length + 1 := by omega
  have m3 := more_tab t
  have m4 := more_obj t (by omega) hp hso
  have hT := has_more2 t (by omega) ⟨true, true, true, L[i].c⟩ ⟨true, true, true, b.c⟩
  have hld := lead1_call (k + 2) hT (i + 1) (by omega) (by omega) hA b hbi
  rw [hlen] at hld
  have hX := after_X t (lead1 t (i + 1) b).1 (by omega) ⟨true, true, true, L[i].c⟩ ⟨true, true, true, b.c⟩
  have hT2 := after_has (t' := (lead1 t (i + 1) b).1) hT (by omega) (by simp)
  have hX7 := hX.1
  have q1 := hT2.reach
  have q2 := hT2.sub true (fun _ => rfl)
  rw [Bool.and_true] at q2
  clear hx hp hso hT hT2 hX
  unfold pfin pst penv plive
  rw [lh_as l_verify_all_0.eq_1]
  generalize (lead1 t (i + 1) b).1 = t' at *
  generalize (lead1 t (i + 1) b).2 = r at *
  generalize L[i] = ins at *
  generalize hM : L.length + 1 = M at *
  generalize after (canT t true ++ [(⟨true, true, true, ins.c⟩ : Sym.Obj)] ++ [(⟨true, true, true, b.c⟩ : Sym.Obj)]) (List.range' 1 (som t).length) t' = X at *
  generalize canT t true = W at *
  generalize canT t' true = Y at *
  generalize tcl (List.range' 1 (som t).length) t = tc at *
  generalize List.range' _ (som t').length = ps' at *
  obtain ⟨ak, an, as1⟩ := a
  obtain ⟨bk, bn, bs⟩ := b
  simp only [Ins.c] at hri hja hoa hb hX7 hld
  refine ⟨fun hr => ?_, fun hr => ?_⟩
  · rw [hr] at hld
    cases an <;> cases bn <;> simp only [Ah.c, openA, Bool.false_eq_true, if_false, if_true, Int.natCast_add, Int.natCast_one] at hb m4 hld <;>
    simp -implicitDefEqProofs only [eqs, eqd, Sym.pos, ↓reduceIte, reduceCtorEq, Nat.reduceEqDiff, Nat.reduceAdd, Nat.reduceSub, Nat.reduceMul, Nat.reduceLT, Nat.reduceLeDiff, Nat.reduceBEq, Nat.reduceBNe, Nat.reduceGT, Int.reduceEq, Int.reduceLT, Int.reduceLE, Int.reduceToNat, Int.reduceAdd, Int.reduceSub, Int.reduceMul, Int.reduceNeg, Int.reduceBEq, Int.reduceBNe, nx_nil, Ins.c, nilp, c0, c1, c2, w, h5, l5, l1, ins_len, hri, hja, hoa, hb, hld, hX7, q1, q2, ht, htl, m3, m4, Int.toNat_natCast, Int.natCast_add, r0, s0, wz1, wz2, wz3]
  · rw [hr] at hld
    cases an <;> cases bn <;> simp only [Ah.c, openA, Bool.false_eq_true, if_false, if_true, Int.natCast_add, Int.natCast_one] at hb m4 hld <;>
    simp -implicitDefEqProofs only [eqs, eqd, Sym.pos, ↓reduceIte, reduceCtorEq, Nat.reduceEqDiff, Nat.reduceAdd, Nat.reduceSub, Nat.reduceMul, Nat.reduceLT, Nat.reduceLeDiff, Nat.reduceBEq, Nat.reduceBNe, Nat.reduceGT, Int.reduceEq, Int.reduceLT, Int.reduceLE, Int.reduceToNat, Int.reduceAdd, Int.reduceSub, Int.reduceMul, Int.reduceNeg, Int.reduceBEq, Int.reduceBNe, nx_nil, Ins.c, nilp, c0, c1, c2, w, h5, l5, l1, ins_len, hri, hja, hoa, hb, hld, hX7, q1, q2, ht, htl, m3, m4, Int.toNat_natCast, Int.natCast_add, r0, s0, wz1, wz2, wz3]
end Go.Proofs.Ytlefnekfeeihaaa.Ver

/- The program's all: an instruction that only jumps, and one that ends. -/
namespace Go.Proofs.Ytlefnekfeeihaaa.Ver
open Go Go.Proofs.Ytlefnekfeeihaaa.Sym Go.Proofs.Ytlefnekfeeihaaa.Tab
set_option linter.unusedVariables false
set_option linter.unusedSimpArgs false
set_option maxHeartbeats 4000000
set_option maxRecDepth 20000
theorem all_to (k lf : Nat) (L : List Ins) (hL : L.length ≤ 200) (t : List (Option Ah)) (hA : AllIn t) (hlen : t.length = L.length + 1) (i : Nat) (hi : i < L.length) (hr : right L[i] = true) (a : Ah) (hx : t[i]? = some (some a)) (b : Ah) (hbi : b.In) (on : onI L[i] = false) (jm : jmp L[i] = true) (J : Nat) (hJ : L[i].at_ = J) (hj : i < J ∧ J ≤ L.length)
    (hb : acall T (k + 16) 28 0 [.agg a.c, .agg L[i].c] [] = some ⟨.tup [.agg b.c, .v (.int .i64 0)], [], 1⟩) (N : Nat) :
    ((lead1 t J b).2 = true → pfin k lf L t i (N + 1) = pfin k lf L (lead1 t J b).1 (i + 1) N) ∧
    ((lead1 t J b).2 = false → pfin k lf L t i (N + 1) = some ⟨.tup [.v (.slice none 0 0), .v (.int .i64 7), .v (.int .i64 i)], [], 1⟩) := by
  have c1 : (i : Int) < L.length := by omega
  have c0 : (0 : Int) ≤ i := by omega
  have c2 : (i : Int) < ((L.length + 1 : Nat) : Int) := by omega
  have d1 : ¬ (J : Int) ≤ i := by omega
  have d2 : ¬ (L.length : Int) < J := by omega
  have w : IntKind.i64.wrap ((i : Int) + 1) = i + 1 := w64 (by omega) (by omega)
  have h5 := ins_at L i hi
  have l5 : i * 5 + 5 ≤ L.length * 5 := by omega
  have hri := right_a (k + 11) L[i]
  rw [hr] at hri
  have hja := jumps_a (k + 15) L[i]
  rw [jm] at hja
  have hoa := on_a (k + 15) L[i]
  rw [on] at hoa
  have hri := flat_call hri
  have hja := flat_call hja
  have hoa := flat_call hoa
  have hs := som_le t
  have hs1 := som_le (lead1 t J b).1
  rw [lead1_len] at hs1
  obtain ⟨p, hp, ht, hso⟩ := tcl_some (List.range' 1 (som t).length) t i a (by simp) hx
  have htl := tcl_len (List.range' 1 (som t).length) t
  rw [hlen] at htl
  have l1 : i + 1 ≤ L.length + 1 := by omega
  have m3 := more_tab t
  have m4 := more_obj t (by omega) hp hso
  have hT := has_more2 t (by omega) ⟨true, true, true, L[i].c⟩ ⟨true, true, true, b.c⟩
  have hld := lead1_call (k + 2) hT J (by omega) (by omega) hA b hbi
  rw [hlen] at hld
  have hX := after_X t (lead1 t J b).1 (by omega) ⟨true, true, true, L[i].c⟩ ⟨true, true, true, b.c⟩
  have hT2 := after_has (t' := (lead1 t J b).1) hT (by omega) (by simp)
  have hX7 := hX.1
  have q1 := hT2.reach
  have q2 := hT2.sub true (fun _ => rfl)
  rw [Bool.and_true] at q2
  clear hx hp hso hT hT2 hX
  unfold pfin pst penv plive
  rw [lh_as l_verify_all_0.eq_1]
  generalize (lead1 t J b).1 = t' at *
  generalize (lead1 t J b).2 = r at *
  generalize L[i] = ins at *
  generalize hM : L.length + 1 = M at *
  generalize after (canT t true ++ [(⟨true, true, true, ins.c⟩ : Sym.Obj)] ++ [(⟨true, true, true, b.c⟩ : Sym.Obj)]) (List.range' 1 (som t).length) t' = X at *
  generalize canT t true = W at *
  generalize canT t' true = Y at *
  generalize tcl (List.range' 1 (som t).length) t = tc at *
  generalize List.range' _ (som t').length = ps' at *
  obtain ⟨ak, an, as1⟩ := a
  obtain ⟨bk, bn, bs⟩ := b
  simp only [Ins.c, hJ] at hri hja hoa hb hX7 hld
  refine ⟨fun hr => ?_, fun hr => ?_⟩
  · rw [hr] at hld
    cases an <;> cases bn <;> simp only [Ah.c, openA, Bool.false_eq_true, if_false, if_true, Int.natCast_add, Int.natCast_one] at hb m4 hld <;>
    simp -implicitDefEqProofs only [eqs, eqd, Sym.pos, ↓reduceIte, reduceCtorEq, Nat.reduceEqDiff, Nat.reduceAdd, Nat.reduceSub, Nat.reduceMul, Nat.reduceLT, Nat.reduceLeDiff, Nat.reduceBEq, Nat.reduceBNe, Nat.reduceGT, Int.reduceEq, Int.reduceLT, Int.reduceLE, Int.reduceToNat, Int.reduceAdd, Int.reduceSub, Int.reduceMul, Int.reduceNeg, Int.reduceBEq, Int.reduceBNe, nx_nil, Ins.c, hJ, d1, d2, nilp, c0, c1, c2, w, h5, l5, l1, ins_len, hri, hja, hoa, hb, hld, hX7, q1, q2, ht, htl, m3, m4, Int.toNat_natCast, Int.natCast_add, r0, s0, wz1, wz2, wz3]
  · rw [hr] at hld
    cases an <;> cases bn <;> simp only [Ah.c, openA, Bool.false_eq_true, if_false, if_true, Int.natCast_add, Int.natCast_one] at hb m4 hld <;>
    simp -implicitDefEqProofs only [eqs, eqd, Sym.pos, ↓reduceIte, reduceCtorEq, Nat.reduceEqDiff, Nat.reduceAdd, Nat.reduceSub, Nat.reduceMul, Nat.reduceLT, Nat.reduceLeDiff, Nat.reduceBEq, Nat.reduceBNe, Nat.reduceGT, Int.reduceEq, Int.reduceLT, Int.reduceLE, Int.reduceToNat, Int.reduceAdd, Int.reduceSub, Int.reduceMul, Int.reduceNeg, Int.reduceBEq, Int.reduceBNe, nx_nil, Ins.c, hJ, d1, d2, nilp, c0, c1, c2, w, h5, l5, l1, ins_len, hri, hja, hoa, hb, hld, hX7, q1, q2, ht, htl, m3, m4, Int.toNat_natCast, Int.natCast_add, r0, s0, wz1, wz2, wz3]
theorem all_end (k lf : Nat) (L : List Ins) (hL : L.length ≤ 200) (t : List (Option Ah)) (hA : AllIn t) (hlen : t.length = L.length + 1) (i : Nat) (hi : i < L.length) (hr : right L[i] = true) (a : Ah) (hx : t[i]? = some (some a)) (b : Ah) (hbi : b.In) (on : onI L[i] = false) (jm : jmp L[i] = false)
    (hb : acall T (k + 16) 28 0 [.agg a.c, .agg L[i].c] [] = some ⟨.tup [.agg b.c, .v (.int .i64 0)], [], 1⟩) (N : Nat) :
    pfin k lf L t i (N + 1) = pfin k lf L t (i + 1) N := by
  have c1 : (i : Int) < L.length := by omega
  have c0 : (0 : Int) ≤ i := by omega
  have c2 : (i : Int) < ((L.length + 1 : Nat) : Int) := by omega
  have w : IntKind.i64.wrap ((i : Int) + 1) = i + 1 := w64 (by omega) (by omega)
  have h5 := ins_at L i hi
  have l5 : i * 5 + 5 ≤ L.length * 5 := by omega
  have hri := right_a (k + 11) L[i]
  rw [hr] at hri
  have hja := jumps_a (k + 15) L[i]
  rw [jm] at hja
  have hoa := on_a (k + 15) L[i]
  rw [on] at hoa
  have hri := flat_call hri
  have hja := flat_call hja
  have hoa := flat_call hoa
  have hs := som_le t
  obtain ⟨p, hp, ht, hso⟩ := tcl_some (List.range' 1 (som t).length) t i a (by simp) hx
  have htl := tcl_len (List.range' 1 (som t).length) t
  rw [hlen] at htl
  have l1 : i + 1 ≤ L.length + 1 := by omega
  have m3 := more_tab t
  have m4 := more_obj t (by omega) hp hso
  have hT := has_more2 t (by omega) ⟨true, true, true, L[i].c⟩ ⟨true, true, true, b.c⟩
  have q1 := hT.reach
  have q2 := hT.sub true (fun _ => rfl)
  rw [Bool.and_true] at q2
  clear hx hp hso hT
  unfold pfin pst penv plive
  rw [lh_as l_verify_all_0.eq_1]
  generalize L[i] = ins at *
  generalize hM : L.length + 1 = M at *
  generalize canT t true = W at *
  generalize tcl (List.range' 1 (som t).length) t = tc at *
  obtain ⟨ak, an, as1⟩ := a
  obtain ⟨bk, bn, bs⟩ := b
  simp only [Ins.c] at hri hja hoa hb q1 q2
  cases an <;> cases bn <;> simp only [Ah.c, openA, Bool.false_eq_true, if_false, if_true] at hb m4 q1 q2 <;>
  simp -implicitDefEqProofs only [eqs, eqd, Sym.pos, ↓reduceIte, reduceCtorEq, Nat.reduceEqDiff, Nat.reduceAdd, Nat.reduceSub, Nat.reduceMul, Nat.reduceLT, Nat.reduceLeDiff, Nat.reduceBEq, Nat.reduceBNe, Nat.reduceGT, Int.reduceEq, Int.reduceLT, Int.reduceLE, Int.reduceToNat, Int.reduceAdd, Int.reduceSub, Int.reduceMul, Int.reduceNeg, Int.reduceBEq, Int.reduceBNe, nx_nil, Ins.c, nilp, c0, c1, c2, w, h5, l5, l1, ins_len, hri, hja, hoa, hb, q1, q2, ht, htl, m3, m4, Int.toNat_natCast, Int.natCast_add, r0, s0, wz1, wz2, wz3]
end Go.Proofs.Ytlefnekfeeihaaa.Ver

/- The program's all: an instruction that leads on and jumps. -/
namespace Go.Proofs.Ytlefnekfeeihaaa.Ver
open Go Go.Proofs.Ytlefnekfeeihaaa.Sym Go.Proofs.Ytlefnekfeeihaaa.Tab
set_option linter.unusedVariables false
set_option linter.unusedSimpArgs false
set_option maxHeartbeats 4000000
set_option maxRecDepth 20000
theorem all_both (k lf : Nat) (L : List Ins) (hL : L.length ≤ 200) (t : List (Option Ah)) (hA : AllIn t) (hlen : t.length = L.length + 1) (i : Nat) (hi : i < L.length) (hr : right L[i] = true) (a : Ah) (hx : t[i]? = some (some a)) (b : Ah) (hbi : b.In ∧ BrIn b.bs) (on : onI L[i] = true) (jm : jmp L[i] = true) (J : Nat) (hJ : L[i].at_ = J) (hj : i < J ∧ J ≤ L.length)
    (hb : acall T (k + 16) 28 0 [.agg a.c, .agg L[i].c] [] = some ⟨.tup [.agg b.c, .v (.int .i64 0)], [], 1⟩) (N : Nat) :
    ((lead1 t (i + 1) b).2 = true → (lead1 (lead1 t (i + 1) b).1 J b).2 = true → pfin k lf L t i (N + 1) = pfin k lf L (lead1 (lead1 t (i + 1) b).1 J b).1 (i + 1) N) ∧
    ((lead1 t (i + 1) b).2 = true → (lead1 (lead1 t (i + 1) b).1 J b).2 = false → pfin k lf L t i (N + 1) = some ⟨.tup [.v (.slice none 0 0), .v (.int .i64 7), .v (.int .i64 i)], [], 1⟩) ∧
    ((lead1 t (i + 1) b).2 = false → pfin k lf L t i (N + 1) = some ⟨.tup [.v (.slice none 0 0), .v (.int .i64 7), .v (.int .i64 i)], [], 1⟩) := by
  have c1 : (i : Int) < L.length := by omega
  have c0 : (0 : Int) ≤ i := by omega
  have c2 : (i : Int) < ((L.length + 1 : Nat) : Int) := by omega
  have d1 : ¬ (J : Int) ≤ i := by omega
  have d2 : ¬ (L.length : Int) < J := by omega
  have w : IntKind.i64.wrap ((i : Int) + 1) = i + 1 := w64 (by omega) (by omega)
  have h5 := ins_at L i hi
  have l5 : i * 5 + 5 ≤ L.length * 5 := by omega
  have hri := right_a (k + 11) L[i]
  rw [hr] at hri
  have hja := jumps_a (k + 15) L[i]
  rw [jm] at hja
  have hoa := on_a (k + 15) L[i]
  rw [on] at hoa
  have hri := flat_call hri
  have hja := flat_call hja
  have hoa := flat_call hoa
  have hs := som_le t
  have hs1 := som_le (lead1 t (i + 1) b).1
  rw [lead1_len] at hs1
  obtain ⟨p, hp, ht, hso⟩ := tcl_some (List.range' 1 (som t).length) t i a (by simp) hx
  have htl := tcl_len (List.range' 1 (som t).length) t
  rw [hlen] at htl
  have l1 : i + 1 ≤ L.length + 1 := by omega
  have m3 := more_tab t
  have m4 := more_obj t (by omega) hp hso
  have hT := has_more2 t (by omega) ⟨true, true, true, L[i].c⟩ ⟨true, true, true, b.c⟩
  have hld := lead1_call (k + 2) hT (i + 1) (by omega) (by omega) hA b hbi.1
  rw [hlen] at hld
  have hX := after_X t (lead1 t (i + 1) b).1 (by omega) ⟨true, true, true, L[i].c⟩ ⟨true, true, true, b.c⟩
  have hT2 := after_has (t' := (lead1 t (i + 1) b).1) hT (by omega) (by simp)
  have hX7 := hX.1
  have hX8 := hX.2
  have hl1 : (lead1 t (i + 1) b).1.length = L.length + 1 := by rw [lead1_len, hlen]
  have hs2 := som_le (lead1 (lead1 t (i + 1) b).1 J b).1
  rw [lead1_len, lead1_len] at hs2
  have hld2 := lead1_call (k + 2) hT2 J (by omega) (by omega) (hA.lead1 hbi) b hbi.1
  rw [hl1] at hld2
  have hT3 := after_has (t' := (lead1 (lead1 t (i + 1) b).1 J b).1) hT2 (by omega) (by rw [after_len]; simp; omega)
  have q1 := hT3.reach
  have q2 := hT3.sub true (fun _ => rfl)
  rw [Bool.and_true] at q2
  clear hx hp hso hT hT2 hT3 hX hl1
  unfold pfin pst penv plive
  rw [lh_as l_verify_all_0.eq_1]
  generalize (lead1 (lead1 t (i + 1) b).1 J b).1 = t2 at *
  generalize (lead1 (lead1 t (i + 1) b).1 J b).2 = r2 at *
  generalize (lead1 t (i + 1) b).1 = t' at *
  generalize (lead1 t (i + 1) b).2 = r at *
  generalize L[i] = ins at *
  generalize hM : L.length + 1 = M at *
  generalize after (canT t true ++ [(⟨true, true, true, ins.c⟩ : Sym.Obj)] ++ [(⟨true, true, true, b.c⟩ : Sym.Obj)]) (List.range' 1 (som t).length) t' = X at *
  generalize List.range' (canT t true ++ [(⟨true, true, true, ins.c⟩ : Sym.Obj)] ++ [(⟨true, true, true, b.c⟩ : Sym.Obj)]).length (som t').length = ps' at *
  generalize after X ps' t2 = X2 at *
  generalize canT t2 true = Y at *
  generalize List.range' X.length (som t2).length = ps2 at *
  generalize canT t true = W at *
  generalize tcl (List.range' 1 (som t).length) t = tc at *
  obtain ⟨ak, an, as1⟩ := a
  obtain ⟨bk, bn, bs⟩ := b
  simp only [Ins.c, hJ] at hri hja hoa hb hX7 hX8 hld
  refine ⟨fun hr hr2 => ?_, fun hr hr2 => ?_, fun hr => ?_⟩
  · rw [hr] at hld
    rw [hr2] at hld2
    cases an <;> cases bn <;> simp only [Ah.c, openA, Bool.false_eq_true, if_false, if_true, Int.natCast_add, Int.natCast_one] at hb m4 hld hld2 hX8 <;>
    simp -implicitDefEqProofs only [eqs, eqd, Sym.pos, ↓reduceIte, reduceCtorEq, Nat.reduceEqDiff, Nat.reduceAdd, Nat.reduceSub, Nat.reduceMul, Nat.reduceLT, Nat.reduceLeDiff, Nat.reduceBEq, Nat.reduceBNe, Nat.reduceGT, Int.reduceEq, Int.reduceLT, Int.reduceLE, Int.reduceToNat, Int.reduceAdd, Int.reduceSub, Int.reduceMul, Int.reduceNeg, Int.reduceBEq, Int.reduceBNe, nx_nil, Ins.c, hJ, d1, d2, nilp, c0, c1, c2, w, h5, l5, l1, ins_len, hri, hja, hoa, hb, hld, hld2, hX7, hX8, q1, q2, ht, htl, m3, m4, Int.toNat_natCast, Int.natCast_add, r0, s0, wz1, wz2, wz3]
  · rw [hr] at hld
    rw [hr2] at hld2
    cases an <;> cases bn <;> simp only [Ah.c, openA, Bool.false_eq_true, if_false, if_true, Int.natCast_add, Int.natCast_one] at hb m4 hld hld2 hX8 <;>
    simp -implicitDefEqProofs only [eqs, eqd, Sym.pos, ↓reduceIte, reduceCtorEq, Nat.reduceEqDiff, Nat.reduceAdd, Nat.reduceSub, Nat.reduceMul, Nat.reduceLT, Nat.reduceLeDiff, Nat.reduceBEq, Nat.reduceBNe, Nat.reduceGT, Int.reduceEq, Int.reduceLT, Int.reduceLE, Int.reduceToNat, Int.reduceAdd, Int.reduceSub, Int.reduceMul, Int.reduceNeg, Int.reduceBEq, Int.reduceBNe, nx_nil, Ins.c, hJ, d1, d2, nilp, c0, c1, c2, w, h5, l5, l1, ins_len, hri, hja, hoa, hb, hld, hld2, hX7, hX8, q1, q2, ht, htl, m3, m4, Int.toNat_natCast, Int.natCast_add, r0, s0, wz1, wz2, wz3]
  · rw [hr] at hld
    clear hld2 q1 q2
    cases an <;> cases bn <;> simp only [Ah.c, openA, Bool.false_eq_true, if_false, if_true, Int.natCast_add, Int.natCast_one] at hb m4 hld <;>
    simp -implicitDefEqProofs only [eqs, eqd, Sym.pos, ↓reduceIte, reduceCtorEq, Nat.reduceEqDiff, Nat.reduceAdd, Nat.reduceSub, Nat.reduceMul, Nat.reduceLT, Nat.reduceLeDiff, Nat.reduceBEq, Nat.reduceBNe, Nat.reduceGT, Int.reduceEq, Int.reduceLT, Int.reduceLE, Int.reduceToNat, Int.reduceAdd, Int.reduceSub, Int.reduceMul, Int.reduceNeg, Int.reduceBEq, Int.reduceBNe, nx_nil, Ins.c, hJ, d1, d2, nilp, c0, c1, c2, w, h5, l5, l1, ins_len, hri, hja, hoa, hb, hld, hX7, ht, htl, m3, m4, Int.toNat_natCast, Int.natCast_add, r0, s0, wz1, wz2, wz3]
end Go.Proofs.Ytlefnekfeeihaaa.Ver

/- The program's all: each round is a step. -/
namespace Go.Proofs.Ytlefnekfeeihaaa.Ver
open Go Go.Proofs.Ytlefnekfeeihaaa.Sym Go.Proofs.Ytlefnekfeeihaaa.Tab
set_option linter.unusedVariables false
set_option linter.unusedSimpArgs false
set_option maxHeartbeats 4000000
theorem all_step (k lf : Nat) (L : List Ins) (hL : L.length ≤ 200) (t : List (Option Ah)) (ht : AllIn t) (hlen : t.length = L.length + 1) (i : Nat) (hi : i < L.length) (hin : L[i].In) (N : Nat) :
    ((stp L.length i t L[i]).1 = 0 → pfin k lf L t i (N + 1) = pfin k lf L (stp L.length i t L[i]).2 (i + 1) N ∧ AllIn (stp L.length i t L[i]).2 ∧ (stp L.length i t L[i]).2.length = L.length + 1) ∧
    ((stp L.length i t L[i]).1 ≠ 0 → pfin k lf L t i (N + 1) = some ⟨.tup [.v (.slice none 0 0), .v (.int .i64 (stp L.length i t L[i]).1), .v (.int .i64 i)], [], 1⟩) := by
  unfold stp
  by_cases hr : right L[i] = false
  · rw [if_pos hr]
    exact ⟨fun h => absurd h (by simp), fun _ => all_bad k lf L hL t hlen i hi hin hr (N + 1)⟩
  rw [if_neg hr]
  have hr : right L[i] = true := by simpa using hr
  have hop := right_op hr
  have hx : t[i]? = some t[i] := List.getElem?_eq_getElem (by omega)
  rw [hx]
  generalize hxx : t[i] = x at hx
  cases x with
  | none => exact ⟨fun _ => ⟨congrArg _ (all_skip k lf L hL t hlen i hi hin hr hx N _), ht, hlen⟩, fun h => absurd rfl h⟩
  | some a =>
    have ha := ht i a hx
    simp only
    by_cases hj : jmp L[i] = true ∧ ¬ ((i : Int) < L[i].at_ ∧ L[i].at_ ≤ L.length)
    · rw [if_pos hj]
      have hjo : 25 ≤ L[i].op ∧ L[i].op ≤ 27 := by have := hj.1; unfold jmp at this; simpa using this
      exact ⟨fun h => absurd h (by simp), fun _ => all_jump k lf L hL t hlen i hi hr a hx hj.1 hj.2 (N + 1)⟩
    rw [if_neg hj]
    have hj' : 25 ≤ L[i].op ∧ L[i].op ≤ 27 → (i : Int) < L[i].at_ ∧ L[i].at_ ≤ L.length := fun h => by
      refine Classical.byContradiction fun hc => hj ⟨?_, hc⟩
      unfold jmp
      simp [h.1, h.2]
    have hok : okJ L.length i L[i] := fun h => hj' (by unfold jmp at h; simpa using h)
    have hb := beh_a (k + 11) a L[i] ha.1 hop
    by_cases he : (beh a L[i]).2 ≠ 0
    · rw [if_pos he]
      exact ⟨fun h => absurd h he, fun _ => all_err k lf L hL t hlen i hi hr a hx hok _ _ he hb (N + 1)⟩
    rw [if_neg he]
    have he : (beh a L[i]).2 = 0 := by simpa using he
    have hbin := beh_in ha L[i] he
    rw [he] at hb
    generalize (beh a L[i]).1 = b at *
    unfold lead2
    have fin : ∀ {r : List (Option Ah) × Bool}, (r.2 = true → pfin k lf L t i (N + 1) = pfin k lf L r.1 (i + 1) N ∧ AllIn r.1 ∧ r.1.length = L.length + 1) → (r.2 = false → pfin k lf L t i (N + 1) = some ⟨.tup [.v (.slice none 0 0), .v (.int .i64 7), .v (.int .i64 i)], [], 1⟩) →
        ((if r.2 = true then ((0 : Int), r.1) else (7, t)).1 = 0 → pfin k lf L t i (N + 1) = pfin k lf L (if r.2 = true then ((0 : Int), r.1) else (7, t)).2 (i + 1) N ∧ AllIn (if r.2 = true then ((0 : Int), r.1) else (7, t)).2 ∧ (if r.2 = true then ((0 : Int), r.1) else (7, t)).2.length = L.length + 1) ∧
        ((if r.2 = true then ((0 : Int), r.1) else (7, t)).1 ≠ 0 → pfin k lf L t i (N + 1) = some ⟨.tup [.v (.slice none 0 0), .v (.int .i64 (if r.2 = true then ((0 : Int), r.1) else (7, t)).1), .v (.int .i64 i)], [], 1⟩) := fun {r} h1 h2 => by
      obtain ⟨r1, r2⟩ := r
      cases r2
      · exact ⟨fun h => absurd h (by simp), fun _ => h2 rfl⟩
      · exact ⟨fun _ => h1 rfl, fun h => absurd rfl h⟩
    by_cases o25 : L[i].op = 25
    · have on : onI L[i] = false := by unfold onI; rw [o25]; rfl
      have jm : jmp L[i] = true := by unfold jmp; rw [o25]; rfl
      obtain ⟨j1, j2⟩ := hj' (by omega)
      obtain ⟨J, hJ⟩ : ∃ J : Nat, L[i].at_ = J := ⟨L[i].at_.toNat, by omega⟩
      obtain ⟨key, key2⟩ := all_to k lf L hL t ht hlen i hi hr a hx b hbin.1 on jm J hJ (by omega) hb N
      simp only [on, jm, hJ, Bool.false_eq_true, if_false, if_true, and_self, Int.toNat_natCast]
      exact fin (fun h => ⟨key h, ht.lead1 hbin, by rw [lead1_len, hlen]⟩) key2
    by_cases o28 : L[i].op = 28
    · have on : onI L[i] = false := by unfold onI; rw [o28]; rfl
      have jm : jmp L[i] = false := by unfold jmp; rw [o28]; rfl
      simp only [on, jm, Bool.false_eq_true, if_false, and_false]
      exact fin (r := (t, true)) (fun _ => ⟨all_end k lf L hL t ht hlen i hi hr a hx b hbin.1 on jm hb N, ht, hlen⟩) (fun h => by cases h)
    have on : onI L[i] = true := by unfold onI; simp [o25, o28]
    by_cases o67 : L[i].op = 26 ∨ L[i].op = 27
    · have jm : jmp L[i] = true := by unfold jmp; rcases o67 with h | h <;> rw [h] <;> rfl
      obtain ⟨j1, j2⟩ := hj' (by omega)
      obtain ⟨J, hJ⟩ : ∃ J : Nat, L[i].at_ = J := ⟨L[i].at_.toNat, by omega⟩
      obtain ⟨key, key21, key22⟩ := all_both k lf L hL t ht hlen i hi hr a hx b hbin on jm J hJ (by omega) hb N
      simp only [on, jm, hJ, if_true, and_true, Int.toNat_natCast]
      by_cases q : (lead1 t (i + 1) b).2 = true
      · simp only [q, if_true]
        exact fin (fun h => ⟨key q h, (ht.lead1 hbin).lead1 hbin, by rw [lead1_len, lead1_len, hlen]⟩) (fun h => key21 q h)
      · have q' : (lead1 t (i + 1) b).2 = false := by simpa using q
        rw [if_neg q]
        exact fin (fun h => absurd h q) (fun _ => key22 q')
    · have jm : jmp L[i] = false := by
        unfold jmp
        cases h1 : decide (25 ≤ L[i].op)
        · rfl
        · have : ¬ L[i].op ≤ 27 := by have := of_decide_eq_true h1; omega
          simp [this]
      obtain ⟨key, key2⟩ := all_on k lf L hL t ht hlen i hi hr a hx b hbin.1 on jm hb N
      simp only [on, jm, Bool.false_eq_true, if_true, if_false, and_false]
      exact fin (fun h => ⟨key h, ht.lead1 hbin, by rw [lead1_len, hlen]⟩) key2
end Go.Proofs.Ytlefnekfeeihaaa.Ver

/- The program's all. -/
namespace Go.Proofs.Ytlefnekfeeihaaa.Ver
open Go Go.Proofs.Ytlefnekfeeihaaa.Sym Go.Proofs.Ytlefnekfeeihaaa.Tab
set_option linter.unusedVariables false
set_option linter.unusedSimpArgs false
set_option maxHeartbeats 4000000
set_option maxRecDepth 20000
def pres (n : Nat) (r : Int × Int × List (Option Ah)) : Res := if r.1 = 0 then ⟨.tup [.view 0 0 (n + 1) 1 (some (n + 1)), .v (.int .i64 0), .v (.int .i64 0)], canT r.2.2 true, 1⟩ else ⟨.tup [.v (.slice none 0 0), .v (.int .i64 r.1), .v (.int .i64 r.2.1)], [], 1⟩
theorem all_fin (k lf : Nat) (L : List Ins) (hL : L.length ≤ 200) (t : List (Option Ah)) (hA : AllIn t) (hlen : t.length = L.length + 1) (N : Nat) : pfin k lf L t L.length N = some (pres L.length ((endE L.length t).1, (endE L.length t).2, t)) := by
  have c1 : ¬ (L.length : Int) < L.length := by omega
  have c0 : (0 : Int) ≤ L.length := by omega
  have c2 : (L.length : Int) < ((L.length + 1 : Nat) : Int) := by omega
  have hx : t[L.length]? = some t[L.length] := List.getElem?_eq_getElem (by omega)
  have hs := som_le t
  have htl := tcl_len (List.range' 1 (som t).length) t
  rw [hlen] at htl
  have m1 := more_reach t (by omega) []
  have m2 := more_sub t (by omega) []
  have m3 := more_tab t []
  rw [List.append_nil] at m1 m2 m3
  have l1 : L.length + 1 ≤ L.length + 1 := Nat.le_refl _
  unfold pfin pst penv plive endE
  rw [hx, lh_as l_verify_all_0.eq_1]
  generalize t[L.length] = x at *
  cases x with
  | none =>
    have ht := tcl_none (List.range' 1 (som t).length) t _ hx
    unfold pres
    simp only [if_true]
    generalize hM : L.length + 1 = M at *
    generalize canT t true = W at *
    generalize tcl (List.range' 1 (som t).length) t = tc at *
    generalize List.range' 1 (som t).length = ps at *
    simp -implicitDefEqProofs only [eqs, eqd, aCall, Sym.pos, ↓reduceIte, reduceCtorEq, Nat.reduceEqDiff, Nat.reduceAdd, Nat.reduceSub, Nat.reduceMul, Nat.reduceLT, Nat.reduceLeDiff, Nat.reduceBEq, Nat.reduceBNe, Nat.reduceGT, Int.reduceEq, Int.reduceLT, Int.reduceLE, Int.reduceToNat, Int.reduceAdd, Int.reduceSub, Int.reduceMul, Int.reduceNeg, Int.reduceBEq, Int.reduceBNe, l_verify_all_1, nilp, c0, c1, c2, l1, ht, htl, m1, m2, m3, Int.toNat_natCast, r0, s0]
  | some a =>
    obtain ⟨p, hp, ht, hso⟩ := tcl_some (List.range' 1 (som t).length) t _ a (by simp) hx
    have m4 := more_obj t (by omega) hp hso []
    rw [List.append_nil] at m4
    have hn := (hA _ a hx).1.nil
    clear hp hso
    obtain ⟨ak, an, bs⟩ := a
    simp only at hn
    by_cases c : bs = []
    · subst c
      unfold pres
      simp only [if_true]
      generalize hM : L.length + 1 = M at *
      generalize canT t true = W at *
      generalize tcl (List.range' 1 (som t).length) t = tc at *
      generalize List.range' 1 (som t).length = ps at *
      cases an <;> simp only [Ah.c, openA, Bool.false_eq_true, if_false, if_true] at m4 <;>
      simp -implicitDefEqProofs only [eqs, eqd, aCall, Sym.pos, ↓reduceIte, reduceCtorEq, Nat.reduceEqDiff, Nat.reduceAdd, Nat.reduceSub, Nat.reduceMul, Nat.reduceLT, Nat.reduceLeDiff, Nat.reduceBEq, Nat.reduceBNe, Nat.reduceGT, Int.reduceEq, Int.reduceLT, Int.reduceLE, Int.reduceToNat, Int.reduceAdd, Int.reduceSub, Int.reduceMul, Int.reduceNeg, Int.reduceBEq, Int.reduceBNe, l_verify_all_1, nilp, c0, c1, c2, l1, ht, htl, m1, m2, m3, m4, Int.toNat_natCast, r0, s0]
    · have h0 : (0 : Int) < bs.length := by have := List.length_pos_iff.2 c; omega
      have an0 : an = false := by cases an; rfl; exact absurd (hn rfl) c
      subst an0
      simp only [c, if_false]
      unfold pres
      rw [if_neg (by simp)]
      generalize hM : L.length + 1 = M at *
      generalize canT t true = W at *
      generalize tcl (List.range' 1 (som t).length) t = tc at *
      generalize List.range' 1 (som t).length = ps at *
      simp only [Ah.c, openA, Bool.false_eq_true, if_false, if_true] at m4
      simp -implicitDefEqProofs only [eqs, eqd, aCall, Sym.pos, ↓reduceIte, reduceCtorEq, Nat.reduceEqDiff, Nat.reduceAdd, Nat.reduceSub, Nat.reduceMul, Nat.reduceLT, Nat.reduceLeDiff, Nat.reduceBEq, Nat.reduceBNe, Nat.reduceGT, Int.reduceEq, Int.reduceLT, Int.reduceLE, Int.reduceToNat, Int.reduceAdd, Int.reduceSub, Int.reduceMul, Int.reduceNeg, Int.reduceBEq, Int.reduceBNe, l_verify_all_1, nilp, c0, c1, c2, l1, ht, htl, h0, m3, m4, Int.toNat_natCast, r0, s0]
theorem all_run (k lf : Nat) (L : List Ins) (hL : L.length ≤ 200) (hin : ∀ (i : Nat) (h : i < L.length), L[i].In) : ∀ (m i N : Nat) (t : List (Option Ah)), i + m = L.length → m ≤ N → AllIn t → t.length = L.length + 1 → pfin k lf L t i N = some (pres L.length (run L m i t))
  | 0, i, N, t, hi, hN, ht, hlen => by
    obtain rfl : i = L.length := by omega
    exact all_fin k lf L hL t ht hlen N
  | m + 1, i, N, t, hi, hN, ht, hlen => by
    obtain ⟨N, rfl⟩ : ∃ M, N = M + 1 := ⟨N - 1, by omega⟩
    have h : i < L.length := by omega
    obtain ⟨h1, h2⟩ := all_step k lf L hL t ht hlen i h (hin i h) N
    rw [run, dif_pos h]
    by_cases c : (stp L.length i t L[i]).1 = 0
    · rw [if_pos c]
      obtain ⟨e, a1, a2⟩ := h1 c
      rw [e]
      exact all_run k lf L hL hin m (i + 1) N _ (by omega) (by omega) a1 a2
    · rw [if_neg c, h2 c]
      unfold pres
      rw [if_neg c]
end Go.Proofs.Ytlefnekfeeihaaa.Ver

/- The program's all, from its beginning. -/
namespace Go.Proofs.Ytlefnekfeeihaaa.Ver
open Go Go.Proofs.Ytlefnekfeeihaaa.Sym Go.Proofs.Ytlefnekfeeihaaa.Tab
set_option linter.unusedVariables false
set_option linter.unusedSimpArgs false
set_option maxHeartbeats 4000000
set_option maxRecDepth 20000
theorem all_long (k : Nat) (L : List Ins) (hL : 200 < L.length) : acall T (k + 17) 14 0 [.shr L.length false (L.flatMap Ins.c)] [] = some ⟨.tup [.v (.slice none 0 0), .v (.int .i64 2), .v (.int .i64 200)], [], 0⟩ := by
  rw [acall_go (body := b_verify_all) rfl rfl (Nat.zero_le _)]
  have c : (200 : Int) < L.length := by omega
  simp -implicitDefEqProofs only [eqs, eqd, aCall, Sym.reach, Sym.pos, Sym.sub, ↓reduceIte, reduceCtorEq, Nat.reduceEqDiff, Nat.reduceAdd, Nat.reduceSub, Nat.reduceMul, Nat.reduceLT, Nat.reduceLeDiff, Nat.reduceBEq, Nat.reduceBNe, Nat.reduceGT, Int.reduceEq, Int.reduceLT, Int.reduceLE, Int.reduceToNat, Int.reduceAdd, Int.reduceSub, Int.reduceMul, Int.reduceNeg, Int.reduceBEq, Int.reduceBNe, b_verify_all, c]
theorem tcl_rep : ∀ (n : Nat) (ps : List Nat), tcl ps (List.replicate n none) = List.replicate n nilp
  | 0, ps => by rw [List.replicate_zero, tcl, List.replicate_zero]
  | n + 1, ps => by rw [List.replicate_succ, tcl, tcl_rep n ps, List.replicate_succ]
theorem som_00 (n : Nat) : som (t00 n) = [⟨0, true, []⟩] := by
  unfold t00 som
  rw [List.filterMap_cons]
  simp
theorem canT_00 (n : Nat) : canT (t00 n) true = [⟨true, true, false, (List.replicate (n + 1) nilp).set 0 (.ptr 1 0)⟩, ⟨true, true, true, [.v (.int .i64 0), .v (.slice none 0 0)]⟩] := by
  unfold canT
  rw [som_00]
  have : tcl [1] (t00 n) = (List.replicate (n + 1) nilp).set 0 (.ptr 1 0) := by
    unfold t00
    rw [tcl, tcl_rep, List.replicate_succ]
    rfl
  show (⟨true, true, false, tcl [1] (t00 n)⟩ : Sym.Obj) :: _ = _
  rw [this]
  rfl
theorem all_a (k : Nat) (hk : 200 ≤ k) (L : List Ins) (hL : L.length ≤ 200) (hin : ∀ (i : Nat) (h : i < L.length), L[i].In) : acall T (k + 17) 14 0 [.shr L.length false (L.flatMap Ins.c)] [] = some (pres L.length (run L L.length 0 (t00 L.length))) := by
  rw [acall_go (body := b_verify_all) rfl rfl (Nat.zero_le _)]
  have c : ¬ (200 : Int) < L.length := by omega
  have w : IntKind.i64.wrap ((L.length : Int) + 1) = ((L.length + 1 : Nat) : Int) := by rw [w64 (by omega) (by omega)]; omega
  have h := all_run k (k + 16) L hL hin L.length 0 (k + 15) (t00 L.length) (by omega) (by omega) (t00_in _) (t00_len _)
  have lp : ∀ (ks : List It) (s : St), Lp (acall T (k + 16)) (k + 16) [0, 5, 22, 23, 24] l_verify_all_0 (k + 16) ks s = Lh (acall T (k + 16)) (k + 16) (canon [0, 5, 22, 23, 24] s) [0, 5, 22, 23, 24] l_verify_all_0 (k + 15) ks := fun ks s => lp_succ (n := k + 15)
  have n1 : (0 : Int) ≤ ((L.length + 1 : Nat) : Int) := by omega
  have n2 : ((L.length + 1 : Nat) : Int) ≤ ((L.length + 1 : Nat) : Int) := Int.le_refl _
  have n3 : (L.length + 1) * 8 ≤ 140737488355328 := by omega
  have n4 : L.length + 1 ≤ 9223372036854775807 := by omega
  have n5 : (0 : Int) < ((L.length + 1 : Nat) : Int) := by omega
  have n6 : 1 ≤ L.length + 1 := by omega
  have hT := canT_has (t00 L.length) true (by rw [som_00]; decide)
  have q1 := hT.reach
  have q2 := hT.sub true (fun _ => rfl)
  rw [Bool.and_true] at q2
  rw [som_00] at q1 q2
  rw [canT_00] at q1 q2
  rw [← h]
  unfold pfin pst penv plive
  rw [canT_00]
  clear h hT
  simp only [List.length_singleton, List.range'_one, nilp] at q1 q2
  generalize hM : L.length + 1 = M at *
  simp -implicitDefEqProofs only [eqs, eqd, aCall, Sym.pos, ↓reduceIte, reduceCtorEq, Nat.reduceEqDiff, Nat.reduceAdd, Nat.reduceSub, Nat.reduceMul, Nat.reduceLT, Nat.reduceLeDiff, Nat.reduceBEq, Nat.reduceBNe, Nat.reduceGT, Int.reduceEq, Int.reduceLT, Int.reduceLE, Int.reduceToNat, Int.reduceAdd, Int.reduceSub, Int.reduceMul, Int.reduceNeg, Int.reduceBEq, Int.reduceBNe, b_verify_all, c, w, r0, s0, q1, q2, n1, n2, n3, n4, n5, n6, nilp, lp, Int.toNat_natCast, Int.natCast_zero, List.length_replicate]
end Go.Proofs.Ytlefnekfeeihaaa.Ver

/- Check, the program's. -/
namespace Go.Proofs.Ytlefnekfeeihaaa.Ver
open Go Go.Proofs.Ytlefnekfeeihaaa.Sym Go.Proofs.Ytlefnekfeeihaaa.Tab
set_option linter.unusedVariables false
set_option linter.unusedSimpArgs false
set_option maxHeartbeats 4000000
set_option maxRecDepth 20000
theorem check_err (k : Nat) (y : AV) (e p : Int) (d : Nat) (hd : d ≤ 1) (x : AV) (hx : ∃ n cs, x = .shr n false cs ∧ cs.all atom = true ∧ cs.all flat0 = true) (h : acall T (k + 17) 14 0 [x] [] = some ⟨.tup [.v (.slice none 0 0), .v (.int .i64 e), .v (.int .i64 p)], [], d⟩) :
    ∃ d', acall T (k + 18) 7 0 [x] [] = some ⟨.tup [.v (.int .i64 e), .v (.int .i64 p)], [], d'⟩ ∧ d' ≤ 1 := by
  obtain ⟨n, cs, rfl, h1, h2⟩ := hx
  refine ⟨d, ?_, hd⟩
  rw [acall_go (body := b_verify_Check) rfl rfl (Nat.zero_le _)]
  have hdd : d = 0 ∨ d = 1 := by omega
  rcases hdd with rfl | rfl <;> simp -implicitDefEqProofs only [eqs, eqd, aCall, Sym.reach, Sym.pos, ↓reduceIte, reduceCtorEq, Nat.reduceEqDiff, Nat.reduceAdd, Nat.reduceSub, Nat.reduceMul, Nat.reduceLT, Nat.reduceLeDiff, Nat.reduceBEq, Nat.reduceBNe, Nat.reduceGT, Int.reduceEq, Int.reduceLT, Int.reduceLE, Int.reduceToNat, Int.reduceAdd, Int.reduceSub, Int.reduceMul, Int.reduceNeg, Int.reduceBEq, Int.reduceBNe, b_verify_Check, h, r0, s0]
theorem check_ok (k : Nat) (n M : Nat) (cs : List AV) (W : List Sym.Obj) (h : acall T (k + 17) 14 0 [.shr n false cs] [] = some ⟨.tup [.view 0 0 M 1 (some M), .v (.int .i64 0), .v (.int .i64 0)], W, 1⟩) :
    acall T (k + 18) 7 0 [.shr n false cs] [] = some ⟨.tup [.v (.int .i64 0), .v (.int .i64 0)], [], 1⟩ := by
  rw [acall_go (body := b_verify_Check) rfl rfl (Nat.zero_le _)]
  simp -implicitDefEqProofs only [eqs, eqd, aCall, Sym.pos, ↓reduceIte, reduceCtorEq, Nat.reduceEqDiff, Nat.reduceAdd, Nat.reduceSub, Nat.reduceMul, Nat.reduceLT, Nat.reduceLeDiff, Nat.reduceBEq, Nat.reduceBNe, Nat.reduceGT, Int.reduceEq, Int.reduceLT, Int.reduceLE, Int.reduceToNat, Int.reduceAdd, Int.reduceSub, Int.reduceMul, Int.reduceNeg, Int.reduceBEq, Int.reduceBNe, b_verify_Check, h, r0, s0]
end Go.Proofs.Ytlefnekfeeihaaa.Ver

/- Kinds: one round. -/
namespace Go.Proofs.Ytlefnekfeeihaaa.Ver
open Go Go.Proofs.Ytlefnekfeeihaaa.Sym Go.Proofs.Ytlefnekfeeihaaa.Tab
set_option linter.unusedVariables false
set_option linter.unusedSimpArgs false
set_option maxHeartbeats 4000000
set_option maxRecDepth 20000
/-- The kind ahead, -1 where nothing leads. -/
def kd : Option Ah → Int
  | none => -1
  | some a => a.k
def kl (t : List (Option Ah)) : List AV := t.map fun x => .v (.int .i64 (kd x))
def kA (ks : List AV) : AV := if ks = [] then .v (.slice none 0 0) else .shr ks.length false ks
theorem kl_len (t : List (Option Ah)) : (kl t).length = t.length := by simp [kl]
end Go.Proofs.Ytlefnekfeeihaaa.Ver

/- Kinds: the table behind the list that is built. -/
namespace Go.Proofs.Ytlefnekfeeihaaa.Ver
open Go Go.Proofs.Ytlefnekfeeihaaa.Sym Go.Proofs.Ytlefnekfeeihaaa.Tab
set_option linter.unusedVariables false
set_option linter.unusedSimpArgs false
set_option maxHeartbeats 4000000
set_option maxRecDepth 20000
/-- The table behind one object. -/
def sT (t : List (Option Ah)) : List Sym.Obj := ⟨true, true, false, tcl (List.range' 2 (som t).length) t⟩ :: (som t).map fun a => ⟨true, true, true, a.c⟩
/-- A table in memory, anywhere. -/
structure HA (Ω : List Sym.Obj) (z : Nat) (ps : List Nat) (t : List (Option Ah)) : Prop where
  tab : Ω[z]? = some ⟨true, true, false, tcl ps t⟩
  len : ps.length = (som t).length
  obj : ∀ (j : Nat) p a, ps[j]? = some p → (som t)[j]? = some a → Ω[p]? = some ⟨true, true, true, a.c⟩
  nodup : ps.Nodup
  zero : z ∉ ps
  small : ps.length ≤ 300
theorem HA.reach {Ω : List Sym.Obj} {q z : Nat} {ps : List Nat} {t : List (Option Ah)} (h : HA Ω z ps t) (cs : List AV) (hq : Ω[q]? = some ⟨true, true, true, cs⟩) (hqz : q ≠ z) (hqp : q ∉ ps) : reach Ω 400 [q, z] [] = some (q :: z :: ps) := by
  show Sym.reach Ω (398 + 1 + 1) [q, z] [] = _
  rw [Sym.reach, List.contains_nil, if_neg (by decide), hq]
  simp only [if_true]
  show Sym.reach Ω (398 + 1) [z] [q] = _
  have hc : List.contains [q] z = false := by
    rw [List.contains_cons, List.contains_nil, Bool.or_false, beq_eq_false_iff_ne]
    exact fun e => hqz e.symm
  rw [Sym.reach, hc, if_neg (by decide), h.tab]
  simp only [if_true, Bool.false_eq_true, if_false, List.nil_append]
  rw [tcl_refs _ _ h.len]
  show Sym.reach Ω 398 ps [q, z] = _
  rw [reach_flat ps [q, z] 398 (fun k hk => ?_) h.nodup (fun k hk => ?_) (by have := h.small; omega)]
  · rfl
  · obtain ⟨j, hj⟩ := List.mem_iff_getElem?.1 hk
    have hlt := (List.getElem?_eq_some_iff.1 hj).1
    exact ⟨_, h.obj j k _ hj (List.getElem?_eq_getElem (by rw [← h.len]; exact hlt)), rfl⟩
  · intro e
    rcases List.mem_cons.1 e with e | e
    · exact hqp (e ▸ hk)
    · rw [List.mem_singleton] at e
      exact h.zero (e ▸ hk)
theorem pos_list2 {q z : Nat} {ps : List Nat} (hd : ps.Nodup) (h0 : z ∉ ps) (h1 : q ∉ ps) : ps.map (pos (q :: z :: ps)) = List.range' 2 ps.length := by
  apply List.ext_getElem?
  intro j
  rw [List.getElem?_map]
  by_cases c : j < ps.length
  · rw [List.getElem?_eq_getElem c, List.getElem?_range' c]
    have hne : ps[j] ≠ z := fun e => h0 (e ▸ List.getElem_mem c)
    have hnq : ps[j] ≠ q := fun e => h1 (e ▸ List.getElem_mem c)
    show some (List.idxOf ps[j] (q :: z :: ps)) = _
    rw [List.idxOf_cons, show (q == ps[j]) = false by rw [beq_eq_false_iff_ne]; exact fun e => hnq e.symm, cond_false, List.idxOf_cons, show (z == ps[j]) = false by rw [beq_eq_false_iff_ne]; exact fun e => hne e.symm, cond_false, hd.idxOf_getElem j c]
    congr 1
    omega
  · rw [List.getElem?_eq_none (by omega), List.getElem?_eq_none (by simp; omega)]
    rfl
theorem HA.sub {Ω : List Sym.Obj} {q z : Nat} {ps : List Nat} {t : List (Option Ah)} (h : HA Ω z ps t) (cs : List AV) (hq : Ω[q]? = some ⟨true, true, true, cs⟩) (hqz : q ≠ z) (hqp : q ∉ ps) : sub Ω (q :: z :: ps) true = ⟨true, true, true, cs⟩ :: sT t := by
  unfold Sym.sub sT
  rw [List.map_cons, List.map_cons]
  have e1 : Ω.getD q dead0 = ⟨true, true, true, cs⟩ := by rw [List.getD_eq_getElem?_getD, hq]; rfl
  have e0 : Ω.getD z dead0 = ⟨true, true, false, tcl ps t⟩ := by rw [List.getD_eq_getElem?_getD, h.tab]; rfl
  rw [e0, e1]
  congr 1
  congr 1
  · simp only [renO, if_true, Bool.false_eq_true, if_false]
    rw [tcl_ren, pos_list2 h.nodup h.zero hqp, h.len]
    rfl
  · apply List.ext_getElem?
    intro j
    rw [List.getElem?_map, List.getElem?_map]
    by_cases c : j < ps.length
    · have c' : j < (som t).length := by rw [← h.len]; exact c
      have ho := h.obj j _ _ (List.getElem?_eq_getElem c) (List.getElem?_eq_getElem c')
      rw [List.getElem?_eq_getElem c, List.getElem?_eq_getElem c']
      have e1 : Ω.getD ps[j] dead0 = ⟨true, true, true, ((som t)[j]).c⟩ := by rw [List.getD_eq_getElem?_getD, ho]; rfl
      simp only [Option.map_some, e1, renO, if_true]
      rfl
    · rw [List.getElem?_eq_none (by omega), List.getElem?_eq_none (by rw [← h.len]; omega)]
      rfl
theorem pos_q (q : Nat) (l : List Nat) : pos (q :: l) q = 0 := List.idxOf_cons_self
theorem pos_z {q z : Nat} (l : List Nat) (h : q ≠ z) : pos (q :: z :: l) z = 1 := by
  show List.idxOf z (q :: z :: l) = 1
  rw [List.idxOf_cons, show (q == z) = false by rw [beq_eq_false_iff_ne]; exact h, cond_false, List.idxOf_cons_self]
theorem sT_len (t : List (Option Ah)) : (sT t).length = (som t).length + 1 := by unfold sT; simp
/-- Behind the first one. -/
theorem ha_first (t : List (Option Ah)) (hs : (som t).length ≤ 300) (E : List Sym.Obj) : HA (canT t true ++ E) 0 (List.range' 1 (som t).length) t where
  tab := rfl
  len := by simp
  obj := fun j p a hp ha => by
    have hj := (List.getElem?_eq_some_iff.1 ha).1
    rw [List.getElem?_range' hj] at hp
    obtain rfl := Option.some.inj hp
    have hl := canT_len t true
    rw [List.getElem?_append_left (by omega)]
    unfold canT
    rw [show 1 + 1 * j = j + 1 by omega, List.getElem?_cons_succ, List.getElem?_map, ha]
    rfl
  nodup := List.nodup_range'
  zero := by simp
  small := by simpa using hs
/-- Behind another one. -/
theorem ha_next (t : List (Option Ah)) (hs : (som t).length ≤ 300) (d : Sym.Obj) (E : List Sym.Obj) : HA (d :: (sT t ++ E)) 1 (List.range' 2 (som t).length) t where
  tab := rfl
  len := by simp
  obj := fun j p a hp ha => by
    have hj := (List.getElem?_eq_some_iff.1 ha).1
    rw [List.getElem?_range' hj] at hp
    obtain rfl := Option.some.inj hp
    have hl := sT_len t
    rw [show 2 + 1 * j = (j + 1) + 1 by omega, List.getElem?_cons_succ, List.getElem?_append_left (by omega)]
    unfold sT
    rw [List.getElem?_cons_succ, List.getElem?_map, ha]
    rfl
  nodup := List.nodup_range'
  zero := by simp
  small := by simpa using hs
theorem wn1 (t : List (Option Ah)) (d r : Sym.Obj) (cs : List AV) : (d :: (sT t ++ [r] ++ [⟨true, true, true, cs⟩]))[(sT t ++ [r]).length + 1]? = some ⟨true, true, true, cs⟩ := by rw [List.getElem?_cons_succ, wz1]
theorem next_q (t : List (Option Ah)) (r : Sym.Obj) : (sT t ++ [r]).length + 1 ∉ List.range' 2 (som t).length ∧ (sT t ++ [r]).length + 1 ≠ 1 := by rw [List.length_append, sT_len, List.mem_range'_1]; simp; omega
theorem first_q (t : List (Option Ah)) (r : Sym.Obj) : (canT t true ++ [r]).length ∉ List.range' 1 (som t).length ∧ (canT t true ++ [r]).length ≠ 0 := by rw [List.length_append, canT_len, List.mem_range'_1]; simp; omega
theorem next_reach (t : List (Option Ah)) (hs : (som t).length ≤ 300) (d r : Sym.Obj) (cs : List AV) : reach (d :: (sT t ++ [r] ++ [⟨true, true, true, cs⟩])) 400 [(sT t ++ [r]).length + 1, 1] [] = some (((sT t ++ [r]).length + 1) :: 1 :: List.range' 2 (som t).length) := by
  have h := wn1 t d r cs
  rw [List.append_assoc] at h ⊢
  exact (ha_next t hs d _).reach cs h (next_q t r).2 (next_q t r).1
theorem next_sub (t : List (Option Ah)) (hs : (som t).length ≤ 300) (d r : Sym.Obj) (cs : List AV) : sub (d :: (sT t ++ [r] ++ [⟨true, true, true, cs⟩])) (((sT t ++ [r]).length + 1) :: 1 :: List.range' 2 (som t).length) true = ⟨true, true, true, cs⟩ :: sT t := by
  have h := wn1 t d r cs
  rw [List.append_assoc] at h ⊢
  exact (ha_next t hs d _).sub cs h (next_q t r).2 (next_q t r).1
theorem first_reach (t : List (Option Ah)) (hs : (som t).length ≤ 300) (r : Sym.Obj) (cs : List AV) : reach (canT t true ++ [r] ++ [(⟨true, true, true, cs⟩ : Sym.Obj)]) 400 [(canT t true ++ [r]).length, 0] [] = some ((canT t true ++ [r]).length :: 0 :: List.range' 1 (som t).length) := by
  have h := wz1 (canT t true ++ [r]) (⟨true, true, true, cs⟩ : Sym.Obj)
  rw [List.append_assoc] at h ⊢
  exact (ha_first t hs _).reach cs h (first_q t r).2 (first_q t r).1
theorem first_sub (t : List (Option Ah)) (hs : (som t).length ≤ 300) (r : Sym.Obj) (cs : List AV) : sub (canT t true ++ [r] ++ [(⟨true, true, true, cs⟩ : Sym.Obj)]) ((canT t true ++ [r]).length :: 0 :: List.range' 1 (som t).length) true = ⟨true, true, true, cs⟩ :: sT t := by
  have h := wz1 (canT t true ++ [r]) (⟨true, true, true, cs⟩ : Sym.Obj)
  rw [List.append_assoc] at h ⊢
  exact (ha_first t hs _).sub cs h (first_q t r).2 (first_q t r).1
theorem sT_obj (t : List (Option Ah)) {j p : Nat} {a : Ah} (hp : (List.range' 2 (som t).length)[j]? = some p) (ha : (som t)[j]? = some a) (d : Sym.Obj) : (d :: sT t)[p]? = some ⟨true, true, true, a.c⟩ := by
  have hj := (List.getElem?_eq_some_iff.1 ha).1
  rw [List.getElem?_range' hj] at hp
  obtain rfl := Option.some.inj hp
  unfold sT
  rw [show 2 + 1 * j = (j + 1) + 1 by omega, List.getElem?_cons_succ, List.getElem?_cons_succ, List.getElem?_map, ha]
  rfl
end Go.Proofs.Ytlefnekfeeihaaa.Ver

/- Kinds: its loop. -/
namespace Go.Proofs.Ytlefnekfeeihaaa.Ver
open Go Go.Proofs.Ytlefnekfeeihaaa.Sym Go.Proofs.Ytlefnekfeeihaaa.Tab
set_option linter.unusedVariables false
set_option linter.unusedSimpArgs false
set_option maxHeartbeats 4000000
set_option maxRecDepth 20000
/-- The kinds of so many, from one on. -/
def kr (t : List (Option Ah)) : Nat → Nat → List AV
  | 0, _ => []
  | m + 1, i => .v (.int .i64 (kd (t[i]?.getD none))) :: kr t m (i + 1)
theorem kr_len (t : List (Option Ah)) : ∀ m i, (kr t m i).length = m
  | 0, _ => rfl
  | m + 1, i => by rw [kr, List.length_cons, kr_len t m]
theorem kr_at (t : List (Option Ah)) : ∀ m i j, j < m → (kr t m i)[j]? = some (.v (.int .i64 (kd (t[i + j]?.getD none))))
  | 0, _, j, h => by omega
  | m + 1, i, 0, h => rfl
  | m + 1, i, j + 1, h => by
    rw [kr, List.getElem?_cons_succ, kr_at t m (i + 1) j (by omega), show i + 1 + j = i + (j + 1) by omega]
def kst0 (n : Nat) (t : List (Option Ah)) : St := ⟨[(7, .v (.slice none 0 0)), (21, .view 0 0 n 1 (some (n + 1))), (22, .v (.int .i64 n)), (23, .v (.int .i64 0))], canT t true, 1, []⟩
def kst (n : Nat) (t : List (Option Ah)) (i : Nat) (ks : List AV) : St := ⟨[(7, .view 0 0 i 1 none), (21, .view 1 0 n 1 (some (n + 1))), (22, .v (.int .i64 n)), (23, .v (.int .i64 i))], ⟨true, true, true, ks⟩ :: sT t, 1, []⟩
theorem kinds_first (C : CT) (lf n : Nat) (hn : 0 < n) (hn2 : n ≤ 200) (t : List (Option Ah)) (ht : AllIn t) (hlen : t.length = n + 1) (N : Nat) (ks : List It) :
    Lh C lf (some (kst0 n t)) [7, 21, 22, 23] l_verify_Kinds_0 (N + 1) ks = Lh C lf (some (kst n t 1 [.v (.int .i64 (kd (t[0]?.getD none)))])) [7, 21, 22, 23] l_verify_Kinds_0 N ks := by
  have c1 : (0 : Int) < n := by omega
  have hs : (som t).length ≤ 300 := by have := som_le t; omega
  have hx : t[0]? = some t[0] := List.getElem?_eq_getElem (by omega)
  have htl := tcl_len (List.range' 1 (som t).length) t
  rw [hlen] at htl
  have l1 : 0 + 1 ≤ n + 1 := by omega
  have m3 := more_tab t []
  rw [List.append_nil] at m3
  have f1 := fun r => first_reach t hs r [.v (.int .i64 (kd (t[0]?.getD none)))]
  have f2 := fun r => first_sub t hs r [.v (.int .i64 (kd (t[0]?.getD none)))]
  have p1 := fun r => pos_z (List.range' 1 (som t).length) (first_q t r).2
  have p2 := fun r => pos_q (canT t true ++ [r]).length (0 :: List.range' 1 (som t).length)
  have q0 := fun r => (first_q t r).2
  have q1 : ∀ r, ¬ (0 : Nat) = (canT t true ++ [r]).length := fun r e => q0 r e.symm
  rw [hx] at f1 f2 ⊢
  unfold kst0 kst
  rw [lh_as l_verify_Kinds_0.eq_1]
  generalize t[0] = x at *
  cases x with
  | none =>
    have ht0 := tcl_none (List.range' 1 (som t).length) t 0 hx
    simp only [Option.getD_some, kd] at f1 f2 ⊢
    generalize hM : n + 1 = M at *
    generalize canT t true = W at *
    generalize tcl (List.range' 1 (som t).length) t = tc at *
    simp -implicitDefEqProofs only [eqs, eqd, aCall, ↓reduceIte, reduceCtorEq, Nat.reduceEqDiff, Nat.reduceAdd, Nat.reduceSub, Nat.reduceMul, Nat.reduceLT, Nat.reduceLeDiff, Nat.reduceBEq, Nat.reduceBNe, Nat.reduceGT, Int.reduceEq, Int.reduceLT, Int.reduceLE, Int.reduceToNat, Int.reduceAdd, Int.reduceSub, Int.reduceMul, Int.reduceNeg, Int.reduceBEq, Int.reduceBNe, g_verify_Kinds_0, nilp, c1, l1, ht0, htl, m3, f1, f2, p1, p2, q0, q1, r0, s0, wz1, wz2]
  | some a =>
    obtain ⟨p, hp, ht0, hso⟩ := tcl_some (List.range' 1 (som t).length) t 0 a (by simp) hx
    have m4 := more_obj t hs hp hso []
    rw [List.append_nil] at m4
    obtain ⟨ak, an, as1⟩ := a
    simp only [Option.getD_some, kd] at f1 f2 ⊢
    generalize hM : n + 1 = M at *
    generalize canT t true = W at *
    generalize tcl (List.range' 1 (som t).length) t = tc at *
    clear hx hp hso
    cases an <;> simp only [Ah.c, openA, Bool.false_eq_true, if_false, if_true] at m4 <;>
    simp -implicitDefEqProofs only [eqs, eqd, aCall, ↓reduceIte, reduceCtorEq, Nat.reduceEqDiff, Nat.reduceAdd, Nat.reduceSub, Nat.reduceMul, Nat.reduceLT, Nat.reduceLeDiff, Nat.reduceBEq, Nat.reduceBNe, Nat.reduceGT, Int.reduceEq, Int.reduceLT, Int.reduceLE, Int.reduceToNat, Int.reduceAdd, Int.reduceSub, Int.reduceMul, Int.reduceNeg, Int.reduceBEq, Int.reduceBNe, g_verify_Kinds_0, nilp, c1, l1, ht0, htl, m3, m4, f1, f2, p1, p2, q0, q1, r0, s0, wz1, wz2]
theorem kinds_next (C : CT) (lf n : Nat) (hn2 : n ≤ 200) (t : List (Option Ah)) (ht : AllIn t) (hlen : t.length = n + 1) (i : Nat) (hi : i < n) (l : List AV) (hl : l.length = i) (N : Nat) (ks : List It) :
    Lh C lf (some (kst n t i l)) [7, 21, 22, 23] l_verify_Kinds_0 (N + 1) ks = Lh C lf (some (kst n t (i + 1) (l ++ [.v (.int .i64 (kd (t[i]?.getD none)))]))) [7, 21, 22, 23] l_verify_Kinds_0 N ks := by
  have c1 : (i : Int) < n := by omega
  have c0 : (0 : Int) ≤ i := by omega
  have w : IntKind.i64.wrap ((i : Int) + 1) = i + 1 := w64 (by omega) (by omega)
  have hs : (som t).length ≤ 300 := by have := som_le t; omega
  have hx : t[i]? = some t[i] := List.getElem?_eq_getElem (by omega)
  have htl := tcl_len (List.range' 2 (som t).length) t
  rw [hlen] at htl
  have l1 : i + 1 ≤ n + 1 := by omega
  have l2 : ¬ i + 1 ≤ i := by omega
  have l3 : (i + 1) * 8 ≤ 140737488355328 := by omega
  have l4 : i ≤ 9223372036854775806 := by omega
  have lt : l.take i = l := by rw [← hl, List.take_length]
  have m3 : ∀ d : Sym.Obj, (d :: sT t)[1]? = some ⟨true, true, false, tcl (List.range' 2 (som t).length) t⟩ := fun d => rfl
  have f1 := fun d r => next_reach t hs d r (l ++ [.v (.int .i64 (kd (t[i]?.getD none)))])
  have f2 := fun d r => next_sub t hs d r (l ++ [.v (.int .i64 (kd (t[i]?.getD none)))])
  have p1 := fun r => pos_z (List.range' 2 (som t).length) (next_q t r).2
  have p2 := fun r => pos_q ((sT t ++ [r]).length + 1) (1 :: List.range' 2 (som t).length)
  have q0 := fun r => (next_q t r).2
  have q1 : ∀ r, ¬ (1 : Nat) = (sT t ++ [r]).length + 1 := fun r e => q0 r e.symm
  rw [hx] at f1 f2 ⊢
  unfold kst
  rw [lh_as l_verify_Kinds_0.eq_1]
  generalize t[i] = x at *
  cases x with
  | none =>
    have ht0 := tcl_none (List.range' 2 (som t).length) t i hx
    simp only [Option.getD_some, kd] at f1 f2 ⊢
    generalize hM : n + 1 = M at *
    generalize sT t = W at *
    generalize tcl (List.range' 2 (som t).length) t = tc at *
    simp -implicitDefEqProofs only [eqs, eqd, aCall, ↓reduceIte, reduceCtorEq, Nat.reduceEqDiff, Nat.reduceAdd, Nat.reduceSub, Nat.reduceMul, Nat.reduceLT, Nat.reduceLeDiff, Nat.reduceBEq, Nat.reduceBNe, Nat.reduceGT, Int.reduceEq, Int.reduceLT, Int.reduceLE, Int.reduceToNat, Int.reduceAdd, Int.reduceSub, Int.reduceMul, Int.reduceNeg, Int.reduceBEq, Int.reduceBNe, g_verify_Kinds_0, nilp, c0, c1, w, hl, l1, l2, l3, l4, lt, ht0, htl, m3, f1, f2, p1, p2, q0, q1, r0, s0, wz1, wz2, Int.toNat_natCast, Int.natCast_add]
  | some a =>
    obtain ⟨p, hp, ht0, hso⟩ := tcl_some (List.range' 2 (som t).length) t i a (by simp) hx
    have m4 := fun d => sT_obj t hp hso d
    obtain ⟨ak, an, as1⟩ := a
    simp only [Option.getD_some, kd] at f1 f2 ⊢
    generalize hM : n + 1 = M at *
    generalize sT t = W at *
    generalize tcl (List.range' 2 (som t).length) t = tc at *
    clear hx hp hso
    cases an <;> simp only [Ah.c, openA, Bool.false_eq_true, if_false, if_true] at m4 <;>
    simp -implicitDefEqProofs only [eqs, eqd, aCall, ↓reduceIte, reduceCtorEq, Nat.reduceEqDiff, Nat.reduceAdd, Nat.reduceSub, Nat.reduceMul, Nat.reduceLT, Nat.reduceLeDiff, Nat.reduceBEq, Nat.reduceBNe, Nat.reduceGT, Int.reduceEq, Int.reduceLT, Int.reduceLE, Int.reduceToNat, Int.reduceAdd, Int.reduceSub, Int.reduceMul, Int.reduceNeg, Int.reduceBEq, Int.reduceBNe, g_verify_Kinds_0, nilp, c0, c1, w, hl, l1, l2, l3, l4, lt, ht0, htl, m3, m4, f1, f2, p1, p2, q0, q1, r0, s0, wz1, wz2, Int.toNat_natCast, Int.natCast_add]
noncomputable abbrev kfin (C : CT) (lf : Nat) (s : St) (N : Nat) : Option Res := FnR [.t 2, .t 3] false false (Lh C lf (some s) [7, 21, 22, 23] l_verify_Kinds_0 N [.b 0, .c l_verify_Kinds_1])
theorem kinds_fin (C : CT) (lf n : Nat) (t : List (Option Ah)) (l : List AV) (N : Nat) : kfin C lf (kst n t n l) N = some ⟨.tup [.view 0 0 n 1 none, .v (.bool true)], [⟨true, true, true, l⟩], 1⟩ := by
  have c1 : ¬ (n : Int) < n := by omega
  unfold kfin kst
  rw [lh_as l_verify_Kinds_0.eq_1]
  have m1 : ∀ W, reach (⟨true, true, true, l⟩ :: W) 400 [0] [] = some [0] := fun W => rfl
  have m2 : ∀ W, sub (⟨true, true, true, l⟩ :: W) [0] true = [⟨true, true, true, l⟩] := fun W => rfl
  generalize sT t = W at *
  simp -implicitDefEqProofs only [eqs, eqd, aCall, Sym.pos, ↓reduceIte, reduceCtorEq, Nat.reduceEqDiff, Nat.reduceAdd, Nat.reduceSub, Nat.reduceMul, Nat.reduceLT, Nat.reduceLeDiff, Nat.reduceBEq, Nat.reduceBNe, Nat.reduceGT, Int.reduceEq, Int.reduceLT, Int.reduceLE, Int.reduceToNat, Int.reduceAdd, Int.reduceSub, Int.reduceMul, Int.reduceNeg, Int.reduceBEq, Int.reduceBNe, g_verify_Kinds_0, l_verify_Kinds_1, c1, m1, m2, r0, s0]
theorem kinds_fin0 (C : CT) (lf : Nat) (t : List (Option Ah)) (N : Nat) : kfin C lf (kst0 0 t) N = some ⟨.tup [.v (.slice none 0 0), .v (.bool true)], [], 1⟩ := by
  unfold kfin kst0
  rw [lh_as l_verify_Kinds_0.eq_1]
  simp -implicitDefEqProofs only [eqs, eqd, aCall, Sym.pos, ↓reduceIte, reduceCtorEq, Nat.reduceEqDiff, Nat.reduceAdd, Nat.reduceSub, Nat.reduceMul, Nat.reduceLT, Nat.reduceLeDiff, Nat.reduceBEq, Nat.reduceBNe, Nat.reduceGT, Int.reduceEq, Int.reduceLT, Int.reduceLE, Int.reduceToNat, Int.reduceAdd, Int.reduceSub, Int.reduceMul, Int.reduceNeg, Int.reduceBEq, Int.reduceBNe, g_verify_Kinds_0, l_verify_Kinds_1, r0, s0]
theorem kinds_run (C : CT) (lf n : Nat) (hn2 : n ≤ 200) (t : List (Option Ah)) (ht : AllIn t) (hlen : t.length = n + 1) : ∀ (m i N : Nat) (l : List AV), i + m = n → m ≤ N → l.length = i → kfin C lf (kst n t i l) N = some ⟨.tup [.view 0 0 n 1 none, .v (.bool true)], [⟨true, true, true, l ++ kr t m i⟩], 1⟩
  | 0, i, N, l, hi, hN, hl => by
    obtain rfl : i = n := by omega
    rw [kr, List.append_nil]
    exact kinds_fin C lf i t l N
  | m + 1, i, N, l, hi, hN, hl => by
    obtain ⟨N, rfl⟩ : ∃ M, N = M + 1 := ⟨N - 1, by omega⟩
    have := kinds_run C lf n hn2 t ht hlen m (i + 1) N (l ++ [.v (.int .i64 (kd (t[i]?.getD none)))]) (by omega) (by omega) (by simp [hl])
    unfold kfin at this ⊢
    rw [kinds_next C lf n hn2 t ht hlen i (by omega) l hl N _, this, kr, List.append_assoc]
    rfl
def kres (n : Nat) (t : List (Option Ah)) : Res := if n = 0 then ⟨.tup [.v (.slice none 0 0), .v (.bool true)], [], 1⟩ else ⟨.tup [.view 0 0 n 1 none, .v (.bool true)], [⟨true, true, true, kr t n 0⟩], 1⟩
theorem kinds_all (C : CT) (lf n : Nat) (hn2 : n ≤ 200) (t : List (Option Ah)) (ht : AllIn t) (hlen : t.length = n + 1) (N : Nat) (hN : n ≤ N) : kfin C lf (kst0 n t) N = some (kres n t) := by
  unfold kres
  by_cases c : n = 0
  · subst c
    exact kinds_fin0 C lf t N
  · rw [if_neg c]
    obtain ⟨m, rfl⟩ : ∃ m, n = m + 1 := ⟨n - 1, by omega⟩
    obtain ⟨N, rfl⟩ : ∃ M, N = M + 1 := ⟨N - 1, by omega⟩
    have := kinds_run C lf (m + 1) hn2 t ht hlen m 1 N [.v (.int .i64 (kd (t[0]?.getD none)))] (by omega) (by omega) rfl
    unfold kfin at this ⊢
    rw [kinds_first C lf (m + 1) (by omega) hn2 t ht hlen N, this, kr]
    rfl
end Go.Proofs.Ytlefnekfeeihaaa.Ver

/- Kinds, the program's. -/
namespace Go.Proofs.Ytlefnekfeeihaaa.Ver
open Go Go.Proofs.Ytlefnekfeeihaaa.Sym Go.Proofs.Ytlefnekfeeihaaa.Tab
set_option linter.unusedVariables false
set_option linter.unusedSimpArgs false
set_option maxHeartbeats 4000000
set_option maxRecDepth 20000
theorem kinds_err (k : Nat) (e p : Int) (he : e ≠ 0) (d : Nat) (hd : d ≤ 1) (x : AV) (hx : ∃ n cs, x = .shr n false cs ∧ cs.all atom = true ∧ cs.all flat0 = true) (h : acall T (k + 17) 14 0 [x] [] = some ⟨.tup [.v (.slice none 0 0), .v (.int .i64 e), .v (.int .i64 p)], [], d⟩) :
    ∃ d', acall T (k + 18) 9 0 [x] [] = some ⟨.tup [.v (.slice none 0 0), .v (.bool false)], [], d'⟩ ∧ d' ≤ 1 := by
  obtain ⟨n, cs, rfl, h1, h2⟩ := hx
  refine ⟨d, ?_, hd⟩
  rw [acall_go (body := b_verify_Kinds) rfl rfl (Nat.zero_le _)]
  have he' : (e != 0) = true := by simpa using he
  have hdd : d = 0 ∨ d = 1 := by omega
  rcases hdd with rfl | rfl <;> simp -implicitDefEqProofs only [eqs, eqd, aCall, Sym.reach, Sym.pos, ↓reduceIte, reduceCtorEq, Nat.reduceEqDiff, Nat.reduceAdd, Nat.reduceSub, Nat.reduceMul, Nat.reduceLT, Nat.reduceLeDiff, Nat.reduceBEq, Nat.reduceBNe, Nat.reduceGT, Int.reduceEq, Int.reduceLT, Int.reduceLE, Int.reduceToNat, Int.reduceAdd, Int.reduceSub, Int.reduceMul, Int.reduceNeg, Int.reduceBEq, Int.reduceBNe, b_verify_Kinds, g_verify_Kinds_0, h, he', r0, s0]
theorem canT_merge (t : List (Option Ah)) : (canT t true).map (mergeO [] [] 0) = canT t true := by
  have hg : ∀ j, gmap [] 0 ([] : List Sym.Obj).length j = j := fun j => by
    unfold gmap
    rw [if_neg (by omega)]
    show 0 + (j - 0) = j
    omega
  unfold canT
  rw [List.map_cons, List.map_map]
  congr 1
  · unfold mergeO renO
    simp only [if_true, Bool.false_eq_true, if_false, Bool.true_or]
    rw [tcl_ren, show (List.range' 1 (som t).length).map (gmap [] 0 ([] : List Sym.Obj).length) = List.range' 1 (som t).length from by
      conv => rhs; rw [← List.map_id (List.range' 1 (som t).length)]
      exact List.map_congr_left fun j _ => hg j]
theorem kinds_ok (k : Nat) (hk : 200 ≤ k) (n : Nat) (hn : n ≤ 200) (t : List (Option Ah)) (ht : AllIn t) (hlen : t.length = n + 1) (cs : List AV) (h : acall T (k + 17) 14 0 [.shr n false cs] [] = some ⟨.tup [.view 0 0 (n + 1) 1 (some (n + 1)), .v (.int .i64 0), .v (.int .i64 0)], canT t true, 1⟩) :
    acall T (k + 18) 9 0 [.shr n false cs] [] = some (kres n t) := by
  rw [acall_go (body := b_verify_Kinds) rfl rfl (Nat.zero_le _), ← kinds_all (acall T (k + 17)) (k + 17) n hn t ht hlen (k + 16) (by omega)]
  have lp : ∀ (ks : List It) (s : St), Lp (acall T (k + 17)) (k + 17) [7, 21, 22, 23] l_verify_Kinds_0 (k + 17) ks s = Lh (acall T (k + 17)) (k + 17) (canon [7, 21, 22, 23] s) [7, 21, 22, 23] l_verify_Kinds_0 (k + 16) ks := fun ks s => lp_succ (n := k + 16)
  have hs : (som t).length ≤ 300 := by have := som_le t; omega
  have hT := canT_has t true hs
  have q1 := hT.reach
  have q2 := hT.sub true (fun _ => rfl)
  rw [Bool.and_true] at q2
  have n1 : n ≤ n + 1 := by omega
  have q3 := canT_merge t
  unfold kfin kst0
  clear hT
  generalize hM : n + 1 = M at *
  generalize canT t true = W at *
  generalize List.range' 1 (som t).length = ps at *
  simp -implicitDefEqProofs only [eqs, eqd, aCall, ↓reduceIte, reduceCtorEq, Nat.reduceEqDiff, Nat.reduceAdd, Nat.reduceSub, Nat.reduceMul, Nat.reduceLT, Nat.reduceLeDiff, Nat.reduceBEq, Nat.reduceBNe, Nat.reduceGT, Int.reduceEq, Int.reduceLT, Int.reduceLE, Int.reduceToNat, Int.reduceAdd, Int.reduceSub, Int.reduceMul, Int.reduceNeg, Int.reduceBEq, Int.reduceBNe, b_verify_Kinds, g_verify_Kinds_0, h, r0, s0, pos_q, q1, q2, q3, n1, lp, Int.toNat_natCast, Int.natCast_zero]
end Go.Proofs.Ytlefnekfeeihaaa.Ver

/- awake answers true. -/
namespace Go.Proofs.Ytlefnekfeeihaaa.VAwk
open Go Go.Proofs.Ytlefnekfeeihaaa.Sym Go.Proofs.Ytlefnekfeeihaaa.Tab
theorem awake_a : acall T 299 6 0 [] [] = some ⟨.v (.bool true), [], 1⟩ := by kernel_rfl
end Go.Proofs.Ytlefnekfeeihaaa.VAwk

/- The law VerifyChecks: its loop. -/
namespace Go.Proofs.Ytlefnekfeeihaaa.Ver
open Go Go.Proofs.Ytlefnekfeeihaaa.Sym Go.Proofs.Ytlefnekfeeihaaa.Tab
set_option linter.unusedVariables false
set_option linter.unusedSimpArgs false
set_option maxHeartbeats 4000000
set_option maxRecDepth 20000
theorem run_in (L : List Ins) (hL : L.length ≤ 200) (hin : ∀ (i : Nat) (h : i < L.length), L[i].In) : ∀ (m i : Nat) (t : List (Option Ah)), i + m = L.length → AllIn t → t.length = L.length + 1 → AllIn (run L m i t).2.2 ∧ (run L m i t).2.2.length = L.length + 1
  | 0, i, t, hi, ht, hlen => ⟨ht, hlen⟩
  | m + 1, i, t, hi, ht, hlen => by
    have h : i < L.length := by omega
    have h1 := (all_step 0 0 L hL t ht hlen i h (hin i h) 0).1
    rw [run, dif_pos h]
    by_cases c : (stp L.length i t L[i]).1 = 0
    · rw [if_pos c]
      exact run_in L hL hin m (i + 1) _ (by omega) (h1 c).2.1 (h1 c).2.2
    · rw [if_neg c]
      exact ⟨ht, hlen⟩
def vst (n : Nat) (cs : List AV) (t : List (Option Ah)) (i : Nat) : St := ⟨[(0, .shr n false cs), (5, .view 0 0 (n + 1) 3 (some (n + 1))), (8, .view 1 0 n 1 none), (51, .v (.int .i64 n)), (52, .v (.int .i64 i))], [⟨true, true, true, rr t⟩, ⟨true, true, true, kr t n 0⟩], 1, []⟩
noncomputable abbrev vfin (C : CT) (lf : Nat) (s : St) (N : Nat) : Option Res := FnR [.t 2] false false (Lh C lf (some s) [0, 5, 8, 51, 52] l_fuglemanlaw14_VerifyChecks_0 N [.b 0, .c l_fuglemanlaw14_VerifyChecks_1])
theorem vch_next (C : CT) (lf n : Nat) (hn : n ≤ 200) (cs : List AV) (t : List (Option Ah)) (hlen : t.length = n + 1) (i : Nat) (hi : i < n) (N : Nat) (ks : List It) :
    Lh C lf (some (vst n cs t i)) [0, 5, 8, 51, 52] l_fuglemanlaw14_VerifyChecks_0 (N + 1) ks = Lh C lf (some (vst n cs t (i + 1))) [0, 5, 8, 51, 52] l_fuglemanlaw14_VerifyChecks_0 N ks := by
  have c1 : (i : Int) < n := by omega
  have c0 : (0 : Int) ≤ i := by omega
  have c2 : (i : Int) < ((n + 1 : Nat) : Int) := by omega
  have c3 : ¬ (n : Int) ≤ i := by omega
  have w : IntKind.i64.wrap ((i : Int) + 1) = i + 1 := w64 (by omega) (by omega)
  have hx : t[i]? = some t[i] := List.getElem?_eq_getElem (by omega)
  have z0 : (rr t)[i * 3]? = (ra t[i])[0]? := rr_at hx (j := 0) (by decide)
  have z1 : (rr t)[i * 3 + 1]? = (ra t[i])[1]? := rr_at hx (j := 1) (by decide)
  have hk := kr_at t n 0 i hi
  rw [Nat.zero_add, hx, Option.getD_some] at hk
  unfold vst
  rw [lh_as l_fuglemanlaw14_VerifyChecks_0.eq_1]
  generalize t[i] = x at *
  generalize rr t = R at *
  generalize kr t n 0 = K at *
  generalize hM : n + 1 = M at *
  cases x with
  | none =>
    simp only [ra, List.getElem?_cons_zero, List.getElem?_cons_succ] at z0 z1
    simp only [kd] at hk
    simp -implicitDefEqProofs only [eqs, eqd, aCall, Sym.reach, Sym.pos, Sym.sub, ↓reduceIte, reduceCtorEq, Nat.reduceEqDiff, Nat.reduceAdd, Nat.reduceSub, Nat.reduceMul, Nat.reduceLT, Nat.reduceLeDiff, Nat.reduceBEq, Nat.reduceBNe, Nat.reduceGT, Int.reduceEq, Int.reduceLT, Int.reduceLE, Int.reduceToNat, Int.reduceAdd, Int.reduceSub, Int.reduceMul, Int.reduceNeg, Int.reduceBEq, Int.reduceBNe, nx_nil, c0, c1, c2, c3, w, z0, z1, hk, Int.toNat_natCast, Int.natCast_add]
  | some a =>
    simp only [ra, rc, List.getElem?_cons_zero, List.getElem?_cons_succ] at z0 z1
    simp only [kd] at hk
    simp -implicitDefEqProofs only [eqs, eqd, aCall, Sym.reach, Sym.pos, Sym.sub, ↓reduceIte, reduceCtorEq, Nat.reduceEqDiff, Nat.reduceAdd, Nat.reduceSub, Nat.reduceMul, Nat.reduceLT, Nat.reduceLeDiff, Nat.reduceBEq, Nat.reduceBNe, Nat.reduceGT, Int.reduceEq, Int.reduceLT, Int.reduceLE, Int.reduceToNat, Int.reduceAdd, Int.reduceSub, Int.reduceMul, Int.reduceNeg, Int.reduceBEq, Int.reduceBNe, nx_nil, c0, c1, c2, c3, w, z0, z1, hk, Int.toNat_natCast, Int.natCast_add]
theorem vch_end (C : CT) (lf n : Nat) (cs : List AV) (t : List (Option Ah)) (N : Nat) : vfin C lf (vst n cs t n) N = some ⟨.v (.bool true), [], 1⟩ := by
  have c1 : ¬ (n : Int) < n := by omega
  unfold vfin vst
  rw [lh_as l_fuglemanlaw14_VerifyChecks_0.eq_1]
  simp -implicitDefEqProofs only [eqs, eqd, aCall, Sym.reach, Sym.pos, Sym.sub, ↓reduceIte, reduceCtorEq, Nat.reduceEqDiff, Nat.reduceAdd, Nat.reduceSub, Nat.reduceMul, Nat.reduceLT, Nat.reduceLeDiff, Nat.reduceBEq, Nat.reduceBNe, Nat.reduceGT, Int.reduceEq, Int.reduceLT, Int.reduceLE, Int.reduceToNat, Int.reduceAdd, Int.reduceSub, Int.reduceMul, Int.reduceNeg, Int.reduceBEq, Int.reduceBNe, nx_nil, l_fuglemanlaw14_VerifyChecks_1, c1]
theorem vch_run (C : CT) (lf n : Nat) (hn : n ≤ 200) (cs : List AV) (t : List (Option Ah)) (hlen : t.length = n + 1) : ∀ (m i N : Nat), i + m = n → m ≤ N → vfin C lf (vst n cs t i) N = some ⟨.v (.bool true), [], 1⟩
  | 0, i, N, hi, hN => by
    obtain rfl : i = n := by omega
    exact vch_end C lf i cs t N
  | m + 1, i, N, hi, hN => by
    obtain ⟨N, rfl⟩ : ∃ M, N = M + 1 := ⟨N - 1, by omega⟩
    have := vch_run C lf n hn cs t hlen m (i + 1) N (by omega) (by omega)
    unfold vfin at this ⊢
    rw [vch_next C lf n hn cs t hlen i (by omega) N _, this]
end Go.Proofs.Ytlefnekfeeihaaa.Ver

/- What stands behind the first error plays no part; behind a RET anything may stand: of the steps. -/
namespace Go.Proofs.Ytlefnekfeeihaaa.Ver
open Go Go.Proofs.Ytlefnekfeeihaaa.Sym Go.Proofs.Ytlefnekfeeihaaa.Tab
set_option linter.unusedVariables false
set_option linter.unusedSimpArgs false
theorem lead1_take (t : List (Option Ah)) (to N : Nat) (h : to < N) (b : Ah) : lead1 (t.take N) to b = ((lead1 t to b).1.take N, (lead1 t to b).2) := by
  unfold lead1
  rw [List.getElem?_take_of_lt h]
  split
  · rw [List.take_set]
  · rw [List.take_set]
theorem stp_take (n n' i : Nat) (hn : n' ≤ n) (hi : i < n') (t : List (Option Ah)) (ins : Ins) (hj : jmp ins = true → ins.at_ ≤ n') : stp n' i (t.take (n' + 1)) ins = ((stp n i t ins).1, (stp n i t ins).2.take (n' + 1)) := by
  unfold stp
  by_cases hr : right ins = false
  · rw [if_pos hr, if_pos hr]
  rw [if_neg hr, if_neg hr, List.getElem?_take_of_lt (by omega)]
  generalize t[i]? = x
  match x with
  | none => rfl
  | some none => rfl
  | some (some a) =>
    simp only
    by_cases hb : jmp ins = true ∧ ¬ ((i : Int) < ins.at_ ∧ ins.at_ ≤ n)
    · rw [if_pos hb, if_pos ⟨hb.1, fun h => hb.2 ⟨h.1, by omega⟩⟩]
    · rw [if_neg hb, if_neg (fun h => hb ⟨h.1, fun q => h.2 ⟨q.1, hj h.1⟩⟩)]
      by_cases he : (beh a ins).2 ≠ 0
      · rw [if_pos he, if_pos he]
      · rw [if_neg he, if_neg he]
        generalize (beh a ins).1 = b
        have hl : lead2 (t.take (n' + 1)) i ins b = ((lead2 t i ins b).1.take (n' + 1), (lead2 t i ins b).2) := by
          unfold lead2
          have h1 : (if onI ins = true then lead1 (t.take (n' + 1)) (i + 1) b else (t.take (n' + 1), true)) = ((if onI ins = true then lead1 t (i + 1) b else (t, true)).1.take (n' + 1), (if onI ins = true then lead1 t (i + 1) b else (t, true)).2) := by
            split
            · exact lead1_take t (i + 1) (n' + 1) (by omega) b
            · rfl
          simp only [h1]
          generalize (if onI ins = true then lead1 t (i + 1) b else (t, true)) = r
          by_cases c : r.2 = true ∧ jmp ins = true
          · rw [if_pos c, if_pos c]
            have h2 := hj c.2
            have h3 : ¬ jmp ins = true ∨ (i : Int) < ins.at_ := by
              by_cases q : (i : Int) < ins.at_
              · exact Or.inr q
              · exact absurd ⟨c.2, fun z => q z.1⟩ hb
            have h4 : (i : Int) < ins.at_ := h3.resolve_left (fun z => z c.2)
            exact lead1_take r.1 ins.at_.toNat (n' + 1) (by omega) b
          · rw [if_neg c, if_neg c]
        rw [hl]
        simp only
        split <;> rfl
theorem run_pre (L : List Ins) (q : Nat) (hq : q < L.length) (e : Int) (he : e ≠ 0) (hj : ∀ (j : Nat) (h : j < L.length), j < q → jmp L[j] = true → L[j].at_ ≤ q + 1) (hl : jmp L[q] = false) : ∀ (m i : Nat) (t : List (Option Ah)), i + m = L.length → (run L m i t).1 = e → (run L m i t).2.1 = q →
    i ≤ q ∧ (run (L.take (q + 1)) (q + 1 - i) i (t.take (q + 2))).1 = e ∧ (run (L.take (q + 1)) (q + 1 - i) i (t.take (q + 2))).2.1 = q
  | 0, i, t, hi, h1, h2 => by
    rw [run] at h1 h2
    simp only at h1 h2
    unfold endE at h1 h2
    split at h1
    · rename_i a ha
      rw [ha] at h2
      simp only at h2
      split at h1
      · exact absurd h1.symm he
      · rename_i c
        rw [if_neg c] at h2
        simp only at h2
        omega
    · exact absurd h1.symm he
  | m + 1, i, t, hi, h1, h2 => by
    have h : i < L.length := by omega
    rw [run, dif_pos h] at h1 h2
    have hlen : (L.take (q + 1)).length = q + 1 := by rw [List.length_take]; omega
    have key : i ≤ q → ∀ (hh : i < (L.take (q + 1)).length), stp (L.take (q + 1)).length i (t.take (q + 2)) (L.take (q + 1))[i] = ((stp L.length i t L[i]).1, (stp L.length i t L[i]).2.take (q + 2)) := fun hiq hh => by
      rw [hlen, List.getElem_take]
      refine stp_take L.length (q + 1) i (by omega) (by omega) t L[i] fun hjm => ?_
      by_cases c : i = q
      · subst c
        rw [hl] at hjm
        cases hjm
      · have := hj i h (by omega) hjm
        omega
    by_cases c : (stp L.length i t L[i]).1 = 0
    · rw [if_pos c] at h1 h2
      obtain ⟨k1, k2, k3⟩ := run_pre L q hq e he hj hl m (i + 1) _ (by omega) h1 h2
      refine ⟨by omega, ?_⟩
      have hh : i < (L.take (q + 1)).length := by omega
      rw [show q + 1 - i = (q + 1 - (i + 1)) + 1 by omega, run, dif_pos hh, key (by omega) hh]
      simp only [c, if_true]
      exact ⟨k2, k3⟩
    · rw [if_neg c] at h1 h2
      simp only at h1 h2
      have hiq : i = q := by omega
      subst hiq
      refine ⟨Nat.le_refl _, ?_⟩
      have hh : i < (L.take (i + 1)).length := by omega
      rw [show i + 1 - i = 0 + 1 by omega, run, dif_pos hh, key (Nat.le_refl _) hh]
      simp only [c, if_false]
      exact ⟨h1, trivial⟩
theorem lead1_app (t R : List (Option Ah)) (to : Nat) (h : to < t.length) (b : Ah) : lead1 (t ++ R) to b = ((lead1 t to b).1 ++ R, (lead1 t to b).2) := by
  unfold lead1
  rw [List.getElem?_append_left h]
  split
  · rw [List.set_append_left _ _ h]
  · rw [List.set_append_left _ _ h]
theorem stp_app (n n2 i : Nat) (hn : n ≤ n2) (t R : List (Option Ah)) (hlen : t.length = n + 1) (hi : i < n) (ins : Ins) (h0 : (stp n i t ins).1 = 0) : stp n2 i (t ++ R) ins = (0, (stp n i t ins).2 ++ R) := by
  unfold stp at h0 ⊢
  by_cases hr : right ins = false
  · rw [if_pos hr] at h0
    simp at h0
  rw [if_neg hr] at h0
  rw [if_neg hr, if_neg hr, List.getElem?_append_left (by omega)]
  generalize t[i]? = x at h0
  match x, h0 with
  | none, h0 => rfl
  | some none, h0 => rfl
  | some (some a), h0 =>
    simp only at h0 ⊢
    by_cases hb : jmp ins = true ∧ ¬ ((i : Int) < ins.at_ ∧ ins.at_ ≤ n)
    · rw [if_pos hb] at h0
      simp at h0
    · rw [if_neg hb] at h0 ⊢
      rw [if_neg (fun h => hb ⟨h.1, fun q => h.2 ⟨q.1, by omega⟩⟩)]
      by_cases he : (beh a ins).2 ≠ 0
      · rw [if_pos he] at h0
        exact absurd h0 he
      · rw [if_neg he] at h0 ⊢
        rw [if_neg he]
        generalize (beh a ins).1 = b at *
        have hl : lead2 (t ++ R) i ins b = ((lead2 t i ins b).1 ++ R, (lead2 t i ins b).2) := by
          unfold lead2
          have h1 : (if onI ins = true then lead1 (t ++ R) (i + 1) b else (t ++ R, true)) = ((if onI ins = true then lead1 t (i + 1) b else (t, true)).1 ++ R, (if onI ins = true then lead1 t (i + 1) b else (t, true)).2) := by
            split
            · exact lead1_app t R (i + 1) (by omega) b
            · rfl
          have hrl : (if onI ins = true then lead1 t (i + 1) b else (t, true)).1.length = n + 1 := by
            split
            · rw [lead1_len, hlen]
            · exact hlen
          simp only [h1]
          generalize (if onI ins = true then lead1 t (i + 1) b else (t, true)) = r at hrl ⊢
          by_cases c : r.2 = true ∧ jmp ins = true
          · rw [if_pos c, if_pos c]
            have h3 : ins.at_ ≤ n := by
              by_cases q : (i : Int) < ins.at_ ∧ ins.at_ ≤ n
              · exact q.2
              · exact absurd ⟨c.2, q⟩ hb
            exact lead1_app r.1 R ins.at_.toNat (by omega) b
          · rw [if_neg c, if_neg c]
        rw [hl]
        simp only
        split
        · rename_i c
          rfl
        · rename_i c
          rw [if_neg c] at h0
          simp at h0
theorem lead2_len (t : List (Option Ah)) (i : Nat) (ins : Ins) (b : Ah) : (lead2 t i ins b).1.length = t.length := by
  unfold lead2
  have h : (if onI ins = true then lead1 t (i + 1) b else (t, true)).1.length = t.length := by
    by_cases c : onI ins = true
    · rw [if_pos c, lead1_len]
    · rw [if_neg c]
  simp only
  generalize (if onI ins = true then lead1 t (i + 1) b else (t, true)) = r at h ⊢
  by_cases c : r.2 = true ∧ jmp ins = true
  · rw [if_pos c, lead1_len, h]
  · rw [if_neg c, h]
theorem stp_len (n i : Nat) (t : List (Option Ah)) (ins : Ins) : (stp n i t ins).2.length = t.length := by
  unfold stp
  split
  · rfl
  · split
    · split
      · rfl
      · split
        · rfl
        · split
          · exact lead2_len _ _ _ _
          · rfl
    · rfl
/-- The one that ends. -/
def retI : Ins := ⟨28, 0, 0, 0, 0⟩
theorem ret_beh (a : Ah) (h : a.bs = []) : (beh a retI).2 = 0 := by
  unfold beh retI
  simp [h]
theorem run_more (L M : List Ins) (hM : ∀ x ∈ M, right x = true) (t : List (Option Ah)) (hlen : t.length = L.length + 1) (he : (endE L.length t).1 = 0) : ∀ (m i : Nat), i + m = L.length + 1 + M.length → L.length + 1 ≤ i → (run (L ++ [retI] ++ M) m i (t ++ List.replicate (M.length + 1) none)).1 = 0
  | 0, i, hi, hl => by
    rw [run]
    simp only
    unfold endE
    rw [show (L ++ [retI] ++ M).length = L.length + 1 + M.length by simp; omega, List.getElem?_append_right (by omega), List.getElem?_replicate]
    split
    · rename_i a ha
      split at ha <;> simp at ha
    · rfl
  | m + 1, i, hi, hl => by
    have hlt : i < (L ++ [retI] ++ M).length := by simp; omega
    rw [run, dif_pos hlt]
    have e1 : (L ++ [retI] ++ M)[i] = M[i - (L.length + 1)]'(by omega) := by
      rw [List.getElem_append_right (by simp; omega)]
      simp
    have hr : right (L ++ [retI] ++ M)[i] = true := by
      rw [e1]
      exact hM _ (List.getElem_mem _)
    have e2 : stp (L ++ [retI] ++ M).length i (t ++ List.replicate (M.length + 1) none) (L ++ [retI] ++ M)[i] = (0, t ++ List.replicate (M.length + 1) none) := by
      unfold stp
      rw [if_neg (by rw [hr]; decide), List.getElem?_append_right (by omega), List.getElem?_replicate, if_pos (by omega)]
    rw [e2]
    simp only [if_true]
    exact run_more L M hM t hlen he m (i + 1) (by omega) (by omega)
theorem run_ret (L M : List Ins) (hM : ∀ x ∈ M, right x = true) : ∀ (m i : Nat) (t : List (Option Ah)), i + m = L.length → t.length = L.length + 1 → (run L m i t).1 = 0 → (run (L ++ [retI] ++ M) (m + 1 + M.length) i (t ++ List.replicate (M.length + 1) none)).1 = 0
  | 0, i, t, hi, hlen, h0 => by
    obtain rfl : i = L.length := by omega
    rw [run] at h0
    simp only at h0
    have hlt : L.length < (L ++ [retI] ++ M).length := by simp
    rw [show 0 + 1 + M.length = M.length + 1 by omega, run, dif_pos hlt]
    have e1 : (L ++ [retI] ++ M)[L.length] = retI := by
      rw [List.getElem_append_left (by simp), List.getElem_append_right (by omega)]
      simp
    have e2 : stp (L ++ [retI] ++ M).length L.length (t ++ List.replicate (M.length + 1) none) (L ++ [retI] ++ M)[L.length] = (0, t ++ List.replicate (M.length + 1) none) := by
      rw [e1]
      unfold stp
      rw [if_neg (by decide), List.getElem?_append_left (by omega)]
      unfold endE at h0
      generalize t[L.length]? = x at h0
      match x, h0 with
      | none, h0 => rfl
      | some none, h0 => rfl
      | some (some a), h0 =>
        simp only at h0 ⊢
        have hb : a.bs = [] := by
          refine Classical.byContradiction fun hc => ?_
          rw [if_neg hc] at h0
          simp at h0
        rw [if_neg (by simp [jmp, retI]), if_neg (by rw [ret_beh a hb]; simp)]
        unfold lead2
        simp [onI, jmp, retI]
    rw [e2]
    simp only [if_true]
    exact run_more L M hM t hlen h0 M.length (L.length + 1) (by omega) (Nat.le_refl _)
  | m + 1, i, t, hi, hlen, h0 => by
    have h : i < L.length := by omega
    rw [run, dif_pos h] at h0
    by_cases c : (stp L.length i t L[i]).1 = 0
    · rw [if_pos c] at h0
      have hlt : i < (L ++ [retI] ++ M).length := by simp; omega
      have e1 : (L ++ [retI] ++ M)[i] = L[i] := by rw [List.getElem_append_left (by simp; omega), List.getElem_append_left h]
      rw [show m + 1 + 1 + M.length = (m + 1 + M.length) + 1 by omega, run, dif_pos hlt, e1, stp_app L.length _ i (by simp only [List.length_append]; omega) t _ hlen h L[i] c]
      simp only [if_true]
      exact run_ret L M hM m (i + 1) _ (by omega) (by rw [stp_len, hlen]) h0
    · rw [if_neg c] at h0
      exact absurd h0 c
theorem t00_app (n k : Nat) : t00 (n + k) = t00 n ++ List.replicate k none := by
  unfold t00
  rw [List.cons_append, List.replicate_append_replicate]
theorem t00_take (n k : Nat) (h : k ≤ n) : (t00 n).take (k + 1) = t00 k := by
  unfold t00
  rw [List.take_succ_cons, List.take_replicate, Nat.min_eq_left h]
end Go.Proofs.Ytlefnekfeeihaaa.Ver

/- The law VerifyBehind: its loops. -/
namespace Go.Proofs.Ytlefnekfeeihaaa.Ver
open Go Go.Proofs.Ytlefnekfeeihaaa.Sym Go.Proofs.Ytlefnekfeeihaaa.Tab
set_option linter.unusedVariables false
set_option linter.unusedSimpArgs false
set_option maxHeartbeats 4000000
set_option maxRecDepth 20000
/-- Does one jump over a place? -/
def over (q : Int) (i : Ins) : Bool := jmp i && decide (q + 1 < i.at_)
def overs (q : Int) : List Ins → Bool
  | [] => false
  | x :: l => over q x || overs q l
theorem overs_get {q : Int} : ∀ {l : List Ins}, overs q l = false → ∀ (j : Nat) (h : j < l.length), over q l[j] = false
  | [], _, j, h => by simp at h
  | x :: l, e, j, h => by
    rw [overs, Bool.or_eq_false_iff] at e
    cases j with
    | zero => exact e.1
    | succ j => exact overs_get e.2 j (by simpa using h)
def w0st (e f wh : Int) (q : Nat) (P : List Ins) (i : Nat) (b : Bool) : St := ⟨[(5, .v (.int .i64 e)), (6, .v (.int .i64 q)), (8, .v (.int .i64 f)), (9, .v (.int .i64 wh)), (10, .v (.bool b)), (65, .shr P.length false (P.flatMap Ins.c)), (66, .v (.int .i64 P.length)), (67, .v (.int .i64 i))], [], 1, []⟩
abbrev w0live : List Nat := [5, 6, 8, 9, 10, 65, 66, 67]
theorem w0_next (C : CT) (lf : Nat) (e f wh : Int) (q : Nat) (hq : q ≤ 200) (P : List Ins) (hP : P.length ≤ 200) (i : Nat) (hi : i < P.length) (b : Bool) (N : Nat) (ks : List It) :
    Lh C lf (some (w0st e f wh q P i b)) w0live l_fuglemanlaw14_VerifyBehind_0 (N + 1) ks = Lh C lf (some (w0st e f wh q P (i + 1) (b || over q P[i]))) w0live l_fuglemanlaw14_VerifyBehind_0 N ks := by
  have c1 : (i : Int) < P.length := by omega
  have c0 : (0 : Int) ≤ i := by omega
  have w1 : IntKind.i64.wrap ((i : Int) + 1) = i + 1 := w64 (by omega) (by omega)
  have w2 : IntKind.i64.wrap ((q : Int) + 1) = q + 1 := w64 (by omega) (by omega)
  have h5 := ins_at P i hi
  have l5 : i * 5 + 5 ≤ P.length * 5 := by omega
  unfold w0st w0live over jmp
  rw [lh_as l_fuglemanlaw14_VerifyBehind_0.eq_1]
  generalize P[i] = ins at *
  cases b
  · by_cases d1 : 25 ≤ ins.op
    · by_cases d2 : ins.op ≤ 27
      · by_cases d3 : (q : Int) + 1 < ins.at_
        · simp -implicitDefEqProofs only [eqs, eqd, aCall, Sym.reach, Sym.pos, Sym.sub, ↓reduceIte, reduceCtorEq, Nat.reduceEqDiff, Nat.reduceAdd, Nat.reduceSub, Nat.reduceMul, Nat.reduceLT, Nat.reduceLeDiff, Nat.reduceBEq, Nat.reduceBNe, Nat.reduceGT, Int.reduceEq, Int.reduceLT, Int.reduceLE, Int.reduceToNat, Int.reduceAdd, Int.reduceSub, Int.reduceMul, Int.reduceNeg, Int.reduceBEq, Int.reduceBNe, g_fuglemanlaw14_VerifyBehind_0, Ins.c, c0, c1, w1, w2, h5, l5, ins_len, d1, d2, d3, Int.toNat_natCast, Int.natCast_add]
        · simp -implicitDefEqProofs only [eqs, eqd, aCall, Sym.reach, Sym.pos, Sym.sub, ↓reduceIte, reduceCtorEq, Nat.reduceEqDiff, Nat.reduceAdd, Nat.reduceSub, Nat.reduceMul, Nat.reduceLT, Nat.reduceLeDiff, Nat.reduceBEq, Nat.reduceBNe, Nat.reduceGT, Int.reduceEq, Int.reduceLT, Int.reduceLE, Int.reduceToNat, Int.reduceAdd, Int.reduceSub, Int.reduceMul, Int.reduceNeg, Int.reduceBEq, Int.reduceBNe, g_fuglemanlaw14_VerifyBehind_0, Ins.c, c0, c1, w1, w2, h5, l5, ins_len, d1, d2, d3, Int.toNat_natCast, Int.natCast_add]
      · simp -implicitDefEqProofs only [eqs, eqd, aCall, Sym.reach, Sym.pos, Sym.sub, ↓reduceIte, reduceCtorEq, Nat.reduceEqDiff, Nat.reduceAdd, Nat.reduceSub, Nat.reduceMul, Nat.reduceLT, Nat.reduceLeDiff, Nat.reduceBEq, Nat.reduceBNe, Nat.reduceGT, Int.reduceEq, Int.reduceLT, Int.reduceLE, Int.reduceToNat, Int.reduceAdd, Int.reduceSub, Int.reduceMul, Int.reduceNeg, Int.reduceBEq, Int.reduceBNe, g_fuglemanlaw14_VerifyBehind_0, Ins.c, c0, c1, w1, w2, h5, l5, ins_len, d1, d2, Int.toNat_natCast, Int.natCast_add]
    · simp -implicitDefEqProofs only [eqs, eqd, aCall, Sym.reach, Sym.pos, Sym.sub, ↓reduceIte, reduceCtorEq, Nat.reduceEqDiff, Nat.reduceAdd, Nat.reduceSub, Nat.reduceMul, Nat.reduceLT, Nat.reduceLeDiff, Nat.reduceBEq, Nat.reduceBNe, Nat.reduceGT, Int.reduceEq, Int.reduceLT, Int.reduceLE, Int.reduceToNat, Int.reduceAdd, Int.reduceSub, Int.reduceMul, Int.reduceNeg, Int.reduceBEq, Int.reduceBNe, g_fuglemanlaw14_VerifyBehind_0, Ins.c, c0, c1, w1, w2, h5, l5, ins_len, d1, Int.toNat_natCast, Int.natCast_add]
  · simp -implicitDefEqProofs only [eqs, eqd, aCall, Sym.reach, Sym.pos, Sym.sub, ↓reduceIte, reduceCtorEq, Nat.reduceEqDiff, Nat.reduceAdd, Nat.reduceSub, Nat.reduceMul, Nat.reduceLT, Nat.reduceLeDiff, Nat.reduceBEq, Nat.reduceBNe, Nat.reduceGT, Int.reduceEq, Int.reduceLT, Int.reduceLE, Int.reduceToNat, Int.reduceAdd, Int.reduceSub, Int.reduceMul, Int.reduceNeg, Int.reduceBEq, Int.reduceBNe, g_fuglemanlaw14_VerifyBehind_0, Ins.c, c0, c1, w1, w2, h5, l5, ins_len, Int.toNat_natCast, Int.natCast_add]
noncomputable abbrev w0fin (C : CT) (lf : Nat) (s : St) (N : Nat) : Option Res := FnR [.t 4] false false (Lh C lf (some s) w0live l_fuglemanlaw14_VerifyBehind_0 N [.b 0, .c l_fuglemanlaw14_VerifyBehind_1, .c l_fuglemanlaw14_VerifyBehind_2])
theorem w0_end (C : CT) (lf : Nat) (e f wh : Int) (q : Nat) (P : List Ins) (b : Bool) (h : b = false → f = e ∧ wh = q) (N : Nat) : w0fin C lf (w0st e f wh q P P.length b) N = some ⟨.v (.bool true), [], 1⟩ := by
  have c1 : ¬ (P.length : Int) < P.length := by omega
  unfold w0fin w0st w0live
  rw [lh_as l_fuglemanlaw14_VerifyBehind_0.eq_1]
  cases b
  · obtain ⟨rfl, rfl⟩ := h rfl
    simp -implicitDefEqProofs only [eqs, eqd, aCall, Sym.reach, Sym.pos, Sym.sub, ↓reduceIte, reduceCtorEq, Nat.reduceEqDiff, Nat.reduceAdd, Nat.reduceSub, Nat.reduceMul, Nat.reduceLT, Nat.reduceLeDiff, Nat.reduceBEq, Nat.reduceBNe, Nat.reduceGT, Int.reduceEq, Int.reduceLT, Int.reduceLE, Int.reduceToNat, Int.reduceAdd, Int.reduceSub, Int.reduceMul, Int.reduceNeg, Int.reduceBEq, Int.reduceBNe, g_fuglemanlaw14_VerifyBehind_0, l_fuglemanlaw14_VerifyBehind_1, c1]
  · simp -implicitDefEqProofs only [eqs, eqd, aCall, Sym.reach, Sym.pos, Sym.sub, ↓reduceIte, reduceCtorEq, Nat.reduceEqDiff, Nat.reduceAdd, Nat.reduceSub, Nat.reduceMul, Nat.reduceLT, Nat.reduceLeDiff, Nat.reduceBEq, Nat.reduceBNe, Nat.reduceGT, Int.reduceEq, Int.reduceLT, Int.reduceLE, Int.reduceToNat, Int.reduceAdd, Int.reduceSub, Int.reduceMul, Int.reduceNeg, Int.reduceBEq, Int.reduceBNe, g_fuglemanlaw14_VerifyBehind_0, l_fuglemanlaw14_VerifyBehind_1, c1]
theorem w0_run (C : CT) (lf : Nat) (e f wh : Int) (q : Nat) (hq : q ≤ 200) (P : List Ins) (hP : P.length ≤ 200) (h : overs q P = false → f = e ∧ wh = q) : ∀ (m i N : Nat) (b : Bool), i + m = P.length → m ≤ N → (b = false → overs q (P.take i) = false) → w0fin C lf (w0st e f wh q P i b) N = some ⟨.v (.bool true), [], 1⟩
  | 0, i, N, b, hi, hN, hb => by
    obtain rfl : i = P.length := by omega
    refine w0_end C lf e f wh q P b (fun hf => h ?_) N
    have := hb hf
    rwa [List.take_length] at this
  | m + 1, i, N, b, hi, hN, hb => by
    obtain ⟨N, rfl⟩ : ∃ M, N = M + 1 := ⟨N - 1, by omega⟩
    have hlt : i < P.length := by omega
    have := w0_run C lf e f wh q hq P hP h m (i + 1) N (b || over q P[i]) (by omega) (by omega) (fun hf => by
      rw [Bool.or_eq_false_iff] at hf
      have h1 := hb hf.1
      have app : ∀ (l : List Ins) (x : Ins), overs q l = false → over q x = false → overs q (l ++ [x]) = false := fun l x => by
        induction l with
        | nil => intro _ h2; rw [List.nil_append, overs, overs, h2]; rfl
        | cons y l ih =>
          intro h1 h2
          rw [overs, Bool.or_eq_false_iff] at h1
          rw [List.cons_append, overs, h1.1, ih h1.2 h2]
          rfl
      rw [List.take_succ_eq_append_getElem hlt]
      exact app _ _ h1 hf.2)
    unfold w0fin at this ⊢
    rw [w0_next C lf e f wh q hq P hP i hlt b N, this]
/-! what stands behind: is each right? -/
def w3st (L M : List Ins) (i : Nat) : St := ⟨[(0, .shr L.length false (L.flatMap Ins.c)), (1, .shr M.length false (M.flatMap Ins.c)), (103, .shr M.length false (M.flatMap Ins.c)), (104, .v (.int .i64 M.length)), (105, .v (.int .i64 i))], [], 1, []⟩
abbrev w3live : List Nat := [0, 1, 103, 104, 105]
theorem w3_next (k lf : Nat) (L M : List Ins) (hM : M.length ≤ 200) (i : Nat) (hi : i < M.length) (hr : right M[i] = true) (hin : M[i].In) (N : Nat) (ks : List It) :
    Lh (acall T (k + 11)) lf (some (w3st L M i)) w3live l_fuglemanlaw14_VerifyBehind_3 (N + 1) ks = Lh (acall T (k + 11)) lf (some (w3st L M (i + 1))) w3live l_fuglemanlaw14_VerifyBehind_3 N ks := by
  have c1 : (i : Int) < M.length := by omega
  have c0 : (0 : Int) ≤ i := by omega
  have w1 : IntKind.i64.wrap ((i : Int) + 1) = i + 1 := w64 (by omega) (by omega)
  have h5 := ins_at M i hi
  have l5 : i * 5 + 5 ≤ M.length * 5 := by omega
  have hra := rright_a k M[i] hin
  rw [hr] at hra
  unfold w3st w3live
  rw [lh_as l_fuglemanlaw14_VerifyBehind_3.eq_1]
  generalize M[i] = ins at *
  simp only [Ins.c] at hra
  simp -implicitDefEqProofs only [eqs, eqd, aCall, Sym.reach, Sym.pos, Sym.sub, ↓reduceIte, reduceCtorEq, Nat.reduceEqDiff, Nat.reduceAdd, Nat.reduceSub, Nat.reduceMul, Nat.reduceLT, Nat.reduceLeDiff, Nat.reduceBEq, Nat.reduceBNe, Nat.reduceGT, Int.reduceEq, Int.reduceLT, Int.reduceLE, Int.reduceToNat, Int.reduceAdd, Int.reduceSub, Int.reduceMul, Int.reduceNeg, Int.reduceBEq, Int.reduceBNe, g_fuglemanlaw14_VerifyBehind_0, Ins.c, c0, c1, w1, h5, l5, ins_len, hra, Int.toNat_natCast, Int.natCast_add]
theorem w3_bad (k lf : Nat) (L M : List Ins) (hM : M.length ≤ 200) (i : Nat) (hi : i < M.length) (hr : right M[i] = false) (hin : M[i].In) (N : Nat) :
    FnR [.t 4] false false (Lh (acall T (k + 11)) lf (some (w3st L M i)) w3live l_fuglemanlaw14_VerifyBehind_3 N [.b 2, .c l_fuglemanlaw14_VerifyBehind_4]) = some ⟨.v (.bool true), [], 1⟩ := by
  have c1 : (i : Int) < M.length := by omega
  have c0 : (0 : Int) ≤ i := by omega
  have h5 := ins_at M i hi
  have l5 : i * 5 + 5 ≤ M.length * 5 := by omega
  have hra := rright_a k M[i] hin
  rw [hr] at hra
  unfold w3st w3live
  rw [lh_as l_fuglemanlaw14_VerifyBehind_3.eq_1]
  generalize M[i] = ins at *
  simp only [Ins.c] at hra
  simp -implicitDefEqProofs only [eqs, eqd, aCall, Sym.reach, Sym.pos, Sym.sub, ↓reduceIte, reduceCtorEq, Nat.reduceEqDiff, Nat.reduceAdd, Nat.reduceSub, Nat.reduceMul, Nat.reduceLT, Nat.reduceLeDiff, Nat.reduceBEq, Nat.reduceBNe, Nat.reduceGT, Int.reduceEq, Int.reduceLT, Int.reduceLE, Int.reduceToNat, Int.reduceAdd, Int.reduceSub, Int.reduceMul, Int.reduceNeg, Int.reduceBEq, Int.reduceBNe, g_fuglemanlaw14_VerifyBehind_0, Ins.c, c0, c1, h5, l5, ins_len, hra, Int.toNat_natCast, Int.natCast_add]
def w5st (L M : List Ins) (i : Nat) : St := ⟨[(0, .shr L.length false (L.flatMap Ins.c)), (1, .shr M.length false (M.flatMap Ins.c)), (113, .shr L.length false (L.flatMap Ins.c)), (114, .v (.int .i64 L.length)), (115, .v (.int .i64 i))], [], 1, []⟩
abbrev w5live : List Nat := [0, 1, 113, 114, 115]
theorem w3_end (C : CT) (m : Nat) (L M : List Ins) (N : Nat) :
    Lh C (m + 1) (some (w3st L M M.length)) w3live l_fuglemanlaw14_VerifyBehind_3 N [.b 2, .c l_fuglemanlaw14_VerifyBehind_4] = Lh C (m + 1) (some (w5st L M 0)) w5live l_fuglemanlaw14_VerifyBehind_5 m [.b 4, .c l_fuglemanlaw14_VerifyBehind_6] := by
  have c1 : ¬ (M.length : Int) < M.length := by omega
  unfold w3st w3live w5st w5live
  rw [lh_as l_fuglemanlaw14_VerifyBehind_3.eq_1]
  simp -implicitDefEqProofs only [eqs, eqd, aCall, Sym.reach, Sym.pos, Sym.sub, ↓reduceIte, reduceCtorEq, Nat.reduceEqDiff, Nat.reduceAdd, Nat.reduceSub, Nat.reduceMul, Nat.reduceLT, Nat.reduceLeDiff, Nat.reduceBEq, Nat.reduceBNe, Nat.reduceGT, Int.reduceEq, Int.reduceLT, Int.reduceLE, Int.reduceToNat, Int.reduceAdd, Int.reduceSub, Int.reduceMul, Int.reduceNeg, Int.reduceBEq, Int.reduceBNe, g_fuglemanlaw14_VerifyBehind_0, l_fuglemanlaw14_VerifyBehind_4, c1]
theorem w3_run (k m : Nat) (L M : List Ins) (hM : M.length ≤ 200) (hin : ∀ (j : Nat) (h : j < M.length), M[j].In) (h : (∀ (j : Nat) (h : j < M.length), right M[j] = true) → FnR [.t 4] false false (Lh (acall T (k + 11)) (m + 1) (some (w5st L M 0)) w5live l_fuglemanlaw14_VerifyBehind_5 m [.b 4, .c l_fuglemanlaw14_VerifyBehind_6]) = some ⟨.v (.bool true), [], 1⟩) : ∀ (d i N : Nat), i + d = M.length → d ≤ N → (∀ (j : Nat) (h : j < M.length), j < i → right M[j] = true) →
    FnR [.t 4] false false (Lh (acall T (k + 11)) (m + 1) (some (w3st L M i)) w3live l_fuglemanlaw14_VerifyBehind_3 N [.b 2, .c l_fuglemanlaw14_VerifyBehind_4]) = some ⟨.v (.bool true), [], 1⟩
  | 0, i, N, hi, hN, hp => by
    obtain rfl : i = M.length := by omega
    rw [w3_end]
    exact h fun j hj => hp j hj hj
  | d + 1, i, N, hi, hN, hp => by
    obtain ⟨N, rfl⟩ : ∃ M, N = M + 1 := ⟨N - 1, by omega⟩
    have hlt : i < M.length := by omega
    cases hr : right M[i]
    · exact w3_bad k (m + 1) L M hM i hlt hr (hin i hlt) (N + 1)
    · rw [w3_next k (m + 1) L M hM i hlt hr (hin i hlt) N]
      refine w3_run k m L M hM hin h d (i + 1) N (by omega) (by omega) fun j hj hji => ?_
      by_cases e : j = i
      · subst e; exact hr
      · exact hp j hj (by omega)
/-! does one jump to the end? -/
theorem w5_next (C : CT) (lf : Nat) (L M : List Ins) (hL : L.length ≤ 200) (i : Nat) (hi : i < L.length) (N : Nat) :
    FnR [.t 4] false false (Lh C lf (some (w5st L M i)) w5live l_fuglemanlaw14_VerifyBehind_5 (N + 1) [.b 4, .c l_fuglemanlaw14_VerifyBehind_6]) = if jmp L[i] = true ∧ L[i].at_ = L.length then some ⟨.v (.bool true), [], 1⟩ else FnR [.t 4] false false (Lh C lf (some (w5st L M (i + 1))) w5live l_fuglemanlaw14_VerifyBehind_5 N [.b 4, .c l_fuglemanlaw14_VerifyBehind_6]) := by
  have c1 : (i : Int) < L.length := by omega
  have c0 : (0 : Int) ≤ i := by omega
  have w1 : IntKind.i64.wrap ((i : Int) + 1) = i + 1 := w64 (by omega) (by omega)
  have h5 := ins_at L i hi
  have l5 : i * 5 + 5 ≤ L.length * 5 := by omega
  unfold w5st w5live jmp
  rw [lh_as l_fuglemanlaw14_VerifyBehind_5.eq_1]
  generalize L[i] = ins at *
  by_cases d1 : 25 ≤ ins.op
  · by_cases d2 : ins.op ≤ 27
    · by_cases d3 : ins.at_ = L.length
      · have d4 : (ins.at_ == (L.length : Int)) = true := by simpa using d3
        rw [if_pos ⟨by simp [d1, d2], d3⟩]
        simp -implicitDefEqProofs only [eqs, eqd, aCall, Sym.reach, Sym.pos, Sym.sub, ↓reduceIte, reduceCtorEq, Nat.reduceEqDiff, Nat.reduceAdd, Nat.reduceSub, Nat.reduceMul, Nat.reduceLT, Nat.reduceLeDiff, Nat.reduceBEq, Nat.reduceBNe, Nat.reduceGT, Int.reduceEq, Int.reduceLT, Int.reduceLE, Int.reduceToNat, Int.reduceAdd, Int.reduceSub, Int.reduceMul, Int.reduceNeg, Int.reduceBEq, Int.reduceBNe, g_fuglemanlaw14_VerifyBehind_0, Ins.c, c0, c1, w1, h5, l5, ins_len, d1, d2, d4, Int.toNat_natCast, Int.natCast_add]
      · have d4 : (ins.at_ == (L.length : Int)) = false := by simpa using d3
        rw [if_neg (fun h => d3 h.2)]
        simp -implicitDefEqProofs only [eqs, eqd, aCall, Sym.reach, Sym.pos, Sym.sub, ↓reduceIte, reduceCtorEq, Nat.reduceEqDiff, Nat.reduceAdd, Nat.reduceSub, Nat.reduceMul, Nat.reduceLT, Nat.reduceLeDiff, Nat.reduceBEq, Nat.reduceBNe, Nat.reduceGT, Int.reduceEq, Int.reduceLT, Int.reduceLE, Int.reduceToNat, Int.reduceAdd, Int.reduceSub, Int.reduceMul, Int.reduceNeg, Int.reduceBEq, Int.reduceBNe, g_fuglemanlaw14_VerifyBehind_0, Ins.c, c0, c1, w1, h5, l5, ins_len, d1, d2, d4, Int.toNat_natCast, Int.natCast_add]
    · rw [if_neg (fun h => by simp [d2] at h)]
      simp -implicitDefEqProofs only [eqs, eqd, aCall, Sym.reach, Sym.pos, Sym.sub, ↓reduceIte, reduceCtorEq, Nat.reduceEqDiff, Nat.reduceAdd, Nat.reduceSub, Nat.reduceMul, Nat.reduceLT, Nat.reduceLeDiff, Nat.reduceBEq, Nat.reduceBNe, Nat.reduceGT, Int.reduceEq, Int.reduceLT, Int.reduceLE, Int.reduceToNat, Int.reduceAdd, Int.reduceSub, Int.reduceMul, Int.reduceNeg, Int.reduceBEq, Int.reduceBNe, g_fuglemanlaw14_VerifyBehind_0, Ins.c, c0, c1, w1, h5, l5, ins_len, d1, d2, Int.toNat_natCast, Int.natCast_add]
  · rw [if_neg (fun h => by simp [d1] at h)]
    simp -implicitDefEqProofs only [eqs, eqd, aCall, Sym.reach, Sym.pos, Sym.sub, ↓reduceIte, reduceCtorEq, Nat.reduceEqDiff, Nat.reduceAdd, Nat.reduceSub, Nat.reduceMul, Nat.reduceLT, Nat.reduceLeDiff, Nat.reduceBEq, Nat.reduceBNe, Nat.reduceGT, Int.reduceEq, Int.reduceLT, Int.reduceLE, Int.reduceToNat, Int.reduceAdd, Int.reduceSub, Int.reduceMul, Int.reduceNeg, Int.reduceBEq, Int.reduceBNe, g_fuglemanlaw14_VerifyBehind_0, Ins.c, c0, c1, w1, h5, l5, ins_len, d1, Int.toNat_natCast, Int.natCast_add]
theorem w5_run (C : CT) (lf : Nat) (L M : List Ins) (hL : L.length ≤ 200) (h : ∀ N, FnR [.t 4] false false (Lh C lf (some (w5st L M L.length)) w5live l_fuglemanlaw14_VerifyBehind_5 N [.b 4, .c l_fuglemanlaw14_VerifyBehind_6]) = some ⟨.v (.bool true), [], 1⟩) : ∀ (d i N : Nat), i + d = L.length → d ≤ N →
    FnR [.t 4] false false (Lh C lf (some (w5st L M i)) w5live l_fuglemanlaw14_VerifyBehind_5 N [.b 4, .c l_fuglemanlaw14_VerifyBehind_6]) = some ⟨.v (.bool true), [], 1⟩
  | 0, i, N, hi, hN => by
    obtain rfl : i = L.length := by omega
    exact h N
  | d + 1, i, N, hi, hN => by
    obtain ⟨N, rfl⟩ : ∃ M, N = M + 1 := ⟨N - 1, by omega⟩
    rw [w5_next C lf L M hL i (by omega) N]
    split
    · rfl
    · exact w5_run C lf L M hL h d (i + 1) N (by omega) (by omega)
end Go.Proofs.Ytlefnekfeeihaaa.Ver

/- The law VerifyBehind: Check of anything; the end. -/
namespace Go.Proofs.Ytlefnekfeeihaaa.Ver
open Go Go.Proofs.Ytlefnekfeeihaaa.Sym Go.Proofs.Ytlefnekfeeihaaa.Tab
set_option linter.unusedVariables false
set_option linter.unusedSimpArgs false
set_option maxHeartbeats 4000000
set_option maxRecDepth 20000
theorem ins_ok (L : List Ins) : ∃ n cs, AV.shr L.length false (L.flatMap Ins.c) = .shr n false cs ∧ cs.all atom = true ∧ cs.all flat0 = true := by
  refine ⟨_, _, rfl, ?_, ?_⟩
  · induction L with
    | nil => rfl
    | cons x L ih => rw [List.flatMap_cons, List.all_append, ih]; rfl
  · induction L with
    | nil => rfl
    | cons x L ih => rw [List.flatMap_cons, List.all_append, ih]; rfl
theorem ins_atom (L : List Ins) : (L.flatMap Ins.c).all atom = true := by
  obtain ⟨n, cs, h, h1, h2⟩ := ins_ok L
  cases h
  exact h1
theorem ins_flat (L : List Ins) : (L.flatMap Ins.c).all flat0 = true := by
  obtain ⟨n, cs, h, h1, h2⟩ := ins_ok L
  cases h
  exact h2
theorem ins_take : ∀ (L : List Ins) (m : Nat), (L.flatMap Ins.c).take (m * 5) = (L.take m).flatMap Ins.c
  | [], m => by simp
  | x :: L, 0 => by simp
  | x :: L, m + 1 => by
    rw [List.flatMap_cons, List.take_succ_cons, List.flatMap_cons, List.take_append, show (m + 1) * 5 - x.c.length = m * 5 by show (m + 1) * 5 - 5 = m * 5; omega, ins_take L m, List.take_of_length_le (show x.c.length ≤ (m + 1) * 5 by show 5 ≤ (m + 1) * 5; omega)]
def chk (L : List Ins) : Int × Int := if 200 < L.length then (2, 200) else if (run L L.length 0 (t00 L.length)).1 = 0 then (0, 0) else ((run L L.length 0 (t00 L.length)).1, (run L L.length 0 (t00 L.length)).2.1)
theorem check_any (L : List Ins) (hin : ∀ (i : Nat) (h : i < L.length), L[i].In) : ∃ d, d ≤ 1 ∧ acall T 299 7 0 [.shr L.length false (L.flatMap Ins.c)] [] = some ⟨.tup [.v (.int .i64 (chk L).1), .v (.int .i64 (chk L).2)], [], d⟩ := by
  unfold chk
  by_cases c2 : 200 < L.length
  · rw [if_pos c2]
    obtain ⟨d, h1, h2⟩ := check_err 281 (.v (.int .i64 0)) 2 200 0 (by omega) _ (ins_ok L) (all_long 281 L c2)
    exact ⟨d, h2, h1⟩
  · rw [if_neg c2]
    have h1 := all_a 281 (by omega) L (by omega) hin
    generalize run L L.length 0 (t00 L.length) = r at *
    obtain ⟨e, p, t⟩ := r
    unfold pres at h1
    simp only at h1 ⊢
    by_cases he : e = 0
    · rw [if_pos he] at h1 ⊢
      exact ⟨1, Nat.le_refl _, check_ok 281 _ _ _ _ h1⟩
    · rw [if_neg he] at h1 ⊢
      obtain ⟨d, g1, g2⟩ := check_err 281 (.v (.int .i64 0)) e p 1 (by omega) _ (ins_ok L) h1
      exact ⟨d, g2, g1⟩
theorem run_place (L : List Ins) : ∀ (m i : Nat) (t : List (Option Ah)), i + m = L.length → (run L m i t).1 ≠ 0 → ∃ q : Nat, (run L m i t).2.1 = q ∧ q ≤ L.length
  | 0, i, t, hi, h => by
    rw [run] at h ⊢
    simp only at h ⊢
    unfold endE at h ⊢
    generalize t[L.length]? = x at h ⊢
    match x, h with
    | none, h => exact absurd rfl h
    | some none, h => exact absurd rfl h
    | some (some a), h =>
      simp only at h ⊢
      by_cases c : a.bs = []
      · exact absurd (by rw [if_pos c]) h
      · rw [if_neg c]
        exact ⟨L.length, rfl, Nat.le_refl _⟩
  | m + 1, i, t, hi, h => by
    have h' : i < L.length := by omega
    rw [run, dif_pos h'] at h ⊢
    by_cases c : (stp L.length i t L[i]).1 = 0
    · rw [if_pos c] at h ⊢
      exact run_place L m (i + 1) _ (by omega) h
    · rw [if_neg c]
      exact ⟨i, rfl, by omega⟩
/-- With one that ends behind, and more. -/
theorem chk_more (L M : List Ins) (hL : L.length ≤ 100) (hM : M.length ≤ 90) (h : (chk L).1 = 0) (hr : ∀ (j : Nat) (h : j < M.length), right M[j] = true) : chk (L ++ [retI] ++ M) = (0, 0) := by
  have hl : (L ++ [retI] ++ M).length = L.length + 1 + M.length := by simp; omega
  unfold chk at h ⊢
  rw [if_neg (by omega)] at h
  rw [if_neg (by omega)]
  have h0 : (run L L.length 0 (t00 L.length)).1 = 0 := by
    refine Classical.byContradiction fun hc => ?_
    rw [if_neg hc] at h
    exact hc h
  have key := run_ret L M (fun x hx => by
    obtain ⟨j, hj, rfl⟩ := List.getElem_of_mem hx
    exact hr j hj) L.length 0 (t00 L.length) (by omega) (t00_len _) h0
  rw [hl, if_pos]
  rw [show L.length + 1 + M.length = L.length + (M.length + 1) by omega, t00_app]
  rw [show L.length + 1 + M.length = L.length + (M.length + 1) by omega] at key
  exact key
theorem chk_pre (L : List Ins) (hL : L.length ≤ 100) (q : Nat) (hq : q < L.length) (he : (chk L).1 ≠ 0) (hp : (chk L).2 = q) (hl : jmp L[q] = false) (hj : overs q (L.take q) = false) : chk (L.take (q + 1)) = chk L := by
  have hlen : (L.take (q + 1)).length = q + 1 := by rw [List.length_take]; omega
  unfold chk at he hp ⊢
  rw [if_neg (show ¬ 200 < L.length by omega)] at he hp
  rw [if_neg (show ¬ 200 < (L.take (q + 1)).length by omega), if_neg (show ¬ 200 < L.length by omega)]
  have h0 : ¬ (run L L.length 0 (t00 L.length)).1 = 0 := fun hc => by
    rw [if_pos hc] at he
    exact he rfl
  rw [if_neg h0] at he hp
  simp only at he hp
  obtain ⟨_, k1, k2⟩ := run_pre L q hq _ h0 (fun j h hjq hjm => by
    have := overs_get hj j (by rw [List.length_take]; omega)
    rw [List.getElem_take] at this
    unfold over at this
    rw [hjm, Bool.true_and, decide_eq_false_iff_not] at this
    omega) hl L.length 0 (t00 L.length) (by omega) rfl hp
  rw [show q + 2 = (q + 1) + 1 from rfl, t00_take L.length (q + 1) (by omega), Nat.sub_zero] at k1 k2
  rw [if_neg h0, hlen, k1, k2, if_neg h0, hp]
end Go.Proofs.Ytlefnekfeeihaaa.Ver

/- What the laws are given. Written by a program for this claim. -/
namespace Go.Proofs.Ytlefnekfeeihaaa.Args
open Go Go.Proofs.Ytlefnekfeeihaaa.Sym
set_option linter.unusedVariables false
/-- api.Instr = fugleman/api.Instr -/
structure S37 where
  f0 : Int
  f1 : Int
  f2 : Int
  f3 : Int
  f4 : Int
def S37.av (v : S37) : List AV := [.v (.int .i64 v.f0), .v (.int .i64 v.f1), .v (.int .i64 v.f2), .v (.int .i64 v.f3), .v (.int .i64 v.f4)]
structure S37.In (v : S37) : Prop where
  f0 : (-9223372036854775808 ≤ v.f0 ∧ v.f0 ≤ 9223372036854775807)
  f1 : (-9223372036854775808 ≤ v.f1 ∧ v.f1 ≤ 9223372036854775807)
  f2 : (-9223372036854775808 ≤ v.f2 ∧ v.f2 ≤ 9223372036854775807)
  f3 : (-9223372036854775808 ≤ v.f3 ∧ v.f3 ≤ 9223372036854775807)
  f4 : (-9223372036854775808 ≤ v.f4 ∧ v.f4 ≤ 9223372036854775807)
theorem rd37 : Rd Try.prog 37 5 S37.av S37.In := rd_struct (rdF_cons 3 0 (rd_imp (rd_int Try.underlying3) fun v h => rng_i64 h) (by kernel_rfl) (rdF_cons 3 1 (rd_imp (rd_int Try.underlying3) fun v h => rng_i64 h) (by kernel_rfl) (rdF_cons 3 2 (rd_imp (rd_int Try.underlying3) fun v h => rng_i64 h) (by kernel_rfl) (rdF_cons 3 3 (rd_imp (rd_int Try.underlying3) fun v h => rng_i64 h) (by kernel_rfl) (rdF_one 2 4 (rd_imp (rd_int Try.underlying2) fun v h => rng_i64 h) (by kernel_rfl)))))) Try.underlying37 rfl (fun v => ⟨v.1, v.2.1, v.2.2.1, v.2.2.2.1, v.2.2.2.2⟩) (fun _ => rfl) (fun _ => rfl) (fun v h => ⟨h.1, h.2.1, h.2.2.1, h.2.2.2.1, h.2.2.2.2⟩) (by kernel_rfl)
theorem rVerifyChecks0 : Rd Try.prog 22 1 (fun x : List (S37) => [.shr x.length false (x.flatMap S37.av)]) (fun v : List (S37) => (v.length ≤ 140737488351232 ∧ ∀ (i0 : Nat) x0, v[i0]? = some x0 → S37.In x0)) := (rd_slice Try.underlying22 rd37 (by kernel_rfl) (by kernel_rfl))
theorem rVerifyBehind0 : Rd Try.prog 22 1 (fun x : List (S37) => [.shr x.length false (x.flatMap S37.av)]) (fun v : List (S37) => (v.length ≤ 140737488351232 ∧ ∀ (i0 : Nat) x0, v[i0]? = some x0 → S37.In x0)) := (rd_slice Try.underlying22 rd37 (by kernel_rfl) (by kernel_rfl))
theorem rVerifyBehind1 : Rd Try.prog 22 1 (fun x : List (S37) => [.shr x.length false (x.flatMap S37.av)]) (fun v : List (S37) => (v.length ≤ 140737488351232 ∧ ∀ (i0 : Nat) x0, v[i0]? = some x0 → S37.In x0)) := (rd_slice Try.underlying22 rd37 (by kernel_rfl) (by kernel_rfl))
theorem rVerifyBytes0 : Rd Try.prog 22 1 (fun x : List (S37) => [.shr x.length false (x.flatMap S37.av)]) (fun v : List (S37) => (v.length ≤ 140737488351232 ∧ ∀ (i0 : Nat) x0, v[i0]? = some x0 → S37.In x0)) := (rd_slice Try.underlying22 rd37 (by kernel_rfl) (by kernel_rfl))
end Go.Proofs.Ytlefnekfeeihaaa.Args

/- The law VerifyBehind. -/
namespace Go.Proofs.Ytlefnekfeeihaaa.Said
open Go Go.Proofs.Ytlefnekfeeihaaa.Sym Go.Proofs.Ytlefnekfeeihaaa.Tab Go.Proofs.Ytlefnekfeeihaaa.Args Go.Proofs.Ytlefnekfeeihaaa.Ver Go.Proofs.Ytlefnekfeeihaaa.VAwk
set_option linter.unusedVariables false
set_option linter.unusedSimpArgs false
set_option maxHeartbeats 4000000
set_option maxRecDepth 20000
def toID (v : S37) : Ins := ⟨v.f0, v.f1, v.f2, v.f3, v.f4⟩
theorem toID_c (l : List S37) : l.flatMap S37.av = (l.map toID).flatMap Ins.c := by
  rw [List.flatMap_map]
  rfl
theorem toID_in {l : List S37} (h : ∀ (i0 : Nat) x0, l[i0]? = some x0 → S37.In x0) (i : Nat) (hi : i < (l.map toID).length) : ((l.map toID)[i]).In := by
  rw [List.getElem_map]
  have hl : i < l.length := by simpa using hi
  have := h i l[i] (List.getElem?_eq_getElem hl)
  exact ⟨this.1, this.2, this.3, this.4, this.5⟩
/-- The end: all are put together. -/
theorem vd_end (L M : List Ins) (hL : L.length ≤ 100) (hM : M.length ≤ 90) (d : Nat) (hd : d ≤ 1) (h : acall T 299 7 0 [.shr (L ++ [retI] ++ M).length false ((L ++ [retI] ++ M).flatMap Ins.c)] [] = some ⟨.tup [.v (.int .i64 0), .v (.int .i64 0)], [], d⟩) (N : Nat) :
    FnR [.t 4] false false (Lh (acall T 299) 299 (some (w5st L M L.length)) w5live l_fuglemanlaw14_VerifyBehind_5 N [.b 4, .c l_fuglemanlaw14_VerifyBehind_6]) = some ⟨.v (.bool true), [], 1⟩ := by
  have c1 : ¬ (L.length : Int) < L.length := by omega
  have e1 : (L ++ [retI] ++ M).flatMap Ins.c = L.flatMap Ins.c ++ (retI.c ++ M.flatMap Ins.c) := by simp [List.flatMap_append]
  have e2 : (L ++ [retI] ++ M).length = L.length + 1 + M.length := by simp; omega
  rw [e1, e2] at h
  have a1 := ins_atom L
  have a2 := ins_flat L
  have a3 := ins_len L
  have b1 := ins_atom M
  have b2 := ins_flat M
  have b3 := ins_len M
  have tL : (L.flatMap Ins.c).take (L.length * 5) = L.flatMap Ins.c := by rw [← a3, List.take_length]
  unfold w5st w5live
  rw [lh_as l_fuglemanlaw14_VerifyBehind_5.eq_1]
  simp only [retI, Ins.c] at h
  have hdd : d = 0 ∨ d = 1 := by omega
  have f1 : (L.flatMap Ins.c ++ [AV.v (.int .i64 28), AV.v (.int .i64 0), AV.v (.int .i64 0), AV.v (.int .i64 0), AV.v (.int .i64 0)]).length = L.length * 5 + 5 := by rw [List.length_append, a3]; rfl
  have f2 : (L.flatMap Ins.c ++ [AV.v (.int .i64 28), AV.v (.int .i64 0), AV.v (.int .i64 0), AV.v (.int .i64 0), AV.v (.int .i64 0)]).take ((L.length + 1) * 5) = L.flatMap Ins.c ++ [AV.v (.int .i64 28), AV.v (.int .i64 0), AV.v (.int .i64 0), AV.v (.int .i64 0), AV.v (.int .i64 0)] := List.take_of_length_le (by rw [f1]; omega)
  have f3 : (L.flatMap Ins.c ++ [AV.v (.int .i64 28), AV.v (.int .i64 0), AV.v (.int .i64 0), AV.v (.int .i64 0), AV.v (.int .i64 0)] ++ M.flatMap Ins.c).length = (L.length + 1 + M.length) * 5 := by rw [List.length_append, f1, b3]; omega
  have f4 : (L.flatMap Ins.c ++ [AV.v (.int .i64 28), AV.v (.int .i64 0), AV.v (.int .i64 0), AV.v (.int .i64 0), AV.v (.int .i64 0)] ++ M.flatMap Ins.c).take ((L.length + 1 + M.length) * 5) = L.flatMap Ins.c ++ [AV.v (.int .i64 28), AV.v (.int .i64 0), AV.v (.int .i64 0), AV.v (.int .i64 0), AV.v (.int .i64 0)] ++ M.flatMap Ins.c := List.take_of_length_le (by rw [f3]; omega)
  rw [← List.append_assoc] at h
  by_cases l0 : L.length = 0
  · obtain rfl : L = [] := List.length_eq_zero_iff.1 l0
    simp only [List.length_nil, List.flatMap_nil, List.nil_append, Nat.zero_add] at h f1 f2 f3 f4
    by_cases m0 : M.length = 0
    · obtain rfl : M = [] := List.length_eq_zero_iff.1 m0
      simp only [List.length_nil, List.flatMap_nil, List.append_nil, Nat.add_zero] at h
      rcases hdd with rfl | rfl <;> simp -implicitDefEqProofs only [eqs, eqd, aCall, Sym.reach, Sym.pos, Sym.sub, ↓reduceIte, reduceCtorEq, Nat.reduceEqDiff, Nat.reduceAdd, Nat.reduceSub, Nat.reduceMul, Nat.reduceLT, Nat.reduceLeDiff, Nat.reduceBEq, Nat.reduceBNe, Nat.reduceGT, Int.reduceEq, Int.reduceLT, Int.reduceLE, Int.reduceToNat, Int.reduceAdd, Int.reduceSub, Int.reduceMul, Int.reduceNeg, Int.reduceBEq, Int.reduceBNe, g_fuglemanlaw14_VerifyBehind_0, l_fuglemanlaw14_VerifyBehind_6, h]
    · have m3 : ¬ M.length ≤ 0 := by omega
      have n5 : (1 + M.length) * 40 ≤ 140737488355328 := by omega
      have n6 : 1 + M.length ≤ 9223372036854775807 := by omega
      have n7 : ¬ (1 + M.length) * 5 ≤ 5 := by omega
      have n8 : (1 + M.length) * 5 ≤ (1 + M.length) * 5 := Nat.le_refl _
      simp only [List.cons_append, List.nil_append] at h f3 f4
      generalize M.flatMap Ins.c = cm at *
      generalize M.length = m at *
      rcases hdd with rfl | rfl
      · simp -implicitDefEqProofs only [eqs, eqd, aCall, Sym.reach, Sym.pos, Sym.sub, ↓reduceIte, reduceCtorEq, Nat.reduceEqDiff, Nat.reduceAdd, Nat.reduceSub, Nat.reduceMul, Nat.reduceLT, Nat.reduceLeDiff, Nat.reduceBEq, Nat.reduceBNe, Nat.reduceGT, Int.reduceEq, Int.reduceLT, Int.reduceLE, Int.reduceToNat, Int.reduceAdd, Int.reduceSub, Int.reduceMul, Int.reduceNeg, Int.reduceBEq, Int.reduceBNe, g_fuglemanlaw14_VerifyBehind_0, l_fuglemanlaw14_VerifyBehind_6, b1, b2, b3, m0, m3, n5, n6, n7, n8, f3, f4, h]
      · simp -implicitDefEqProofs only [eqs, eqd, aCall, Sym.reach, Sym.pos, Sym.sub, ↓reduceIte, reduceCtorEq, Nat.reduceEqDiff, Nat.reduceAdd, Nat.reduceSub, Nat.reduceMul, Nat.reduceLT, Nat.reduceLeDiff, Nat.reduceBEq, Nat.reduceBNe, Nat.reduceGT, Int.reduceEq, Int.reduceLT, Int.reduceLE, Int.reduceToNat, Int.reduceAdd, Int.reduceSub, Int.reduceMul, Int.reduceNeg, Int.reduceBEq, Int.reduceBNe, g_fuglemanlaw14_VerifyBehind_0, l_fuglemanlaw14_VerifyBehind_6, b1, b2, b3, m0, m3, n5, n6, n7, n8, f3, f4, h]
  · have l3 : ¬ L.length ≤ 0 := by omega
    have n1 : L.length * 40 ≤ 140737488355328 := by omega
    have n2 : L.length ≤ 9223372036854775807 := by omega
    have n3 : (L.length + 1) * 40 ≤ 140737488355328 := by omega
    have n4 : L.length ≤ 9223372036854775806 := by omega
    have n0 : ¬ (L.length + 1) * 5 ≤ L.length * 5 := by omega
    have n9 : (L.length + 1) * 5 ≤ L.length * 5 + 5 := by omega
    by_cases m0 : M.length = 0
    · obtain rfl : M = [] := List.length_eq_zero_iff.1 m0
      simp only [List.length_nil, List.flatMap_nil, List.append_nil, Nat.add_zero] at h
      generalize L.flatMap Ins.c = cl at *
      generalize L.length = n at *
      rcases hdd with rfl | rfl <;> simp -implicitDefEqProofs only [eqs, eqd, aCall, Sym.reach, Sym.pos, Sym.sub, ↓reduceIte, reduceCtorEq, Nat.reduceEqDiff, Nat.reduceAdd, Nat.reduceSub, Nat.reduceMul, Nat.reduceLT, Nat.reduceLeDiff, Nat.reduceBEq, Nat.reduceBNe, Nat.reduceGT, Int.reduceEq, Int.reduceLT, Int.reduceLE, Int.reduceToNat, Int.reduceAdd, Int.reduceSub, Int.reduceMul, Int.reduceNeg, Int.reduceBEq, Int.reduceBNe, g_fuglemanlaw14_VerifyBehind_0, l_fuglemanlaw14_VerifyBehind_6, c1, a1, a2, a3, tL, l0, l3, n0, n1, n2, n3, n4, n9, f1, f2, h]
    · have m3 : ¬ M.length ≤ 0 := by omega
      have n5 : (L.length + 1 + M.length) * 40 ≤ 140737488355328 := by omega
      have n6 : L.length + 1 + M.length ≤ 9223372036854775807 := by omega
      have n7 : ¬ (L.length + 1 + M.length) * 5 ≤ L.length * 5 + 5 := by omega
      generalize L.flatMap Ins.c = cl at *
      generalize L.length = n at *
      generalize M.flatMap Ins.c = cm at *
      generalize M.length = m at *
      rcases hdd with rfl | rfl
      · simp -implicitDefEqProofs only [eqs, eqd, aCall, Sym.reach, Sym.pos, Sym.sub, ↓reduceIte, reduceCtorEq, Nat.reduceEqDiff, Nat.reduceAdd, Nat.reduceSub, Nat.reduceMul, Nat.reduceLT, Nat.reduceLeDiff, Nat.reduceBEq, Nat.reduceBNe, Nat.reduceGT, Int.reduceEq, Int.reduceLT, Int.reduceLE, Int.reduceToNat, Int.reduceAdd, Int.reduceSub, Int.reduceMul, Int.reduceNeg, Int.reduceBEq, Int.reduceBNe, g_fuglemanlaw14_VerifyBehind_0, l_fuglemanlaw14_VerifyBehind_6, c1, a1, a2, a3, b1, b2, b3, tL, l0, l3, m0, m3, n0, n1, n2, n3, n4, n5, n6, n7, n9, f1, f2, f3, f4, h]
      · simp -implicitDefEqProofs only [eqs, eqd, aCall, Sym.reach, Sym.pos, Sym.sub, ↓reduceIte, reduceCtorEq, Nat.reduceEqDiff, Nat.reduceAdd, Nat.reduceSub, Nat.reduceMul, Nat.reduceLT, Nat.reduceLeDiff, Nat.reduceBEq, Nat.reduceBNe, Nat.reduceGT, Int.reduceEq, Int.reduceLT, Int.reduceLE, Int.reduceToNat, Int.reduceAdd, Int.reduceSub, Int.reduceMul, Int.reduceNeg, Int.reduceBEq, Int.reduceBNe, g_fuglemanlaw14_VerifyBehind_0, l_fuglemanlaw14_VerifyBehind_6, c1, a1, a2, a3, b1, b2, b3, tL, l0, l3, m0, m3, n0, n1, n2, n3, n4, n5, n6, n7, n9, f1, f2, f3, f4, h]
theorem vd_b (L M : List Ins) (hL : L.length ≤ 100) (hM : M.length ≤ 90) (hin : ∀ (i : Nat) (h : i < L.length), L[i].In) (hinM : ∀ (i : Nat) (h : i < M.length), M[i].In) (d : Nat) (hd : d ≤ 1) (h0 : chk L = (0, 0)) (h : acall T 299 7 0 [.shr L.length false (L.flatMap Ins.c)] [] = some ⟨.tup [.v (.int .i64 0), .v (.int .i64 0)], [], d⟩) :
    acall T 300 4 0 [.shr L.length false (L.flatMap Ins.c), .shr M.length false (M.flatMap Ins.c)] [] = some ⟨.v (.bool true), [], 1⟩ := by
  have c1 : ¬ (100 : Int) < L.length := by omega
  have c2 : ¬ (90 : Int) < M.length := by omega
  have lp : ∀ (ks : List It) (s : St), Lp (acall T 299) 299 [0, 1, 103, 104, 105] l_fuglemanlaw14_VerifyBehind_3 299 ks s = Lh (acall T 299) 299 (canon [0, 1, 103, 104, 105] s) [0, 1, 103, 104, 105] l_fuglemanlaw14_VerifyBehind_3 298 ks := fun ks s => lp_succ (n := 298)
  have key := w3_run 288 298 L M (by omega) hinM (fun hr => by
    refine w5_run (acall T 299) 299 L M (by omega) (fun N => ?_) L.length 0 298 (by omega) (by omega)
    have hin2 : ∀ (i : Nat) (h : i < (L ++ [retI] ++ M).length), ((L ++ [retI] ++ M)[i]).In := fun i hi => by
      have : ∀ x ∈ L ++ [retI] ++ M, x.In := fun x hx => by
        rcases List.mem_append.1 hx with hx | hx
        · rcases List.mem_append.1 hx with hx | hx
          · obtain ⟨j, hj, rfl⟩ := List.getElem_of_mem hx
            exact hin j hj
          · obtain rfl : x = retI := by simpa using hx
            exact ⟨by decide, by decide, by decide, by decide, by decide⟩
        · obtain ⟨j, hj, rfl⟩ := List.getElem_of_mem hx
          exact hinM j hj
      exact this _ (List.getElem_mem hi)
    obtain ⟨d2, e1, e2⟩ := check_any (L ++ [retI] ++ M) hin2
    rw [chk_more L M hL hM (by rw [h0]) hr] at e2
    exact vd_end L M hL hM d2 e1 e2 N) M.length 0 298 (by omega) (by omega) (fun j hj h => by omega)
  rw [acall_go (body := b_fuglemanlaw14_VerifyBehind) rfl rfl (Nat.zero_le _), ← key]
  clear key
  unfold w3st w3live
  have hdd : d = 0 ∨ d = 1 := by omega
  clear hin hinM h0
  generalize L.flatMap Ins.c = cl at *
  generalize L.length = n at *
  generalize M.flatMap Ins.c = cm at *
  generalize M.length = m at *
  rcases hdd with rfl | rfl
  · simp -implicitDefEqProofs only [eqs, eqd, aCall, Sym.reach, Sym.pos, Sym.sub, ↓reduceIte, reduceCtorEq, Nat.reduceEqDiff, Nat.reduceAdd, Nat.reduceSub, Nat.reduceMul, Nat.reduceLT, Nat.reduceLeDiff, Nat.reduceBEq, Nat.reduceBNe, Nat.reduceGT, Int.reduceEq, Int.reduceLT, Int.reduceLE, Int.reduceToNat, Int.reduceAdd, Int.reduceSub, Int.reduceMul, Int.reduceNeg, Int.reduceBEq, Int.reduceBNe, b_fuglemanlaw14_VerifyBehind, g_fuglemanlaw14_VerifyBehind_0, l_fuglemanlaw14_VerifyBehind_2, awake_a, c1, c2, h, lp]
  · simp -implicitDefEqProofs only [eqs, eqd, aCall, Sym.reach, Sym.pos, Sym.sub, ↓reduceIte, reduceCtorEq, Nat.reduceEqDiff, Nat.reduceAdd, Nat.reduceSub, Nat.reduceMul, Nat.reduceLT, Nat.reduceLeDiff, Nat.reduceBEq, Nat.reduceBNe, Nat.reduceGT, Int.reduceEq, Int.reduceLT, Int.reduceLE, Int.reduceToNat, Int.reduceAdd, Int.reduceSub, Int.reduceMul, Int.reduceNeg, Int.reduceBEq, Int.reduceBNe, b_fuglemanlaw14_VerifyBehind, g_fuglemanlaw14_VerifyBehind_0, l_fuglemanlaw14_VerifyBehind_2, awake_a, c1, c2, h, lp]
theorem vd_a (L : List Ins) (cm : List AV) (m : Nat) (hL : L.length ≤ 100) (hM : m ≤ 90) (hin : ∀ (i : Nat) (h : i < L.length), L[i].In) (d : Nat) (hd : d ≤ 1) (h0 : (chk L).1 ≠ 0) (h : acall T 299 7 0 [.shr L.length false (L.flatMap Ins.c)] [] = some ⟨.tup [.v (.int .i64 (chk L).1), .v (.int .i64 (chk L).2)], [], d⟩) :
    acall T 300 4 0 [.shr L.length false (L.flatMap Ins.c), .shr m false cm] [] = some ⟨.v (.bool true), [], 1⟩ := by
  have c1 : ¬ (100 : Int) < L.length := by omega
  have c2 : ¬ (90 : Int) < m := by omega
  have hdd : d = 0 ∨ d = 1 := by omega
  have he' : ((chk L).1 != 0) = true := by simpa using h0
  obtain ⟨q, hq1, hq2⟩ : ∃ q : Nat, (chk L).2 = q ∧ q ≤ L.length := by
    unfold chk at h0 ⊢
    rw [if_neg (show ¬ 200 < L.length by omega)] at h0 ⊢
    by_cases c : (run L L.length 0 (t00 L.length)).1 = 0
    · rw [if_pos c] at h0
      exact absurd rfl h0
    · rw [if_neg c]
      exact run_place L L.length 0 _ (by omega) c
  have hpre := fun hq hl hj => chk_pre L hL q hq h0 hq1 hl hj
  rw [hq1] at h
  by_cases hq : q < L.length
  · have c3 : (q : Int) < L.length := by omega
    have q0 : (0 : Int) ≤ q := by omega
    have h5 := ins_at L q hq
    have l5 : q * 5 + 5 ≤ L.length * 5 := by omega
    have hlen := ins_len L
    by_cases d1 : 25 ≤ L[q].op ∧ L[q].op ≤ 27
    · obtain ⟨d1, d2⟩ := d1
      generalize chk L = z at *
      generalize L[q] = ins at *
      clear hin hpre
      generalize L.flatMap Ins.c = cl at *
      generalize L.length = n at *
      rw [acall_go (body := b_fuglemanlaw14_VerifyBehind) rfl rfl (Nat.zero_le _)]
      rcases hdd with rfl | rfl <;> simp -implicitDefEqProofs only [eqs, eqd, aCall, Sym.reach, Sym.pos, Sym.sub, ↓reduceIte, reduceCtorEq, Nat.reduceEqDiff, Nat.reduceAdd, Nat.reduceSub, Nat.reduceMul, Nat.reduceLT, Nat.reduceLeDiff, Nat.reduceBEq, Nat.reduceBNe, Nat.reduceGT, Int.reduceEq, Int.reduceLT, Int.reduceLE, Int.reduceToNat, Int.reduceAdd, Int.reduceSub, Int.reduceMul, Int.reduceNeg, Int.reduceBEq, Int.reduceBNe, b_fuglemanlaw14_VerifyBehind, g_fuglemanlaw14_VerifyBehind_0, Ins.c, awake_a, c1, c2, c3, q0, h5, l5, hlen, d1, d2, h, he', Int.toNat_natCast]
    · have hl : jmp L[q] = false := by
        unfold jmp
        cases e1 : decide (25 ≤ L[q].op)
        · rfl
        · have := of_decide_eq_true e1
          have h27 : ¬ L[q].op ≤ 27 := fun h => d1 ⟨this, h⟩
          simp [h27]
      obtain ⟨d2, e1, e2⟩ := check_any (L.take (q + 1)) (fun i hi => by rw [List.getElem_take]; exact hin i _)
      have t1 := ins_take L (q + 1)
      have t2 := ins_take L q
      have tl1 : (L.take (q + 1)).length = q + 1 := by rw [List.length_take]; omega
      have tl2 : (L.take q).length = q := by rw [List.length_take]; omega
      rw [tl1, ← t1] at e2
      have s1 : q + 1 ≤ L.length := hq
      have w1 : IntKind.i64.wrap ((q : Int) + 1) = ((q + 1 : Nat) : Int) := by rw [w64 (by omega) (by omega)]; omega
      have q1 : (0 : Int) ≤ ((q + 1 : Nat) : Int) := by omega
      have lp : ∀ (ks : List It) (s : St), Lp (acall T 299) 299 [5, 6, 8, 9, 10, 65, 66, 67] l_fuglemanlaw14_VerifyBehind_0 299 ks s = Lh (acall T 299) 299 (canon [5, 6, 8, 9, 10, 65, 66, 67] s) [5, 6, 8, 9, 10, 65, 66, 67] l_fuglemanlaw14_VerifyBehind_0 298 ks := fun ks s => lp_succ (n := 298)
      have key := w0_run (acall T 299) 299 (chk L).1 (chk (L.take (q + 1))).1 (chk (L.take (q + 1))).2 q (by omega) (L.take q) (by omega) (fun ho => by rw [hpre hq hl ho]; exact ⟨rfl, hq1⟩) q 0 298 false (by omega) (by omega) (fun _ => by rw [List.take_zero]; rfl)
      unfold w0fin w0st w0live at key
      rw [tl2, ← t2] at key
      have hdd2 : d2 = 0 ∨ d2 = 1 := by omega
      clear hpre hin t1 t2
      rw [acall_go (body := b_fuglemanlaw14_VerifyBehind) rfl rfl (Nat.zero_le _), ← key]
      clear key
      generalize chk L = z at *
      generalize chk (L.take (q + 1)) = z2 at *
      have dd : (25 ≤ L[q].op ∧ ¬ L[q].op ≤ 27) ∨ ¬ 25 ≤ L[q].op := by omega
      generalize L[q] = ins at *
      clear tl1 tl2
      generalize L.flatMap Ins.c = cl at *
      generalize L.length = n at *
      generalize hQ : q + 1 = Q at *
      rcases hdd with rfl | rfl
      · rcases hdd2 with rfl | rfl
        · rcases dd with ⟨d3, d4⟩ | d3
          · simp -implicitDefEqProofs only [eqs, eqd, aCall, Sym.reach, Sym.pos, Sym.sub, ↓reduceIte, reduceCtorEq, Nat.reduceEqDiff, Nat.reduceAdd, Nat.reduceSub, Nat.reduceMul, Nat.reduceLT, Nat.reduceLeDiff, Nat.reduceBEq, Nat.reduceBNe, Nat.reduceGT, Int.reduceEq, Int.reduceLT, Int.reduceLE, Int.reduceToNat, Int.reduceAdd, Int.reduceSub, Int.reduceMul, Int.reduceNeg, Int.reduceBEq, Int.reduceBNe, b_fuglemanlaw14_VerifyBehind, g_fuglemanlaw14_VerifyBehind_0, Ins.c, awake_a, c1, c2, c3, q0, q1, h5, l5, hlen, h, e2, he', s1, hq2, w1, lp, Int.toNat_natCast, d3, d4]
          · simp -implicitDefEqProofs only [eqs, eqd, aCall, Sym.reach, Sym.pos, Sym.sub, ↓reduceIte, reduceCtorEq, Nat.reduceEqDiff, Nat.reduceAdd, Nat.reduceSub, Nat.reduceMul, Nat.reduceLT, Nat.reduceLeDiff, Nat.reduceBEq, Nat.reduceBNe, Nat.reduceGT, Int.reduceEq, Int.reduceLT, Int.reduceLE, Int.reduceToNat, Int.reduceAdd, Int.reduceSub, Int.reduceMul, Int.reduceNeg, Int.reduceBEq, Int.reduceBNe, b_fuglemanlaw14_VerifyBehind, g_fuglemanlaw14_VerifyBehind_0, Ins.c, awake_a, c1, c2, c3, q0, q1, h5, l5, hlen, h, e2, he', s1, hq2, w1, lp, Int.toNat_natCast, d3]
        · rcases dd with ⟨d3, d4⟩ | d3
          · simp -implicitDefEqProofs only [eqs, eqd, aCall, Sym.reach, Sym.pos, Sym.sub, ↓reduceIte, reduceCtorEq, Nat.reduceEqDiff, Nat.reduceAdd, Nat.reduceSub, Nat.reduceMul, Nat.reduceLT, Nat.reduceLeDiff, Nat.reduceBEq, Nat.reduceBNe, Nat.reduceGT, Int.reduceEq, Int.reduceLT, Int.reduceLE, Int.reduceToNat, Int.reduceAdd, Int.reduceSub, Int.reduceMul, Int.reduceNeg, Int.reduceBEq, Int.reduceBNe, b_fuglemanlaw14_VerifyBehind, g_fuglemanlaw14_VerifyBehind_0, Ins.c, awake_a, c1, c2, c3, q0, q1, h5, l5, hlen, h, e2, he', s1, hq2, w1, lp, Int.toNat_natCast, d3, d4]
          · simp -implicitDefEqProofs only [eqs, eqd, aCall, Sym.reach, Sym.pos, Sym.sub, ↓reduceIte, reduceCtorEq, Nat.reduceEqDiff, Nat.reduceAdd, Nat.reduceSub, Nat.reduceMul, Nat.reduceLT, Nat.reduceLeDiff, Nat.reduceBEq, Nat.reduceBNe, Nat.reduceGT, Int.reduceEq, Int.reduceLT, Int.reduceLE, Int.reduceToNat, Int.reduceAdd, Int.reduceSub, Int.reduceMul, Int.reduceNeg, Int.reduceBEq, Int.reduceBNe, b_fuglemanlaw14_VerifyBehind, g_fuglemanlaw14_VerifyBehind_0, Ins.c, awake_a, c1, c2, c3, q0, q1, h5, l5, hlen, h, e2, he', s1, hq2, w1, lp, Int.toNat_natCast, d3]
      · rcases hdd2 with rfl | rfl
        · rcases dd with ⟨d3, d4⟩ | d3
          · simp -implicitDefEqProofs only [eqs, eqd, aCall, Sym.reach, Sym.pos, Sym.sub, ↓reduceIte, reduceCtorEq, Nat.reduceEqDiff, Nat.reduceAdd, Nat.reduceSub, Nat.reduceMul, Nat.reduceLT, Nat.reduceLeDiff, Nat.reduceBEq, Nat.reduceBNe, Nat.reduceGT, Int.reduceEq, Int.reduceLT, Int.reduceLE, Int.reduceToNat, Int.reduceAdd, Int.reduceSub, Int.reduceMul, Int.reduceNeg, Int.reduceBEq, Int.reduceBNe, b_fuglemanlaw14_VerifyBehind, g_fuglemanlaw14_VerifyBehind_0, Ins.c, awake_a, c1, c2, c3, q0, q1, h5, l5, hlen, h, e2, he', s1, hq2, w1, lp, Int.toNat_natCast, d3, d4]
          · simp -implicitDefEqProofs only [eqs, eqd, aCall, Sym.reach, Sym.pos, Sym.sub, ↓reduceIte, reduceCtorEq, Nat.reduceEqDiff, Nat.reduceAdd, Nat.reduceSub, Nat.reduceMul, Nat.reduceLT, Nat.reduceLeDiff, Nat.reduceBEq, Nat.reduceBNe, Nat.reduceGT, Int.reduceEq, Int.reduceLT, Int.reduceLE, Int.reduceToNat, Int.reduceAdd, Int.reduceSub, Int.reduceMul, Int.reduceNeg, Int.reduceBEq, Int.reduceBNe, b_fuglemanlaw14_VerifyBehind, g_fuglemanlaw14_VerifyBehind_0, Ins.c, awake_a, c1, c2, c3, q0, q1, h5, l5, hlen, h, e2, he', s1, hq2, w1, lp, Int.toNat_natCast, d3]
        · rcases dd with ⟨d3, d4⟩ | d3
          · simp -implicitDefEqProofs only [eqs, eqd, aCall, Sym.reach, Sym.pos, Sym.sub, ↓reduceIte, reduceCtorEq, Nat.reduceEqDiff, Nat.reduceAdd, Nat.reduceSub, Nat.reduceMul, Nat.reduceLT, Nat.reduceLeDiff, Nat.reduceBEq, Nat.reduceBNe, Nat.reduceGT, Int.reduceEq, Int.reduceLT, Int.reduceLE, Int.reduceToNat, Int.reduceAdd, Int.reduceSub, Int.reduceMul, Int.reduceNeg, Int.reduceBEq, Int.reduceBNe, b_fuglemanlaw14_VerifyBehind, g_fuglemanlaw14_VerifyBehind_0, Ins.c, awake_a, c1, c2, c3, q0, q1, h5, l5, hlen, h, e2, he', s1, hq2, w1, lp, Int.toNat_natCast, d3, d4]
          · simp -implicitDefEqProofs only [eqs, eqd, aCall, Sym.reach, Sym.pos, Sym.sub, ↓reduceIte, reduceCtorEq, Nat.reduceEqDiff, Nat.reduceAdd, Nat.reduceSub, Nat.reduceMul, Nat.reduceLT, Nat.reduceLeDiff, Nat.reduceBEq, Nat.reduceBNe, Nat.reduceGT, Int.reduceEq, Int.reduceLT, Int.reduceLE, Int.reduceToNat, Int.reduceAdd, Int.reduceSub, Int.reduceMul, Int.reduceNeg, Int.reduceBEq, Int.reduceBNe, b_fuglemanlaw14_VerifyBehind, g_fuglemanlaw14_VerifyBehind_0, Ins.c, awake_a, c1, c2, c3, q0, q1, h5, l5, hlen, h, e2, he', s1, hq2, w1, lp, Int.toNat_natCast, d3]
  · have c3 : ¬ (q : Int) < L.length := by omega
    clear hpre hin
    generalize chk L = z at *
    generalize L.flatMap Ins.c = cl at *
    generalize L.length = n at *
    rw [acall_go (body := b_fuglemanlaw14_VerifyBehind) rfl rfl (Nat.zero_le _)]
    rcases hdd with rfl | rfl
    · simp -implicitDefEqProofs only [eqs, eqd, aCall, Sym.reach, Sym.pos, Sym.sub, ↓reduceIte, reduceCtorEq, Nat.reduceEqDiff, Nat.reduceAdd, Nat.reduceSub, Nat.reduceMul, Nat.reduceLT, Nat.reduceLeDiff, Nat.reduceBEq, Nat.reduceBNe, Nat.reduceGT, Int.reduceEq, Int.reduceLT, Int.reduceLE, Int.reduceToNat, Int.reduceAdd, Int.reduceSub, Int.reduceMul, Int.reduceNeg, Int.reduceBEq, Int.reduceBNe, b_fuglemanlaw14_VerifyBehind, g_fuglemanlaw14_VerifyBehind_0, l_fuglemanlaw14_VerifyBehind_2, awake_a, c1, c2, c3, h, he', Int.toNat_natCast]
    · simp -implicitDefEqProofs only [eqs, eqd, aCall, Sym.reach, Sym.pos, Sym.sub, ↓reduceIte, reduceCtorEq, Nat.reduceEqDiff, Nat.reduceAdd, Nat.reduceSub, Nat.reduceMul, Nat.reduceLT, Nat.reduceLeDiff, Nat.reduceBEq, Nat.reduceBNe, Nat.reduceGT, Int.reduceEq, Int.reduceLT, Int.reduceLE, Int.reduceToNat, Int.reduceAdd, Int.reduceSub, Int.reduceMul, Int.reduceNeg, Int.reduceBEq, Int.reduceBNe, b_fuglemanlaw14_VerifyBehind, g_fuglemanlaw14_VerifyBehind_0, l_fuglemanlaw14_VerifyBehind_2, awake_a, c1, c2, c3, h, he', Int.toNat_natCast]
theorem VerifyBehind : ∀ (a0 : List (S37)) (a1 : List (S37)), (a0.length ≤ 140737488351232 ∧ ∀ (i0 : Nat) x0, a0[i0]? = some x0 → S37.In x0) → (a1.length ≤ 140737488351232 ∧ ∀ (i0 : Nat) x0, a1[i0]? = some x0 → S37.In x0) → ∃ ob d, acall T 300 4 0 [.shr a0.length false (a0.flatMap S37.av), .shr a1.length false (a1.flatMap S37.av)] [] = some ⟨.v (.bool true), ob, d⟩ := fun a0 a1 ⟨_, h⟩ ⟨_, g⟩ => by
  have hin := toID_in h
  have gin := toID_in g
  refine ⟨[], 1, ?_⟩
  rw [toID_c, toID_c, show a0.length = (a0.map toID).length by simp, show a1.length = (a1.map toID).length by simp]
  generalize a0.map toID = L at hin
  generalize a1.map toID = M at gin
  by_cases c : (100 : Int) < L.length
  · rw [acall_go (body := b_fuglemanlaw14_VerifyBehind) rfl rfl (Nat.zero_le _)]
    simp -implicitDefEqProofs only [eqs, eqd, aCall, Sym.reach, Sym.pos, Sym.sub, ↓reduceIte, reduceCtorEq, Nat.reduceEqDiff, Nat.reduceAdd, Nat.reduceSub, Nat.reduceMul, Nat.reduceLT, Nat.reduceLeDiff, Nat.reduceBEq, Nat.reduceBNe, Nat.reduceGT, Int.reduceEq, Int.reduceLT, Int.reduceLE, Int.reduceToNat, Int.reduceAdd, Int.reduceSub, Int.reduceMul, Int.reduceNeg, Int.reduceBEq, Int.reduceBNe, b_fuglemanlaw14_VerifyBehind, g_fuglemanlaw14_VerifyBehind_0, awake_a, c]
  by_cases c2 : (90 : Int) < M.length
  · rw [acall_go (body := b_fuglemanlaw14_VerifyBehind) rfl rfl (Nat.zero_le _)]
    simp -implicitDefEqProofs only [eqs, eqd, aCall, Sym.reach, Sym.pos, Sym.sub, ↓reduceIte, reduceCtorEq, Nat.reduceEqDiff, Nat.reduceAdd, Nat.reduceSub, Nat.reduceMul, Nat.reduceLT, Nat.reduceLeDiff, Nat.reduceBEq, Nat.reduceBNe, Nat.reduceGT, Int.reduceEq, Int.reduceLT, Int.reduceLE, Int.reduceToNat, Int.reduceAdd, Int.reduceSub, Int.reduceMul, Int.reduceNeg, Int.reduceBEq, Int.reduceBNe, b_fuglemanlaw14_VerifyBehind, g_fuglemanlaw14_VerifyBehind_0, awake_a, c, c2]
  obtain ⟨d, h1, h2⟩ := check_any L hin
  by_cases he : (chk L).1 = 0
  · have hz : chk L = (0, 0) := by
      unfold chk at he ⊢
      rw [if_neg (show ¬ 200 < L.length by omega)] at he ⊢
      by_cases c : (run L L.length 0 (t00 L.length)).1 = 0
      · rw [if_pos c]
      · rw [if_neg c] at he
        exact absurd he c
    rw [hz] at h2
    exact vd_b L M (by omega) (by omega) hin gin d h1 hz h2
  · exact vd_a L (M.flatMap Ins.c) M.length (by omega) (by omega) hin d h1 he h2
end Go.Proofs.Ytlefnekfeeihaaa.Said
