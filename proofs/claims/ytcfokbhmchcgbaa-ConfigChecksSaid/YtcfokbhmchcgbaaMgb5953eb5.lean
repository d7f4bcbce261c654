/- The program's all: each round is a step. -/
import Derived.Test.YtcfokbhmchcgbaaMg14125274
import Derived.Test.YtcfokbhmchcgbaaMg237239c0
import Derived.Test.YtcfokbhmchcgbaaMg0feb04be
import Derived.Test.YtcfokbhmchcgbaaMg9e06b295
namespace Go.Proofs.Ytcfokbhmchcgbaa.Ver
open Go Go.Proofs.Ytcfokbhmchcgbaa.Sym Go.Proofs.Ytcfokbhmchcgbaa.Tab
set_option linter.unusedVariables false
set_option linter.unusedSimpArgs false
set_option maxHeartbeats 4000000
theorem all_step (k lf : Nat) (L : List Ins) (hL : L.length ≤ 200) (t : List (Option Ah)) (ht : AllIn t) (hlen : t.length = L.length + 1) (i : Nat) (hi : i < L.length) (hin : L[i].In) (N : Nat) :
    ((stp L.length i t L[i]).1 = 0 → pfin k lf L t i (N + 1) = pfin k lf L (stp L.length i t L[i]).2 (i + 1) N ∧ AllIn (stp L.length i t L[i]).2 ∧ (stp L.length i t L[i]).2.length = L.length + 1) ∧
    ((stp L.length i t L[i]).1 ≠ 0 → pfin k lf L t i (N + 1) = some ⟨.tup [.v (.slice none 0 0), .v (.int .i64 (stp L.length i t L[i]).1), .v (.int .i64 i)], [], 1⟩) := by
  unfold stp
  by_cases hr : right L[i] = false
  · rw [if_pos hr]
    exact ⟨fun h => absurd h (by simp), fun _ => all_bad k lf L hL t hlen i hi hin hr (N + 1)⟩
  rw [if_neg hr]
  have hr : right L[i] = true := by simpa using hr
  have hop := right_op hr
  have hx : t[i]? = some t[i] := List.getElem?_eq_getElem (by omega)
  rw [hx]
  generalize hxx : t[i] = x at hx
  cases x with
  | none => exact ⟨fun _ => ⟨congrArg _ (all_skip k lf L hL t hlen i hi hin hr hx N _), ht, hlen⟩, fun h => absurd rfl h⟩
  | some a =>
    have ha := ht i a hx
    simp only
    by_cases hj : jmp L[i] = true ∧ ¬ ((i : Int) < L[i].at_ ∧ L[i].at_ ≤ L.length)
    · rw [if_pos hj]
      have hjo : 25 ≤ L[i].op ∧ L[i].op ≤ 27 := by have := hj.1; unfold jmp at this; simpa using this
      exact ⟨fun h => absurd h (by simp), fun _ => all_jump k lf L hL t hlen i hi hr a hx hj.1 hj.2 (N + 1)⟩
    rw [if_neg hj]
    have hj' : 25 ≤ L[i].op ∧ L[i].op ≤ 27 → (i : Int) < L[i].at_ ∧ L[i].at_ ≤ L.length := fun h => by
      refine Classical.byContradiction fun hc => hj ⟨?_, hc⟩
      unfold jmp
      simp [h.1, h.2]
    have hok : okJ L.length i L[i] := fun h => hj' (by unfold jmp at h; simpa using h)
    have hb := beh_a (k + 11) a L[i] ha.1 hop
    by_cases he : (beh a L[i]).2 ≠ 0
    · rw [if_pos he]
      exact ⟨fun h => absurd h he, fun _ => all_err k lf L hL t hlen i hi hr a hx hok _ _ he hb (N + 1)⟩
    rw [if_neg he]
    have he : (beh a L[i]).2 = 0 := by simpa using he
    have hbin := beh_in ha L[i] he
    rw [he] at hb
    generalize (beh a L[i]).1 = b at *
    unfold lead2
    have fin : ∀ {r : List (Option Ah) × Bool}, (r.2 = true → pfin k lf L t i (N + 1) = pfin k lf L r.1 (i + 1) N ∧ AllIn r.1 ∧ r.1.length = L.length + 1) → (r.2 = false → pfin k lf L t i (N + 1) = some ⟨.tup [.v (.slice none 0 0), .v (.int .i64 7), .v (.int .i64 i)], [], 1⟩) →
        ((if r.2 = true then ((0 : Int), r.1) else (7, t)).1 = 0 → pfin k lf L t i (N + 1) = pfin k lf L (if r.2 = true then ((0 : Int), r.1) else (7, t)).2 (i + 1) N ∧ AllIn (if r.2 = true then ((0 : Int), r.1) else (7, t)).2 ∧ (if r.2 = true then ((0 : Int), r.1) else (7, t)).2.length = L.length + 1) ∧
        ((if r.2 = true then ((0 : Int), r.1) else (7, t)).1 ≠ 0 → pfin k lf L t i (N + 1) = some ⟨.tup [.v (.slice none 0 0), .v (.int .i64 (if r.2 = true then ((0 : Int), r.1) else (7, t)).1), .v (.int .i64 i)], [], 1⟩) := fun {r} h1 h2 => by
      obtain ⟨r1, r2⟩ := r
      cases r2
      · exact ⟨fun h => absurd h (by simp), fun _ => h2 rfl⟩
      · exact ⟨fun _ => h1 rfl, fun h => absurd rfl h⟩
    by_cases o25 : L[i].op = 25
    · have on : onI L[i] = false := by unfold onI; rw [o25]; rfl
      have jm : jmp L[i] = true := by unfold jmp; rw [o25]; rfl
      obtain ⟨j1, j2⟩ := hj' (by omega)
      obtain ⟨J, hJ⟩ : ∃ J : Nat, L[i].at_ = J := ⟨L[i].at_.toNat, by omega⟩
      obtain ⟨key, key2⟩ := all_to k lf L hL t ht hlen i hi hr a hx b hbin.1 on jm J hJ (by omega) hb N
      simp only [on, jm, hJ, Bool.false_eq_true, if_false, if_true, and_self, Int.toNat_natCast]
      exact fin (fun h => ⟨key h, ht.lead1 hbin, by rw [lead1_len, hlen]⟩) key2
    by_cases o28 : L[i].op = 28
    · have on : onI L[i] = false := by unfold onI; rw [o28]; rfl
      have jm : jmp L[i] = false := by unfold jmp; rw [o28]; rfl
      simp only [on, jm, Bool.false_eq_true, if_false, and_false]
      exact fin (r := (t, true)) (fun _ => ⟨all_end k lf L hL t ht hlen i hi hr a hx b hbin.1 on jm hb N, ht, hlen⟩) (fun h => by cases h)
    have on : onI L[i] = true := by unfold onI; simp [o25, o28]
    by_cases o67 : L[i].op = 26 ∨ L[i].op = 27
    · have jm : jmp L[i] = true := by unfold jmp; rcases o67 with h | h <;> rw [h] <;> rfl
      obtain ⟨j1, j2⟩ := hj' (by omega)
      obtain ⟨J, hJ⟩ : ∃ J : Nat, L[i].at_ = J := ⟨L[i].at_.toNat, by omega⟩
      obtain ⟨key, key21, key22⟩ := all_both k lf L hL t ht hlen i hi hr a hx b hbin on jm J hJ (by omega) hb N
      simp only [on, jm, hJ, if_true, and_true, Int.toNat_natCast]
      by_cases q : (lead1 t (i + 1) b).2 = true
      · simp only [q, if_true]
        exact fin (fun h => ⟨key q h, (ht.lead1 hbin).lead1 hbin, by rw [lead1_len, lead1_len, hlen]⟩) (fun h => key21 q h)
      · have q' : (lead1 t (i + 1) b).2 = false := by simpa using q
        rw [if_neg q]
        exact fin (fun h => absurd h q) (fun _ => key22 q')
    · have jm : jmp L[i] = false := by
        unfold jmp
        cases h1 : decide (25 ≤ L[i].op)
        · rfl
        · have : ¬ L[i].op ≤ 27 := by have := of_decide_eq_true h1; omega
          simp [this]
      obtain ⟨key, key2⟩ := all_on k lf L hL t ht hlen i hi hr a hx b hbin.1 on jm hb N
      simp only [on, jm, Bool.false_eq_true, if_true, if_false, and_false]
      exact fin (fun h => ⟨key h, ht.lead1 hbin, by rw [lead1_len, hlen]⟩) key2
end Go.Proofs.Ytcfokbhmchcgbaa.Ver

/- The program's all. -/
namespace Go.Proofs.Ytcfokbhmchcgbaa.Ver
open Go Go.Proofs.Ytcfokbhmchcgbaa.Sym Go.Proofs.Ytcfokbhmchcgbaa.Tab
set_option linter.unusedVariables false
set_option linter.unusedSimpArgs false
set_option maxHeartbeats 4000000
set_option maxRecDepth 20000
def pres (n : Nat) (r : Int × Int × List (Option Ah)) : Res := if r.1 = 0 then ⟨.tup [.view 0 0 (n + 1) 1 (some (n + 1)), .v (.int .i64 0), .v (.int .i64 0)], canT r.2.2 true, 1⟩ else ⟨.tup [.v (.slice none 0 0), .v (.int .i64 r.1), .v (.int .i64 r.2.1)], [], 1⟩
theorem all_fin (k lf : Nat) (L : List Ins) (hL : L.length ≤ 200) (t : List (Option Ah)) (hA : AllIn t) (hlen : t.length = L.length + 1) (N : Nat) : pfin k lf L t L.length N = some (pres L.length ((endE L.length t).1, (endE L.length t).2, t)) := by
  have c1 : ¬ (L.length : Int) < L.length := by omega
  have c0 : (0 : Int) ≤ L.length := by omega
  have c2 : (L.length : Int) < ((L.length + 1 : Nat) : Int) := by omega
  have hx : t[L.length]? = some t[L.length] := List.getElem?_eq_getElem (by omega)
  have hs := som_le t
  have htl := tcl_len (List.range' 1 (som t).length) t
  rw [hlen] at htl
  have m1 := more_reach t (by omega) []
  have m2 := more_sub t (by omega) []
  have m3 := more_tab t []
  rw [List.append_nil] at m1 m2 m3
  have l1 : L.length + 1 ≤ L.length + 1 := Nat.le_refl _
  unfold pfin pst penv plive endE
  rw [hx, lh_as l_verify_all_0.eq_1]
  generalize t[L.length] = x at *
  cases x with
  | none =>
    have ht := tcl_none (List.range' 1 (som t).length) t _ hx
    unfold pres
    simp only [if_true]
    generalize hM : L.length + 1 = M at *
    generalize canT t true = W at *
    generalize tcl (List.range' 1 (som t).length) t = tc at *
    generalize List.range' 1 (som t).length = ps at *
    simp -implicitDefEqProofs only [eqs, eqd, aCall, Sym.pos, ↓reduceIte, reduceCtorEq, Nat.reduceEqDiff, Nat.reduceAdd, Nat.reduceSub, Nat.reduceMul, Nat.reduceLT, Nat.reduceLeDiff, Nat.reduceBEq, Nat.reduceBNe, Nat.reduceGT, Int.reduceEq, Int.reduceLT, Int.reduceLE, Int.reduceToNat, Int.reduceAdd, Int.reduceSub, Int.reduceMul, Int.reduceNeg, Int.reduceBEq, Int.reduceBNe, l_verify_all_1, nilp, c0, c1, c2, l1, ht, htl, m1, m2, m3, Int.toNat_natCast, r0, s0]
  | some a =>
    obtain ⟨p, hp, ht, hso⟩ := tcl_some (List.range' 1 (som t).length) t _ a (by simp) hx
    have m4 := more_obj t (by omega) hp hso []
    rw [List.append_nil] at m4
    have hn := (hA _ a hx).1.nil
    clear hp hso
    obtain ⟨ak, an, bs⟩ := a
    simp only at hn
    by_cases c : bs = []
    · subst c
      unfold pres
      simp only [if_true]
      generalize hM : L.length + 1 = M at *
      generalize canT t true = W at *
      generalize tcl (List.range' 1 (som t).length) t = tc at *
      generalize List.range' 1 (som t).length = ps at *
      cases an <;> simp only [Ah.c, openA, Bool.false_eq_true, if_false, if_true] at m4 <;>
      simp -implicitDefEqProofs only [eqs, eqd, aCall, Sym.pos, ↓reduceIte, reduceCtorEq, Nat.reduceEqDiff, Nat.reduceAdd, Nat.reduceSub, Nat.reduceMul, Nat.reduceLT, Nat.reduceLeDiff, Nat.reduceBEq, Nat.reduceBNe, Nat.reduceGT, Int.reduceEq, Int.reduceLT, Int.reduceLE, Int.reduceToNat, Int.reduceAdd, Int.reduceSub, Int.reduceMul, Int.reduceNeg, Int.reduceBEq, Int.reduceBNe, l_verify_all_1, nilp, c0, c1, c2, l1, ht, htl, m1, m2, m3, m4, Int.toNat_natCast, r0, s0]
    · have h0 : (0 : Int) < bs.length := by have := List.length_pos_iff.2 c; omega
      have an0 : an = false := by cases an; rfl; exact absurd (hn rfl) c
      subst an0
      simp only [c, if_false]
      unfold pres
      rw [if_neg (by simp)]
      generalize hM : L.length + 1 = M at *
      generalize canT t true = W at *
      generalize tcl (List.range' 1 (som t).length) t = tc at *
      generalize List.range' 1 (som t).length = ps at *
      simp only [Ah.c, openA, Bool.false_eq_true, if_false, if_true] at m4
      simp -implicitDefEqProofs only [eqs, eqd, aCall, Sym.pos, ↓reduceIte, reduceCtorEq, Nat.reduceEqDiff, Nat.reduceAdd, Nat.reduceSub, Nat.reduceMul, Nat.reduceLT, Nat.reduceLeDiff, Nat.reduceBEq, Nat.reduceBNe, Nat.reduceGT, Int.reduceEq, Int.reduceLT, Int.reduceLE, Int.reduceToNat, Int.reduceAdd, Int.reduceSub, Int.reduceMul, Int.reduceNeg, Int.reduceBEq, Int.reduceBNe, l_verify_all_1, nilp, c0, c1, c2, l1, ht, htl, h0, m3, m4, Int.toNat_natCast, r0, s0]
theorem all_run (k lf : Nat) (L : List Ins) (hL : L.length ≤ 200) (hin : ∀ (i : Nat) (h : i < L.length), L[i].In) : ∀ (m i N : Nat) (t : List (Option Ah)), i + m = L.length → m ≤ N → AllIn t → t.length = L.length + 1 → pfin k lf L t i N = some (pres L.length (run L m i t))
  | 0, i, N, t, hi, hN, ht, hlen => by
    obtain rfl : i = L.length := by omega
    exact all_fin k lf L hL t ht hlen N
  | m + 1, i, N, t, hi, hN, ht, hlen => by
    obtain ⟨N, rfl⟩ : ∃ M, N = M + 1 := ⟨N - 1, by omega⟩
    have h : i < L.length := by omega
    obtain ⟨h1, h2⟩ := all_step k lf L hL t ht hlen i h (hin i h) N
    rw [run, dif_pos h]
    by_cases c : (stp L.length i t L[i]).1 = 0
    · rw [if_pos c]
      obtain ⟨e, a1, a2⟩ := h1 c
      rw [e]
      exact all_run k lf L hL hin m (i + 1) N _ (by omega) (by omega) a1 a2
    · rw [if_neg c, h2 c]
      unfold pres
      rw [if_neg c]
end Go.Proofs.Ytcfokbhmchcgbaa.Ver

/- The program's all, from its beginning. -/
namespace Go.Proofs.Ytcfokbhmchcgbaa.Ver
open Go Go.Proofs.Ytcfokbhmchcgbaa.Sym Go.Proofs.Ytcfokbhmchcgbaa.Tab
set_option linter.unusedVariables false
set_option linter.unusedSimpArgs false
set_option maxHeartbeats 4000000
set_option maxRecDepth 20000
theorem all_long (k : Nat) (L : List Ins) (hL : 200 < L.length) : acall T (k + 17) 53 0 [.shr L.length false (L.flatMap Ins.c)] [] = some ⟨.tup [.v (.slice none 0 0), .v (.int .i64 2), .v (.int .i64 200)], [], 0⟩ := by
  rw [acall_go (body := b_verify_all) rfl rfl (Nat.zero_le _)]
  have c : (200 : Int) < L.length := by omega
  simp -implicitDefEqProofs only [eqs, eqd, eqe, ↓reduceIte, reduceCtorEq, Nat.reduceEqDiff, Nat.reduceAdd, Nat.reduceSub, Nat.reduceMul, Nat.reduceLT, Nat.reduceLeDiff, Nat.reduceBEq, Nat.reduceBNe, Nat.reduceGT, Int.reduceEq, Int.reduceLT, Int.reduceLE, Int.reduceToNat, Int.reduceAdd, Int.reduceSub, Int.reduceMul, Int.reduceNeg, Int.reduceBEq, Int.reduceBNe, b_verify_all, c]
theorem tcl_rep : ∀ (n : Nat) (ps : List Nat), tcl ps (List.replicate n none) = List.replicate n nilp
  | 0, ps => by rw [List.replicate_zero, tcl, List.replicate_zero]
  | n + 1, ps => by rw [List.replicate_succ, tcl, tcl_rep n ps, List.replicate_succ]
theorem som_00 (n : Nat) : som (t00 n) = [⟨0, true, []⟩] := by
  unfold t00 som
  rw [List.filterMap_cons]
  simp
theorem canT_00 (n : Nat) : canT (t00 n) true = [⟨true, true, false, (List.replicate (n + 1) nilp).set 0 (.ptr 1 0)⟩, ⟨true, true, true, [.v (.int .i64 0), .v (.slice none 0 0)]⟩] := by
  unfold canT
  rw [som_00]
  have : tcl [1] (t00 n) = (List.replicate (n + 1) nilp).set 0 (.ptr 1 0) := by
    unfold t00
    rw [tcl, tcl_rep, List.replicate_succ]
    rfl
  show (⟨true, true, false, tcl [1] (t00 n)⟩ : Sym.Obj) :: _ = _
  rw [this]
  rfl
theorem all_a (k : Nat) (hk : 200 ≤ k) (L : List Ins) (hL : L.length ≤ 200) (hin : ∀ (i : Nat) (h : i < L.length), L[i].In) : acall T (k + 17) 53 0 [.shr L.length false (L.flatMap Ins.c)] [] = some (pres L.length (run L L.length 0 (t00 L.length))) := by
  rw [acall_go (body := b_verify_all) rfl rfl (Nat.zero_le _)]
  have c : ¬ (200 : Int) < L.length := by omega
  have w : IntKind.i64.wrap ((L.length : Int) + 1) = ((L.length + 1 : Nat) : Int) := by rw [w64 (by omega) (by omega)]; omega
  have h := all_run k (k + 16) L hL hin L.length 0 (k + 15) (t00 L.length) (by omega) (by omega) (t00_in _) (t00_len _)
  have lp : ∀ (ks : List It) (s : St), Lp (acall T (k + 16)) (k + 16) [0, 5, 22, 23, 24] l_verify_all_0 (k + 16) ks s = Lh (acall T (k + 16)) (k + 16) (canon [0, 5, 22, 23, 24] s) [0, 5, 22, 23, 24] l_verify_all_0 (k + 15) ks := fun ks s => lp_succ (n := k + 15)
  have n1 : (0 : Int) ≤ ((L.length + 1 : Nat) : Int) := by omega
  have n2 : ((L.length + 1 : Nat) : Int) ≤ ((L.length + 1 : Nat) : Int) := Int.le_refl _
  have n3 : (L.length + 1) * 8 ≤ 140737488355328 := by omega
  have n4 : L.length + 1 ≤ 9223372036854775807 := by omega
  have n5 : (0 : Int) < ((L.length + 1 : Nat) : Int) := by omega
  have n6 : 1 ≤ L.length + 1 := by omega
  have hT := canT_has (t00 L.length) true (by rw [som_00]; decide)
  have q1 := hT.reach
  have q2 := hT.sub true (fun _ => rfl)
  rw [Bool.and_true] at q2
  rw [som_00] at q1 q2
  rw [canT_00] at q1 q2
  rw [← h]
  unfold pfin pst penv plive
  rw [canT_00]
  clear h hT
  simp only [List.length_singleton, List.range'_one, nilp] at q1 q2
  generalize hM : L.length + 1 = M at *
  simp -implicitDefEqProofs only [eqs, eqd, aCall, Sym.pos, ↓reduceIte, reduceCtorEq, Nat.reduceEqDiff, Nat.reduceAdd, Nat.reduceSub, Nat.reduceMul, Nat.reduceLT, Nat.reduceLeDiff, Nat.reduceBEq, Nat.reduceBNe, Nat.reduceGT, Int.reduceEq, Int.reduceLT, Int.reduceLE, Int.reduceToNat, Int.reduceAdd, Int.reduceSub, Int.reduceMul, Int.reduceNeg, Int.reduceBEq, Int.reduceBNe, b_verify_all, c, w, r0, s0, q1, q2, n1, n2, n3, n4, n5, n6, nilp, lp, Int.toNat_natCast, Int.natCast_zero, List.length_replicate]
end Go.Proofs.Ytcfokbhmchcgbaa.Ver

/- Check, the program's. -/
namespace Go.Proofs.Ytcfokbhmchcgbaa.Ver
open Go Go.Proofs.Ytcfokbhmchcgbaa.Sym Go.Proofs.Ytcfokbhmchcgbaa.Tab
set_option linter.unusedVariables false
set_option linter.unusedSimpArgs false
set_option maxHeartbeats 4000000
set_option maxRecDepth 20000
theorem check_err (k : Nat) (y : AV) (e p : Int) (d : Nat) (hd : d ≤ 1) (x : AV) (hx : ∃ n cs, x = .shr n false cs ∧ cs.all atom = true ∧ cs.all flat0 = true) (h : acall T (k + 17) 53 0 [x] [] = some ⟨.tup [.v (.slice none 0 0), .v (.int .i64 e), .v (.int .i64 p)], [], d⟩) :
    ∃ d', acall T (k + 18) 38 0 [x] [] = some ⟨.tup [.v (.int .i64 e), .v (.int .i64 p)], [], d'⟩ ∧ d' ≤ 1 := by
  obtain ⟨n, cs, rfl, h1, h2⟩ := hx
  refine ⟨d, ?_, hd⟩
  rw [acall_go (body := b_verify_Check) rfl rfl (Nat.zero_le _)]
  have hdd : d = 0 ∨ d = 1 := by omega
  rcases hdd with rfl | rfl <;> simp -implicitDefEqProofs only [eqs, eqd, aCall, Sym.reach, Sym.pos, ↓reduceIte, reduceCtorEq, Nat.reduceEqDiff, Nat.reduceAdd, Nat.reduceSub, Nat.reduceMul, Nat.reduceLT, Nat.reduceLeDiff, Nat.reduceBEq, Nat.reduceBNe, Nat.reduceGT, Int.reduceEq, Int.reduceLT, Int.reduceLE, Int.reduceToNat, Int.reduceAdd, Int.reduceSub, Int.reduceMul, Int.reduceNeg, Int.reduceBEq, Int.reduceBNe, b_verify_Check, h, r0, s0]
theorem check_ok (k : Nat) (n M : Nat) (cs : List AV) (W : List Sym.Obj) (h : acall T (k + 17) 53 0 [.shr n false cs] [] = some ⟨.tup [.view 0 0 M 1 (some M), .v (.int .i64 0), .v (.int .i64 0)], W, 1⟩) :
    acall T (k + 18) 38 0 [.shr n false cs] [] = some ⟨.tup [.v (.int .i64 0), .v (.int .i64 0)], [], 1⟩ := by
  rw [acall_go (body := b_verify_Check) rfl rfl (Nat.zero_le _)]
  simp -implicitDefEqProofs only [eqs, eqd, aCall, Sym.pos, ↓reduceIte, reduceCtorEq, Nat.reduceEqDiff, Nat.reduceAdd, Nat.reduceSub, Nat.reduceMul, Nat.reduceLT, Nat.reduceLeDiff, Nat.reduceBEq, Nat.reduceBNe, Nat.reduceGT, Int.reduceEq, Int.reduceLT, Int.reduceLE, Int.reduceToNat, Int.reduceAdd, Int.reduceSub, Int.reduceMul, Int.reduceNeg, Int.reduceBEq, Int.reduceBNe, b_verify_Check, h, r0, s0]
end Go.Proofs.Ytcfokbhmchcgbaa.Ver

/- Check of a program, of both. -/
namespace Go.Proofs.Ytcfokbhmchcgbaa.Cfg
open Go Go.Proofs.Ytcfokbhmchcgbaa.Sym Go.Proofs.Ytcfokbhmchcgbaa.Tab Go.Proofs.Ytcfokbhmchcgbaa.Args
set_option linter.unusedVariables false
set_option linter.unusedSimpArgs false
set_option maxHeartbeats 4000000
set_option maxRecDepth 20000
def toV (v : Ins) : Ver.Ins := ⟨v.f0, v.f1, v.f2, v.f3, v.f4⟩
theorem toV_c (l : List Ins) : l.flatMap S54.av = (l.map toV).flatMap Ver.Ins.c := by
  rw [List.flatMap_map]
  rfl
theorem toV_in {l : List Ins} (h : ∀ (i0 : Nat) x0, l[i0]? = some x0 → S54.In x0) (i : Nat) (hi : i < (l.map toV).length) : ((l.map toV)[i]).In := by
  rw [List.getElem_map]
  have hl : i < l.length := by simpa using hi
  have := h i l[i] (List.getElem?_eq_getElem hl)
  exact ⟨this.1, this.2, this.3, this.4, this.5⟩
theorem vins_ok (L : List Ver.Ins) : ∃ n cs, AV.shr L.length false (L.flatMap Ver.Ins.c) = .shr n false cs ∧ cs.all atom = true ∧ cs.all flat0 = true := by
  refine ⟨_, _, rfl, ?_, ?_⟩
  · induction L with
    | nil => rfl
    | cons x L ih => rw [List.flatMap_cons, List.all_append, ih]; rfl
  · induction L with
    | nil => rfl
    | cons x L ih => rw [List.flatMap_cons, List.all_append, ih]; rfl
/-- The error of a program. -/
def cE (l : List Ins) : Int := if 200 < l.length then 2 else (Ver.run (l.map toV) l.length 0 (Ver.t00 l.length)).1
theorem vcheck_a (k : Nat) (hk : 200 ≤ k) (l : List Ins) (hin : ∀ (i0 : Nat) x0, l[i0]? = some x0 → S54.In x0) : ∃ d p, d ≤ 1 ∧ acall T (k + 18) 38 0 [.shr l.length false (l.flatMap S54.av)] [] = some ⟨.tup [.v (.int .i64 (cE l)), .v (.int .i64 p)], [], d⟩ := by
  have hv := toV_in hin
  have hl : (l.map toV).length = l.length := List.length_map ..
  unfold cE
  rw [toV_c]
  rw [← hl]
  generalize l.map toV = L at *
  by_cases c : 200 < L.length
  · rw [if_pos c]
    obtain ⟨d, h1, h2⟩ := Ver.check_err k (.v (.int .i64 0)) 2 200 0 (by omega) _ (vins_ok L) (Ver.all_long k L c)
    exact ⟨d, _, h2, h1⟩
  · rw [if_neg c]
    have h1 := Ver.all_a k hk L (by omega) hv
    generalize Ver.run L L.length 0 (Ver.t00 L.length) = r at *
    obtain ⟨e, p, t⟩ := r
    unfold Ver.pres at h1
    simp only at h1 ⊢
    by_cases he : e = 0
    · rw [if_pos he] at h1
      subst he
      exact ⟨1, _, Nat.le_refl _, Ver.check_ok k _ _ _ _ h1⟩
    · rw [if_neg he] at h1
      obtain ⟨d, g1, g2⟩ := Ver.check_err k (.v (.int .i64 0)) e p 1 (by omega) _ (vins_ok L) h1
      exact ⟨d, _, g2, g1⟩
theorem vall_a (k : Nat) (hk : 200 ≤ k) (l : List Ins) (hin : ∀ (i0 : Nat) x0, l[i0]? = some x0 → S54.In x0) : (∃ d p, d ≤ 1 ∧ acall T (k + 13) 42 0 [.shr l.length false (l.flatMap S54.av)] [] = some ⟨.tup [.v (.slice none 0 0), .v (.int .i64 (cE l)), .v (.int .i64 p)], [], d⟩) ∨ (cE l = 0 ∧ ∃ n R, acall T (k + 13) 42 0 [.shr l.length false (l.flatMap S54.av)] [] = some ⟨.tup [.view 0 0 n 3 (some n), .v (.int .i64 0), .v (.int .i64 0)], [⟨true, true, true, R⟩], 1⟩) := by
  have hv := toV_in hin
  have hl : (l.map toV).length = l.length := List.length_map ..
  unfold cE
  rw [toV_c]
  rw [← hl]
  generalize l.map toV = L at *
  by_cases c : 200 < L.length
  · rw [if_pos c]
    exact Or.inl ⟨0, _, by omega, Ver.rall_long k L c⟩
  · rw [if_neg c]
    have h1 := Ver.rall_a k hk L (by omega) hv
    generalize Ver.run L L.length 0 (Ver.t00 L.length) = r at *
    obtain ⟨e, p, t⟩ := r
    unfold Ver.rres at h1
    simp only at h1 ⊢
    by_cases he : e = 0
    · rw [if_pos he] at h1
      exact Or.inr ⟨he, _, _, h1⟩
    · rw [if_neg he] at h1
      exact Or.inl ⟨1, _, by omega, h1⟩
end Go.Proofs.Ytcfokbhmchcgbaa.Cfg

/- Are all blocks of a station's its own? a station, the program's. -/
namespace Go.Proofs.Ytcfokbhmchcgbaa.Cfg
open Go Go.Proofs.Ytcfokbhmchcgbaa.Sym Go.Proofs.Ytcfokbhmchcgbaa.Tab Go.Proofs.Ytcfokbhmchcgbaa.Args
set_option linter.unusedVariables false
set_option linter.unusedSimpArgs false
set_option maxHeartbeats 4000000
set_option maxRecDepth 20000
def adB : Option Blk → Int
  | none => 0
  | some b => b.f1
abbrev xc (c : Clu) : Sym.Obj := ⟨true, false, true, c.av⟩
abbrev xs (s : Sta) : Sym.Obj := ⟨true, false, true, s.av⟩
theorem clo_own (k : Nat) (hk : 250 ≤ k) (c : Clu) (hB : c.f6.length ≤ 250) (s : Sta) (z : Spt) : acall T (k + 5) 54 2 [.agg z.av, .ptr 0 0, .ptr 1 0] [xc c, xs s] = some ⟨.v (.bool (adB (rB c.f6 z) != s.f0)), [xc c, xs s], 1⟩ := by
  have hf := bfind_a k hk c.f6 hB z.f0
  rw [acall_go (body := b_config_owns_1) rfl rfl (Nat.le_refl 2)]
  unfold rB
  generalize fnd (fun y : Blk => y.f0) z.f0 c.f6 c.f6.length 0 = r at *
  cases r with
  | none =>
    simp only [blkO] at hf
    simp -implicitDefEqProofs only [eqs, eqd, eqe, lh_some, ↓reduceIte, reduceCtorEq, Nat.reduceEqDiff, Nat.reduceAdd, Nat.reduceSub, Nat.reduceMul, Nat.reduceLT, Nat.reduceLeDiff, Nat.reduceBEq, Nat.reduceBNe, Nat.reduceGT, Int.reduceEq, Int.reduceLT, Int.reduceLE, Int.reduceToNat, Int.reduceAdd, Int.reduceSub, Int.reduceMul, Int.reduceNeg, Int.reduceBEq, Int.reduceBNe, b_config_owns_1, S25.av, S37.av, S56.av, xc, xs, hf, adB]
  | some b =>
    simp only [blkO, S63.av] at hf
    simp -implicitDefEqProofs only [eqs, eqd, eqe, lh_some, ↓reduceIte, reduceCtorEq, Nat.reduceEqDiff, Nat.reduceAdd, Nat.reduceSub, Nat.reduceMul, Nat.reduceLT, Nat.reduceLeDiff, Nat.reduceBEq, Nat.reduceBNe, Nat.reduceGT, Int.reduceEq, Int.reduceLT, Int.reduceLE, Int.reduceToNat, Int.reduceAdd, Int.reduceSub, Int.reduceMul, Int.reduceNeg, Int.reduceBEq, Int.reduceBNe, b_config_owns_1, S25.av, S37.av, S56.av, xc, xs, hf, adB]
def ownF (c : Clu) (s : Sta) (P : List Spt) : Nat → Nat → Bool
  | 0, _ => true
  | m + 1, i => if h : i < P.length then (if adB (rB c.f6 P[i]) = s.f0 then ownF c s P m (i + 1) else false) else true
def owst (c : Clu) (s : Sta) (P : List Spt) (i d : Nat) : St := ⟨[(0, .shr P.length false (P.flatMap S56.av)), (1, .fn 54 [.ptr 0 0, .ptr 1 0]), (7, .v (.int .i64 P.length)), (8, .v (.int .i64 i))], [xc c, xs s], d, [0, 1]⟩
noncomputable abbrev owfin (C : CT) (lf : Nat) (s : St) (N : Nat) : Option Res := FnR [.t 4] false false (Lh C lf (some s) [0, 1, 7, 8] l_api_Spot_47_0 N [.b 0, .c l_api_Spot_47_1])
theorem own_one (k : Nat) (hk : 250 ≤ k) (lf : Nat) (c : Clu) (hB : c.f6.length ≤ 250) (s : Sta) (P : List Spt) (hP : P.length ≤ 250) (i : Nat) (hi : i < P.length) (d : Nat) (hd : d ≤ 1) (N : Nat) : owfin (acall T (k + 5)) lf (owst c s P i d) (N + 1) = if adB (rB c.f6 P[i]) = s.f0 then owfin (acall T (k + 5)) lf (owst c s P (i + 1) 1) N else some ⟨.v (.int .i64 i), [xc c, xs s], 1⟩ := by
  have c1 : (i : Int) < P.length := by omega
  have c0 : (0 : Int) ≤ i := by omega
  have w1 : IntKind.i64.wrap ((i : Int) + 1) = i + 1 := w64 (by omega) (by omega)
  have h5 := chunk S56.av 2 spt_len P i hi
  have l5 : i * 2 + 2 ≤ P.length * 2 := by omega
  have hl := chunk_len S56.av 2 spt_len P
  have hc := clo_own k hk c hB s P[i]
  have hdd : d = 0 ∨ d = 1 := by omega
  unfold owfin owst
  rw [lh_as l_api_Spot_47_0.eq_1]
  generalize adB (rB c.f6 P[i]) = v at *
  generalize P[i] = y at *
  generalize P.flatMap S56.av = cs at *
  generalize P.length = n at *
  by_cases e : v = s.f0
  · have e' : (v != s.f0) = false := by simpa using e
    rw [e'] at hc
    rw [if_pos e]
    simp only [S56.av, S25.av, S37.av, xc, xs] at hc
    rcases hdd with rfl | rfl
    · simp -implicitDefEqProofs only [eqs, eqd, eqe, ↓reduceIte, reduceCtorEq, Nat.reduceEqDiff, Nat.reduceAdd, Nat.reduceSub, Nat.reduceMul, Nat.reduceLT, Nat.reduceLeDiff, Nat.reduceBEq, Nat.reduceBNe, Nat.reduceGT, Int.reduceEq, Int.reduceLT, Int.reduceLE, Int.reduceToNat, Int.reduceAdd, Int.reduceSub, Int.reduceMul, Int.reduceNeg, Int.reduceBEq, Int.reduceBNe, nx_nil, S56.av, S25.av, S37.av, xc, xs, c0, c1, w1, h5, l5, hl, hc, Int.toNat_natCast, Int.natCast_add]
    · simp -implicitDefEqProofs only [eqs, eqd, eqe, ↓reduceIte, reduceCtorEq, Nat.reduceEqDiff, Nat.reduceAdd, Nat.reduceSub, Nat.reduceMul, Nat.reduceLT, Nat.reduceLeDiff, Nat.reduceBEq, Nat.reduceBNe, Nat.reduceGT, Int.reduceEq, Int.reduceLT, Int.reduceLE, Int.reduceToNat, Int.reduceAdd, Int.reduceSub, Int.reduceMul, Int.reduceNeg, Int.reduceBEq, Int.reduceBNe, nx_nil, S56.av, S25.av, S37.av, xc, xs, c0, c1, w1, h5, l5, hl, hc, Int.toNat_natCast, Int.natCast_add]
  · have e' : (v != s.f0) = true := by simpa using e
    rw [e'] at hc
    rw [if_neg e]
    simp only [S56.av, S25.av, S37.av, xc, xs] at hc
    rcases hdd with rfl | rfl
    · simp -implicitDefEqProofs only [eqs, eqd, eqe, ↓reduceIte, reduceCtorEq, Nat.reduceEqDiff, Nat.reduceAdd, Nat.reduceSub, Nat.reduceMul, Nat.reduceLT, Nat.reduceLeDiff, Nat.reduceBEq, Nat.reduceBNe, Nat.reduceGT, Int.reduceEq, Int.reduceLT, Int.reduceLE, Int.reduceToNat, Int.reduceAdd, Int.reduceSub, Int.reduceMul, Int.reduceNeg, Int.reduceBEq, Int.reduceBNe, nx_nil, S56.av, S25.av, S37.av, xc, xs, c0, c1, w1, h5, l5, hl, hc, Int.toNat_natCast, Int.natCast_add]
    · simp -implicitDefEqProofs only [eqs, eqd, eqe, ↓reduceIte, reduceCtorEq, Nat.reduceEqDiff, Nat.reduceAdd, Nat.reduceSub, Nat.reduceMul, Nat.reduceLT, Nat.reduceLeDiff, Nat.reduceBEq, Nat.reduceBNe, Nat.reduceGT, Int.reduceEq, Int.reduceLT, Int.reduceLE, Int.reduceToNat, Int.reduceAdd, Int.reduceSub, Int.reduceMul, Int.reduceNeg, Int.reduceBEq, Int.reduceBNe, nx_nil, S56.av, S25.av, S37.av, xc, xs, c0, c1, w1, h5, l5, hl, hc, Int.toNat_natCast, Int.natCast_add]
theorem own_run (k : Nat) (hk : 250 ≤ k) (lf : Nat) (c : Clu) (hB : c.f6.length ≤ 250) (s : Sta) (P : List Spt) (hP : P.length ≤ 250) : ∀ (m i d N : Nat), i + m = P.length → m ≤ N → d ≤ 1 → ∃ d' j, d' ≤ 1 ∧ owfin (acall T (k + 5)) lf (owst c s P i d) N = some ⟨.v (.int .i64 j), [xc c, xs s], d'⟩ ∧ decide (0 ≤ j) = !ownF c s P m i
  | 0, i, d, N, hi, hN, hd => by
    obtain rfl : i = P.length := by omega
    refine ⟨d, -1, hd, ?_, rfl⟩
    have c1 : ¬ (P.length : Int) < P.length := by omega
    have hdd : d = 0 ∨ d = 1 := by omega
    unfold owfin owst
    rw [lh_as l_api_Spot_47_0.eq_1]
    generalize P.flatMap S56.av = cs at *
    rcases hdd with rfl | rfl
    · simp -implicitDefEqProofs only [eqs, eqd, eqe, ↓reduceIte, reduceCtorEq, Nat.reduceEqDiff, Nat.reduceAdd, Nat.reduceSub, Nat.reduceMul, Nat.reduceLT, Nat.reduceLeDiff, Nat.reduceBEq, Nat.reduceBNe, Nat.reduceGT, Int.reduceEq, Int.reduceLT, Int.reduceLE, Int.reduceToNat, Int.reduceAdd, Int.reduceSub, Int.reduceMul, Int.reduceNeg, Int.reduceBEq, Int.reduceBNe, nx_nil, l_api_Spot_47_1, S25.av, S37.av, xc, xs, c1]
    · simp -implicitDefEqProofs only [eqs, eqd, eqe, ↓reduceIte, reduceCtorEq, Nat.reduceEqDiff, Nat.reduceAdd, Nat.reduceSub, Nat.reduceMul, Nat.reduceLT, Nat.reduceLeDiff, Nat.reduceBEq, Nat.reduceBNe, Nat.reduceGT, Int.reduceEq, Int.reduceLT, Int.reduceLE, Int.reduceToNat, Int.reduceAdd, Int.reduceSub, Int.reduceMul, Int.reduceNeg, Int.reduceBEq, Int.reduceBNe, nx_nil, l_api_Spot_47_1, S25.av, S37.av, xc, xs, c1]
  | m + 1, i, d, N, hi, hN, hd => by
    obtain ⟨N, rfl⟩ : ∃ M, N = M + 1 := ⟨N - 1, by omega⟩
    have h : i < P.length := by omega
    rw [own_one k hk lf c hB s P hP i h d hd N, ownF, dif_pos h]
    by_cases e : adB (rB c.f6 P[i]) = s.f0
    · rw [if_pos e, if_pos e]
      exact own_run k hk lf c hB s P hP m (i + 1) 1 N (by omega) (by omega) (Nat.le_refl _)
    · rw [if_neg e, if_neg e]
      exact ⟨1, i, Nat.le_refl _, rfl, by simp⟩
theorem owns_a (k : Nat) (hk : 250 ≤ k) (c : Clu) (hB : c.f6.length ≤ 250) (s : Sta) (hP : s.f5.length ≤ 250) : acall T (k + 8) 40 0 [.agg c.av, .agg s.av] [] = some ⟨.v (.bool (ownF c s s.f5 s.f5.length 0)), [], 1⟩ := by
  obtain ⟨d, j, hd, h1, h2⟩ := own_run k hk (k + 5) c hB s s.f5 hP s.f5.length 0 0 (k + 4) (by omega) (by omega) (by omega)
  have lp : ∀ (ks : List It) (s : St), Lp (acall T (k + 5)) (k + 5) [0, 1, 7, 8] l_api_Spot_47_0 (k + 5) ks s = Lh (acall T (k + 5)) (k + 5) (canon [0, 1, 7, 8] s) [0, 1, 7, 8] l_api_Spot_47_0 (k + 4) ks := fun ks s => lp_succ (n := k + 4)
  have i1 : acall T (k + 6) 47 2 [.shr s.f5.length false (s.f5.flatMap S56.av), .fn 54 [.ptr 0 0, .ptr 1 0]] [xc c, xs s] = some ⟨.v (.int .i64 j), [xc c, xs s], d⟩ := by
    rw [acall_go (body := b_api_Spot_47) rfl rfl (Nat.le_refl 2), ← h1]
    unfold owfin owst
    generalize s.f5.flatMap S56.av = cs at *
    simp -implicitDefEqProofs only [eqs, eqd, eqe, ↓reduceIte, reduceCtorEq, Nat.reduceEqDiff, Nat.reduceAdd, Nat.reduceSub, Nat.reduceMul, Nat.reduceLT, Nat.reduceLeDiff, Nat.reduceBEq, Nat.reduceBNe, Nat.reduceGT, Int.reduceEq, Int.reduceLT, Int.reduceLE, Int.reduceToNat, Int.reduceAdd, Int.reduceSub, Int.reduceMul, Int.reduceNeg, Int.reduceBEq, Int.reduceBNe, b_api_Spot_47, S25.av, S37.av, xc, xs, lp, Int.natCast_zero]
  clear h1
  have hdd : d = 0 ∨ d = 1 := by omega
  have i2 : ∃ d2, d2 ≤ 1 ∧ acall T (k + 7) 31 2 [.shr s.f5.length false (s.f5.flatMap S56.av), .fn 54 [.ptr 0 0, .ptr 1 0]] [xc c, xs s] = some ⟨.v (.bool (!ownF c s s.f5 s.f5.length 0)), [xc c, xs s], d2⟩ := by
    refine ⟨d, hd, ?_⟩
    rw [← h2, acall_go (body := b_api_Spot_31) rfl rfl (Nat.le_refl 2)]
    simp only [S25.av, S37.av, xc, xs] at i1
    by_cases c0 : 0 ≤ j
    · rcases hdd with rfl | rfl
      · simp -implicitDefEqProofs only [eqs, eqd, eqe, lh_some, ↓reduceIte, reduceCtorEq, Nat.reduceEqDiff, Nat.reduceAdd, Nat.reduceSub, Nat.reduceMul, Nat.reduceLT, Nat.reduceLeDiff, Nat.reduceBEq, Nat.reduceBNe, Nat.reduceGT, Int.reduceEq, Int.reduceLT, Int.reduceLE, Int.reduceToNat, Int.reduceAdd, Int.reduceSub, Int.reduceMul, Int.reduceNeg, Int.reduceBEq, Int.reduceBNe, b_api_Spot_31, S25.av, S37.av, xc, xs, i1, c0]
      · simp -implicitDefEqProofs only [eqs, eqd, eqe, lh_some, ↓reduceIte, reduceCtorEq, Nat.reduceEqDiff, Nat.reduceAdd, Nat.reduceSub, Nat.reduceMul, Nat.reduceLT, Nat.reduceLeDiff, Nat.reduceBEq, Nat.reduceBNe, Nat.reduceGT, Int.reduceEq, Int.reduceLT, Int.reduceLE, Int.reduceToNat, Int.reduceAdd, Int.reduceSub, Int.reduceMul, Int.reduceNeg, Int.reduceBEq, Int.reduceBNe, b_api_Spot_31, S25.av, S37.av, xc, xs, i1, c0]
    · rcases hdd with rfl | rfl
      · simp -implicitDefEqProofs only [eqs, eqd, eqe, lh_some, ↓reduceIte, reduceCtorEq, Nat.reduceEqDiff, Nat.reduceAdd, Nat.reduceSub, Nat.reduceMul, Nat.reduceLT, Nat.reduceLeDiff, Nat.reduceBEq, Nat.reduceBNe, Nat.reduceGT, Int.reduceEq, Int.reduceLT, Int.reduceLE, Int.reduceToNat, Int.reduceAdd, Int.reduceSub, Int.reduceMul, Int.reduceNeg, Int.reduceBEq, Int.reduceBNe, b_api_Spot_31, S25.av, S37.av, xc, xs, i1, c0]
      · simp -implicitDefEqProofs only [eqs, eqd, eqe, lh_some, ↓reduceIte, reduceCtorEq, Nat.reduceEqDiff, Nat.reduceAdd, Nat.reduceSub, Nat.reduceMul, Nat.reduceLT, Nat.reduceLeDiff, Nat.reduceBEq, Nat.reduceBNe, Nat.reduceGT, Int.reduceEq, Int.reduceLT, Int.reduceLE, Int.reduceToNat, Int.reduceAdd, Int.reduceSub, Int.reduceMul, Int.reduceNeg, Int.reduceBEq, Int.reduceBNe, b_api_Spot_31, S25.av, S37.av, xc, xs, i1, c0]
  obtain ⟨d2, hd2, i2⟩ := i2
  have hdd2 : d2 = 0 ∨ d2 = 1 := by omega
  rw [acall_go (body := b_config_owns) rfl rfl (Nat.zero_le _)]
  simp only [S25.av, S37.av, xc, xs] at i2
  generalize ownF c s s.f5 s.f5.length 0 = w at *
  cases w
  · rcases hdd2 with rfl | rfl
    · simp -implicitDefEqProofs only [eqs, eqd, eqe, lh_some, ↓reduceIte, reduceCtorEq, Nat.reduceEqDiff, Nat.reduceAdd, Nat.reduceSub, Nat.reduceMul, Nat.reduceLT, Nat.reduceLeDiff, Nat.reduceBEq, Nat.reduceBNe, Nat.reduceGT, Int.reduceEq, Int.reduceLT, Int.reduceLE, Int.reduceToNat, Int.reduceAdd, Int.reduceSub, Int.reduceMul, Int.reduceNeg, Int.reduceBEq, Int.reduceBNe, b_config_owns, S25.av, S37.av, i2]
    · simp -implicitDefEqProofs only [eqs, eqd, eqe, lh_some, ↓reduceIte, reduceCtorEq, Nat.reduceEqDiff, Nat.reduceAdd, Nat.reduceSub, Nat.reduceMul, Nat.reduceLT, Nat.reduceLeDiff, Nat.reduceBEq, Nat.reduceBNe, Nat.reduceGT, Int.reduceEq, Int.reduceLT, Int.reduceLE, Int.reduceToNat, Int.reduceAdd, Int.reduceSub, Int.reduceMul, Int.reduceNeg, Int.reduceBEq, Int.reduceBNe, b_config_owns, S25.av, S37.av, i2]
  · rcases hdd2 with rfl | rfl
    · simp -implicitDefEqProofs only [eqs, eqd, eqe, lh_some, ↓reduceIte, reduceCtorEq, Nat.reduceEqDiff, Nat.reduceAdd, Nat.reduceSub, Nat.reduceMul, Nat.reduceLT, Nat.reduceLeDiff, Nat.reduceBEq, Nat.reduceBNe, Nat.reduceGT, Int.reduceEq, Int.reduceLT, Int.reduceLE, Int.reduceToNat, Int.reduceAdd, Int.reduceSub, Int.reduceMul, Int.reduceNeg, Int.reduceBEq, Int.reduceBNe, b_config_owns, S25.av, S37.av, i2]
    · simp -implicitDefEqProofs only [eqs, eqd, eqe, lh_some, ↓reduceIte, reduceCtorEq, Nat.reduceEqDiff, Nat.reduceAdd, Nat.reduceSub, Nat.reduceMul, Nat.reduceLT, Nat.reduceLeDiff, Nat.reduceBEq, Nat.reduceBNe, Nat.reduceGT, Int.reduceEq, Int.reduceLT, Int.reduceLE, Int.reduceToNat, Int.reduceAdd, Int.reduceSub, Int.reduceMul, Int.reduceNeg, Int.reduceBEq, Int.reduceBNe, b_config_owns, S25.av, S37.av, i2]
/-- A station's error. -/
def stE (c : Clu) (i : Nat) (s : Sta) : Int := if (inn s.f0 0 c.f5 && inn s.f1 1 1000) = false then 3 else if dupI (fun y => y.f0) s.f0 c.f7 i 0 = true then 14
  else if (LayF s.f2 s.f4 c.f6).1 ≠ 0 then (LayF s.f2 s.f4 c.f6).1 else if cE s.f3 ≠ 0 then cE s.f3 else if (ReaF s.f5 c.f6).1 ≠ 0 then (ReaF s.f5 c.f6).1 else if ownF c s s.f5 s.f5.length 0 = true then 0 else 5
theorem station_a (k : Nat) (hk : 250 ≤ k) (c : Clu) (hB : c.f6.length ≤ 250) (hL : c.f7.length ≤ 250) (i : Nat) (hi : i < c.f7.length) (h4 : c.f7[i].f4.length ≤ 250) (h5 : c.f7[i].f5.length ≤ 250) (hin : ∀ (i0 : Nat) x0, c.f7[i].f3[i0]? = some x0 → S54.In x0) : acall T (k + 19) 22 0 [.agg c.av, .v (.int .i64 i)] [] = some ⟨.v (.int .i64 (stE c i c.f7[i])), [], 1⟩ := by
  have c1 : (i : Int) < c.f7.length := by omega
  have c0 : (0 : Int) ≤ i := by omega
  have g5 := chunk S37.av 6 sta_len c.f7 i hi
  have l5 : i * 6 + 6 ≤ c.f7.length * 6 := by omega
  have hl := chunk_len S37.av 6 sta_len c.f7
  have n1 := in_a (k + 17) c.f7[i].f0 0 c.f5
  have n2 := in_a (k + 17) c.f7[i].f1 1 1000
  have hp := place_a (k + 15) (by omega) c hL c.f7[i].f0
  have hj := (idx_dup (fun y : Sta => y.f0) c.f7[i].f0 c.f7 i hi rfl c.f7.length 0 (by omega) (by omega)).1
  rw [Nat.sub_zero] at hj
  obtain ⟨d1, e1, h1⟩ := Lay_a (k + 11) (by omega) c.f6 hB c.f7[i].f4 h4 c.f7[i].f2
  obtain ⟨d2, p2, e2, h2⟩ := vcheck_a k (by omega) c.f7[i].f3 hin
  obtain ⟨d3, e3, h3⟩ := Reach_a (k + 11) (by omega) c.f6 hB c.f7[i].f5 h5
  have ho := owns_a (k + 10) (by omega) c hB c.f7[i] h5
  have m1 : max 1 d1 = 1 := Nat.max_eq_left e1
  have m2 : max 1 d2 = 1 := Nat.max_eq_left e2
  have m3 : max 1 d3 = 1 := Nat.max_eq_left e3
  clear h4 h5 hin
  unfold stE
  generalize dupI (fun y : Sta => y.f0) c.f7[i].f0 c.f7 i 0 = du at *
  generalize idx (fun y : Sta => y.f0) c.f7[i].f0 c.f7 c.f7.length 0 = j at *
  unfold rE at h1 h3
  generalize hlay : LayF c.f7[i].f2 c.f7[i].f4 c.f6 = rl at *
  generalize hcee : cE c.f7[i].f3 = re at *
  generalize hrea : ReaF c.f7[i].f5 c.f6 = rr at *
  generalize ownF c c.f7[i] c.f7[i].f5 c.f7[i].f5.length 0 = ow at *
  clear hlay hcee hrea
  obtain ⟨rl, rl2⟩ := rl
  obtain ⟨rr, rr2⟩ := rr
  simp only at h1 h3 ⊢
  rw [acall_go (body := b_config_station) rfl rfl (Nat.zero_le _)]
  generalize c.f7[i] = y at *
  generalize inn y.f0 0 c.f5 = b1 at *
  generalize inn y.f1 1 1000 = b2 at *
  simp only [S25.av] at hp ho
  generalize hcs : c.f7.flatMap S37.av = cs at *
  simp only [S37.av] at ho g5
  cases b1
  · rw [if_pos (show (false && b2) = false from rfl)]
    simp -implicitDefEqProofs only [eqs, eqd, eqe, lh_some, ↓reduceIte, reduceCtorEq, Nat.reduceEqDiff, Nat.reduceAdd, Nat.reduceSub, Nat.reduceMul, Nat.reduceLT, Nat.reduceLeDiff, Nat.reduceBEq, Nat.reduceBNe, Nat.reduceGT, Int.reduceEq, Int.reduceLT, Int.reduceLE, Int.reduceToNat, Int.reduceAdd, Int.reduceSub, Int.reduceMul, Int.reduceNeg, Int.reduceBEq, Int.reduceBNe, b_config_station, g_config_station_0, S25.av, S37.av, hcs, c0, c1, g5, l5, hl, Int.toNat_natCast, n1]
  cases b2
  · rw [if_pos (show (true && false) = false from rfl)]
    simp -implicitDefEqProofs only [eqs, eqd, eqe, lh_some, ↓reduceIte, reduceCtorEq, Nat.reduceEqDiff, Nat.reduceAdd, Nat.reduceSub, Nat.reduceMul, Nat.reduceLT, Nat.reduceLeDiff, Nat.reduceBEq, Nat.reduceBNe, Nat.reduceGT, Int.reduceEq, Int.reduceLT, Int.reduceLE, Int.reduceToNat, Int.reduceAdd, Int.reduceSub, Int.reduceMul, Int.reduceNeg, Int.reduceBEq, Int.reduceBNe, b_config_station, g_config_station_0, S25.av, S37.av, hcs, c0, c1, g5, l5, hl, Int.toNat_natCast, n1, n2]
  rw [if_neg (show ¬ (true && true) = false by decide)]
  cases du
  case true =>
    have hjn : j < (i : Int) := hj.2 rfl
    rw [if_pos rfl]
    simp -implicitDefEqProofs only [eqs, eqd, eqe, lh_some, ↓reduceIte, reduceCtorEq, Nat.reduceEqDiff, Nat.reduceAdd, Nat.reduceSub, Nat.reduceMul, Nat.reduceLT, Nat.reduceLeDiff, Nat.reduceBEq, Nat.reduceBNe, Nat.reduceGT, Int.reduceEq, Int.reduceLT, Int.reduceLE, Int.reduceToNat, Int.reduceAdd, Int.reduceSub, Int.reduceMul, Int.reduceNeg, Int.reduceBEq, Int.reduceBNe, b_config_station, g_config_station_0, S25.av, S37.av, hcs, c0, c1, g5, l5, hl, Int.toNat_natCast, n1, n2, hp, hjn]
  have hjn : ¬ j < (i : Int) := fun h => by simpa using hj.1 h
  rw [if_neg (by decide)]
  by_cases z1 : rl = 0
  · rw [if_neg (show ¬ (rl ≠ 0) from fun h => h z1)]
    subst z1
    by_cases z2 : re = 0
    · rw [if_neg (show ¬ (re ≠ 0) from fun h => h z2)]
      subst z2
      by_cases z3 : rr = 0
      · rw [if_neg (show ¬ (rr ≠ 0) from fun h => h z3)]
        subst z3
        cases ow
        · rw [if_neg (by decide)]
          simp -implicitDefEqProofs only [eqs, eqd, eqe, lh_some, ↓reduceIte, reduceCtorEq, Nat.reduceEqDiff, Nat.reduceAdd, Nat.reduceSub, Nat.reduceMul, Nat.reduceLT, Nat.reduceLeDiff, Nat.reduceBEq, Nat.reduceBNe, Nat.reduceGT, Int.reduceEq, Int.reduceLT, Int.reduceLE, Int.reduceToNat, Int.reduceAdd, Int.reduceSub, Int.reduceMul, Int.reduceNeg, Int.reduceBEq, Int.reduceBNe, b_config_station, g_config_station_0, S25.av, S37.av, hcs, c0, c1, g5, l5, hl, Int.toNat_natCast, n1, n2, hp, hjn, h1, e1, m1, h2, e2, m2, h3, e3, m3, ho]
        · rw [if_pos rfl]
          simp -implicitDefEqProofs only [eqs, eqd, eqe, lh_some, ↓reduceIte, reduceCtorEq, Nat.reduceEqDiff, Nat.reduceAdd, Nat.reduceSub, Nat.reduceMul, Nat.reduceLT, Nat.reduceLeDiff, Nat.reduceBEq, Nat.reduceBNe, Nat.reduceGT, Int.reduceEq, Int.reduceLT, Int.reduceLE, Int.reduceToNat, Int.reduceAdd, Int.reduceSub, Int.reduceMul, Int.reduceNeg, Int.reduceBEq, Int.reduceBNe, b_config_station, g_config_station_0, S25.av, S37.av, hcs, c0, c1, g5, l5, hl, Int.toNat_natCast, n1, n2, hp, hjn, h1, e1, m1, h2, e2, m2, h3, e3, m3, ho]
      · have z3' : (rr != 0) = true := by simpa using z3
        rw [if_pos z3]
        simp -implicitDefEqProofs only [eqs, eqd, eqe, lh_some, ↓reduceIte, reduceCtorEq, Nat.reduceEqDiff, Nat.reduceAdd, Nat.reduceSub, Nat.reduceMul, Nat.reduceLT, Nat.reduceLeDiff, Nat.reduceBEq, Nat.reduceBNe, Nat.reduceGT, Int.reduceEq, Int.reduceLT, Int.reduceLE, Int.reduceToNat, Int.reduceAdd, Int.reduceSub, Int.reduceMul, Int.reduceNeg, Int.reduceBEq, Int.reduceBNe, b_config_station, g_config_station_0, S25.av, S37.av, hcs, c0, c1, g5, l5, hl, Int.toNat_natCast, n1, n2, hp, hjn, h1, e1, m1, h2, e2, m2, h3, e3, m3, z3']
    · have z2' : (re != 0) = true := by simpa using z2
      rw [if_pos z2]
      simp -implicitDefEqProofs only [eqs, eqd, eqe, lh_some, ↓reduceIte, reduceCtorEq, Nat.reduceEqDiff, Nat.reduceAdd, Nat.reduceSub, Nat.reduceMul, Nat.reduceLT, Nat.reduceLeDiff, Nat.reduceBEq, Nat.reduceBNe, Nat.reduceGT, Int.reduceEq, Int.reduceLT, Int.reduceLE, Int.reduceToNat, Int.reduceAdd, Int.reduceSub, Int.reduceMul, Int.reduceNeg, Int.reduceBEq, Int.reduceBNe, b_config_station, g_config_station_0, S25.av, S37.av, hcs, c0, c1, g5, l5, hl, Int.toNat_natCast, n1, n2, hp, hjn, h1, e1, m1, h2, e2, m2, z2']
  · have z1' : (rl != 0) = true := by simpa using z1
    rw [if_pos z1]
    simp -implicitDefEqProofs only [eqs, eqd, eqe, lh_some, ↓reduceIte, reduceCtorEq, Nat.reduceEqDiff, Nat.reduceAdd, Nat.reduceSub, Nat.reduceMul, Nat.reduceLT, Nat.reduceLeDiff, Nat.reduceBEq, Nat.reduceBNe, Nat.reduceGT, Int.reduceEq, Int.reduceLT, Int.reduceLE, Int.reduceToNat, Int.reduceAdd, Int.reduceSub, Int.reduceMul, Int.reduceNeg, Int.reduceBEq, Int.reduceBNe, b_config_station, g_config_station_0, S25.av, S37.av, hcs, c0, c1, g5, l5, hl, Int.toNat_natCast, n1, n2, hp, hjn, h1, e1, m1, z1']
end Go.Proofs.Ytcfokbhmchcgbaa.Cfg

/- A station, the document's. -/
namespace Go.Proofs.Ytcfokbhmchcgbaa.Cfg
open Go Go.Proofs.Ytcfokbhmchcgbaa.Sym Go.Proofs.Ytcfokbhmchcgbaa.Tab Go.Proofs.Ytcfokbhmchcgbaa.Args
set_option linter.unusedVariables false
set_option linter.unusedSimpArgs false
set_option maxHeartbeats 4000000
set_option maxRecDepth 20000
def s2st (c : Clu) (s : Sta) (j : Nat) : St := ⟨[(2, .ptr 0 0), (5, .ptr 1 0), (9, .v (.int .i64 j))], [⟨true, true, true, c.av⟩, ⟨true, true, true, s.av⟩], 1, []⟩
noncomputable abbrev s2fin (C : CT) (lf : Nat) (s : St) (N : Nat) : Option Res := FnR [.t 4] false false (Lh C lf (some s) [2, 5, 9] l_fuglemanref20_station_2 N [.b 2, .c l_fuglemanref20_station_3])
theorem s2_run (k : Nat) (hk : 250 ≤ k) (lf : Nat) (c : Clu) (hB : c.f6.length ≤ 250) (s : Sta) (hP : s.f5.length ≤ 250) : ∀ (m j N : Nat), j + m = s.f5.length → m ≤ N → s2fin (acall T (k + 2)) lf (s2st c s j) N = some ⟨.v (.int .i64 (if ownF c s s.f5 m j = true then 0 else 5)), [], 1⟩
  | 0, j, N, hj, hN => by
    obtain rfl : j = s.f5.length := by omega
    have c1 : ¬ (s.f5.length : Int) < s.f5.length := by omega
    rw [ownF, if_pos rfl]
    unfold s2fin s2st
    rw [lh_as l_fuglemanref20_station_2.eq_1]
    simp -implicitDefEqProofs only [eqs, eqd, eqe, ↓reduceIte, reduceCtorEq, Nat.reduceEqDiff, Nat.reduceAdd, Nat.reduceSub, Nat.reduceMul, Nat.reduceLT, Nat.reduceLeDiff, Nat.reduceBEq, Nat.reduceBNe, Nat.reduceGT, Int.reduceEq, Int.reduceLT, Int.reduceLE, Int.reduceToNat, Int.reduceAdd, Int.reduceSub, Int.reduceMul, Int.reduceNeg, Int.reduceBEq, Int.reduceBNe, nx_nil, l_fuglemanref20_station_3, S25.av, S37.av, c1]
  | m + 1, j, N, hj, hN => by
    obtain ⟨N, rfl⟩ : ∃ M, N = M + 1 := ⟨N - 1, by omega⟩
    have h : j < s.f5.length := by omega
    have ih := s2_run k hk lf c hB s hP m (j + 1) N (by omega) (by omega)
    have c1 : (j : Int) < s.f5.length := by omega
    have c0 : (0 : Int) ≤ j := by omega
    have w1 : IntKind.i64.wrap ((j : Int) + 1) = j + 1 := w64 (by omega) (by omega)
    have h0 : (s.f5.flatMap S56.av)[j * 2]? = (s.f5[j].av)[0]? := chunk_at S56.av 2 spt_len s.f5 j h 0 (by decide)
    have hf := rbfind_a k hk c.f6 hB s.f5[j].f0
    rw [ownF, dif_pos h]
    unfold rB
    generalize fnd (fun y : Blk => y.f0) s.f5[j].f0 c.f6 c.f6.length 0 = r at *
    generalize s.f5[j] = y at *
    generalize hss : s.f5.flatMap S56.av = ss at *
    simp only [S56.av, List.getElem?_cons_zero] at h0
    by_cases e : adB r = s.f0
    · rw [if_pos e, ← ih]
      clear ih
      unfold s2fin s2st
      rw [lh_as l_fuglemanref20_station_2.eq_1]
      cases r with
      | none =>
        have e' : ((0 : Int) != s.f0) = false := by simpa [adB] using e
        simp only [blkO] at hf
        simp -implicitDefEqProofs only [eqs, eqd, eqe, ↓reduceIte, reduceCtorEq, Nat.reduceEqDiff, Nat.reduceAdd, Nat.reduceSub, Nat.reduceMul, Nat.reduceLT, Nat.reduceLeDiff, Nat.reduceBEq, Nat.reduceBNe, Nat.reduceGT, Int.reduceEq, Int.reduceLT, Int.reduceLE, Int.reduceToNat, Int.reduceAdd, Int.reduceSub, Int.reduceMul, Int.reduceNeg, Int.reduceBEq, Int.reduceBNe, nx_nil, S25.av, S37.av, S63.av, hss, c0, c1, w1, h0, hf, Int.toNat_natCast, e', Int.natCast_add]
      | some b =>
        have e' : (b.f1 != s.f0) = false := by simpa [adB] using e
        simp only [blkO, S63.av] at hf
        simp -implicitDefEqProofs only [eqs, eqd, eqe, ↓reduceIte, reduceCtorEq, Nat.reduceEqDiff, Nat.reduceAdd, Nat.reduceSub, Nat.reduceMul, Nat.reduceLT, Nat.reduceLeDiff, Nat.reduceBEq, Nat.reduceBNe, Nat.reduceGT, Int.reduceEq, Int.reduceLT, Int.reduceLE, Int.reduceToNat, Int.reduceAdd, Int.reduceSub, Int.reduceMul, Int.reduceNeg, Int.reduceBEq, Int.reduceBNe, nx_nil, S25.av, S37.av, S63.av, hss, c0, c1, w1, h0, hf, Int.toNat_natCast, e', Int.natCast_add]
    · rw [if_neg e, if_neg (by decide)]
      clear ih
      unfold s2fin s2st
      rw [lh_as l_fuglemanref20_station_2.eq_1]
      cases r with
      | none =>
        have e' : ((0 : Int) != s.f0) = true := by simpa [adB] using e
        simp only [blkO] at hf
        simp -implicitDefEqProofs only [eqs, eqd, eqe, ↓reduceIte, reduceCtorEq, Nat.reduceEqDiff, Nat.reduceAdd, Nat.reduceSub, Nat.reduceMul, Nat.reduceLT, Nat.reduceLeDiff, Nat.reduceBEq, Nat.reduceBNe, Nat.reduceGT, Int.reduceEq, Int.reduceLT, Int.reduceLE, Int.reduceToNat, Int.reduceAdd, Int.reduceSub, Int.reduceMul, Int.reduceNeg, Int.reduceBEq, Int.reduceBNe, nx_nil, S25.av, S37.av, S63.av, hss, c0, c1, w1, h0, hf, Int.toNat_natCast, e']
      | some b =>
        have e' : (b.f1 != s.f0) = true := by simpa [adB] using e
        simp only [blkO, S63.av] at hf
        simp -implicitDefEqProofs only [eqs, eqd, eqe, ↓reduceIte, reduceCtorEq, Nat.reduceEqDiff, Nat.reduceAdd, Nat.reduceSub, Nat.reduceMul, Nat.reduceLT, Nat.reduceLeDiff, Nat.reduceBEq, Nat.reduceBNe, Nat.reduceGT, Int.reduceEq, Int.reduceLT, Int.reduceLE, Int.reduceToNat, Int.reduceAdd, Int.reduceSub, Int.reduceMul, Int.reduceNeg, Int.reduceBEq, Int.reduceBNe, nx_nil, S25.av, S37.av, S63.av, hss, c0, c1, w1, h0, hf, Int.toNat_natCast, e']
def s1st (c : Clu) (s : Sta) (i k : Nat) : St := ⟨[(1, .v (.int .i64 i)), (2, .ptr 0 0), (5, .ptr 1 0), (6, .v (.int .i64 k))], [⟨true, true, true, c.av⟩, ⟨true, true, true, s.av⟩], 1, []⟩
noncomputable abbrev s1fin (C : CT) (lf : Nat) (s : St) (N : Nat) : Option Res := FnR [.t 4] false false (Lh C lf (some s) [1, 2, 5, 6] l_fuglemanref20_station_0 N [.b 0, .c l_fuglemanref20_station_1])
/-- What is left behind the numbers. -/
def stR (c : Clu) (s : Sta) : Int := if (LayF s.f2 s.f4 c.f6).1 ≠ 0 then (LayF s.f2 s.f4 c.f6).1 else if cE s.f3 ≠ 0 then cE s.f3 else if (ReaF s.f5 c.f6).1 ≠ 0 then (ReaF s.f5 c.f6).1 else if ownF c s s.f5 s.f5.length 0 = true then 0 else 5
theorem s1_base (k : Nat) (hk : 250 ≤ k) (c : Clu) (hB : c.f6.length ≤ 250) (s : Sta) (h4 : s.f4.length ≤ 250) (h5 : s.f5.length ≤ 250) (hin : ∀ (i0 : Nat) x0, s.f3[i0]? = some x0 → S54.In x0) (i N : Nat) : s1fin (acall T (k + 13)) (k + 13) (s1st c s i i) N = some ⟨.v (.int .i64 (stR c s)), [], 1⟩ := by
  have c1 : ¬ (i : Int) < i := by omega
  obtain ⟨d1, e1, h1⟩ := rlay_a (k + 10) (by omega) true c.f6 hB s.f4 h4 s.f2
  obtain ⟨d3, e3, h3⟩ := rlay_a (k + 10) (by omega) false c.f6 hB s.f5 h5 0
  have hall := vall_a k (by omega) s.f3 hin
  have key := s2_run (k + 11) (by omega) (k + 13) c hB s h5 s.f5.length 0 (k + 12) (by omega) (by omega)
  have lp : ∀ (ks : List It) (s : St), Lp (acall T (k + 13)) (k + 13) [2, 5, 9] l_fuglemanref20_station_2 (k + 13) ks s = Lh (acall T (k + 13)) (k + 13) (canon [2, 5, 9] s) [2, 5, 9] l_fuglemanref20_station_2 (k + 12) ks := fun ks s => lp_succ (n := k + 12)
  have m1 : max 1 d1 = 1 := Nat.max_eq_left e1
  have m3 : max 1 d3 = 1 := Nat.max_eq_left e3
  unfold stR
  unfold rE at h1 h3
  simp only [if_true, Bool.false_eq_true, if_false] at h1 h3
  generalize LayF s.f2 s.f4 c.f6 = rl at *
  generalize cE s.f3 = re at *
  generalize ReaF s.f5 c.f6 = rr at *
  generalize ownF c s s.f5 s.f5.length 0 = ow at *
  clear h4 h5 hin
  obtain ⟨rl, rl2⟩ := rl
  obtain ⟨rr, rr2⟩ := rr
  simp only at h1 h3 ⊢
  unfold s1fin s1st
  rw [lh_as l_fuglemanref20_station_0.eq_1]
  by_cases z1 : rl = 0
  · rw [if_neg (show ¬ (rl ≠ 0) from fun h => h z1)]
    subst z1
    by_cases z2 : re = 0
    · rw [if_neg (show ¬ (re ≠ 0) from fun h => h z2)]
      subst z2
      by_cases z3 : rr = 0
      · rw [if_neg (show ¬ (rr ≠ 0) from fun h => h z3), ← key]
        clear key
        subst z3
        unfold s2fin s2st
        rcases hall with ⟨d2, p2, e2, h2⟩ | ⟨_, n, R, h2⟩
        · have m2 : max 1 d2 = 1 := Nat.max_eq_left e2
          simp -implicitDefEqProofs only [eqs, eqd, eqe, ↓reduceIte, reduceCtorEq, Nat.reduceEqDiff, Nat.reduceAdd, Nat.reduceSub, Nat.reduceMul, Nat.reduceLT, Nat.reduceLeDiff, Nat.reduceBEq, Nat.reduceBNe, Nat.reduceGT, Int.reduceEq, Int.reduceLT, Int.reduceLE, Int.reduceToNat, Int.reduceAdd, Int.reduceSub, Int.reduceMul, Int.reduceNeg, Int.reduceBEq, Int.reduceBNe, nx_nil, l_fuglemanref20_station_1, S25.av, S37.av, c1, h1, e1, m1, h2, e2, m2, h3, e3, m3, lp, Int.natCast_zero]
        · simp -implicitDefEqProofs only [eqs, eqd, eqe, ↓reduceIte, reduceCtorEq, Nat.reduceEqDiff, Nat.reduceAdd, Nat.reduceSub, Nat.reduceMul, Nat.reduceLT, Nat.reduceLeDiff, Nat.reduceBEq, Nat.reduceBNe, Nat.reduceGT, Int.reduceEq, Int.reduceLT, Int.reduceLE, Int.reduceToNat, Int.reduceAdd, Int.reduceSub, Int.reduceMul, Int.reduceNeg, Int.reduceBEq, Int.reduceBNe, nx_nil, l_fuglemanref20_station_1, S25.av, S37.av, c1, h1, e1, m1, h2, h3, e3, m3, lp, Int.natCast_zero]
      · have z3' : (rr != 0) = true := by simpa using z3
        clear key
        rw [if_pos z3]
        rcases hall with ⟨d2, p2, e2, h2⟩ | ⟨_, n, R, h2⟩
        · have m2 : max 1 d2 = 1 := Nat.max_eq_left e2
          simp -implicitDefEqProofs only [eqs, eqd, eqe, ↓reduceIte, reduceCtorEq, Nat.reduceEqDiff, Nat.reduceAdd, Nat.reduceSub, Nat.reduceMul, Nat.reduceLT, Nat.reduceLeDiff, Nat.reduceBEq, Nat.reduceBNe, Nat.reduceGT, Int.reduceEq, Int.reduceLT, Int.reduceLE, Int.reduceToNat, Int.reduceAdd, Int.reduceSub, Int.reduceMul, Int.reduceNeg, Int.reduceBEq, Int.reduceBNe, nx_nil, l_fuglemanref20_station_1, S25.av, S37.av, c1, h1, e1, m1, h2, e2, m2, h3, e3, m3, z3']
        · simp -implicitDefEqProofs only [eqs, eqd, eqe, ↓reduceIte, reduceCtorEq, Nat.reduceEqDiff, Nat.reduceAdd, Nat.reduceSub, Nat.reduceMul, Nat.reduceLT, Nat.reduceLeDiff, Nat.reduceBEq, Nat.reduceBNe, Nat.reduceGT, Int.reduceEq, Int.reduceLT, Int.reduceLE, Int.reduceToNat, Int.reduceAdd, Int.reduceSub, Int.reduceMul, Int.reduceNeg, Int.reduceBEq, Int.reduceBNe, nx_nil, l_fuglemanref20_station_1, S25.av, S37.av, c1, h1, e1, m1, h2, h3, e3, m3, z3']
    · have z2' : (re != 0) = true := by simpa using z2
      clear key
      rw [if_pos z2]
      rcases hall with ⟨d2, p2, e2, h2⟩ | ⟨h0, _⟩
      · have m2 : max 1 d2 = 1 := Nat.max_eq_left e2
        simp -implicitDefEqProofs only [eqs, eqd, eqe, ↓reduceIte, reduceCtorEq, Nat.reduceEqDiff, Nat.reduceAdd, Nat.reduceSub, Nat.reduceMul, Nat.reduceLT, Nat.reduceLeDiff, Nat.reduceBEq, Nat.reduceBNe, Nat.reduceGT, Int.reduceEq, Int.reduceLT, Int.reduceLE, Int.reduceToNat, Int.reduceAdd, Int.reduceSub, Int.reduceMul, Int.reduceNeg, Int.reduceBEq, Int.reduceBNe, nx_nil, l_fuglemanref20_station_1, S25.av, S37.av, c1, h1, e1, m1, h2, e2, m2, z2']
      · exact absurd h0 z2
  · have z1' : (rl != 0) = true := by simpa using z1
    clear key
    rw [if_pos z1]
    simp -implicitDefEqProofs only [eqs, eqd, eqe, ↓reduceIte, reduceCtorEq, Nat.reduceEqDiff, Nat.reduceAdd, Nat.reduceSub, Nat.reduceMul, Nat.reduceLT, Nat.reduceLeDiff, Nat.reduceBEq, Nat.reduceBNe, Nat.reduceGT, Int.reduceEq, Int.reduceLT, Int.reduceLE, Int.reduceToNat, Int.reduceAdd, Int.reduceSub, Int.reduceMul, Int.reduceNeg, Int.reduceBEq, Int.reduceBNe, nx_nil, l_fuglemanref20_station_1, S25.av, S37.av, c1, h1, e1, m1, z1']
theorem s1_run (k : Nat) (hk : 250 ≤ k) (c : Clu) (hB : c.f6.length ≤ 250) (hL : c.f7.length ≤ 250) (s : Sta) (h4 : s.f4.length ≤ 250) (h5 : s.f5.length ≤ 250) (hin : ∀ (i0 : Nat) x0, s.f3[i0]? = some x0 → S54.In x0) (i : Nat) (hi : i < c.f7.length) : ∀ (m j N : Nat), j + m = i → m ≤ N → s1fin (acall T (k + 13)) (k + 13) (s1st c s i j) N = some ⟨.v (.int .i64 (if dupI (fun y => y.f0) s.f0 c.f7 m j = true then 14 else stR c s)), [], 1⟩
  | 0, j, N, hj, hN => by
    obtain rfl : j = i := by omega
    rw [dupI, if_neg (by decide)]
    exact s1_base k hk c hB s h4 h5 hin j N
  | m + 1, j, N, hj, hN => by
    obtain ⟨N, rfl⟩ : ∃ M, N = M + 1 := ⟨N - 1, by omega⟩
    have h : j < c.f7.length := by omega
    have ih := s1_run k hk c hB hL s h4 h5 hin i hi m (j + 1) N (by omega) (by omega)
    have c1 : (j : Int) < i := by omega
    have c2 : (j : Int) < c.f7.length := by omega
    have c0 : (0 : Int) ≤ j := by omega
    have w1 : IntKind.i64.wrap ((j : Int) + 1) = j + 1 := w64 (by omega) (by omega)
    have h0 : (c.f7.flatMap S37.av)[j * 6]? = (c.f7[j].av)[0]? := chunk_at S37.av 6 sta_len c.f7 j h 0 (by decide)
    rw [dupI, dif_pos h]
    unfold s1fin s1st at ih ⊢
    rw [lh_as l_fuglemanref20_station_0.eq_1]
    generalize c.f7[j] = z at *
    clear h4 h5 hin
    simp only [S37.av, List.getElem?_cons_zero] at h0
    by_cases e : z.f0 = s.f0
    · have e' : (z.f0 == s.f0) = true := by simpa using e
      rw [if_pos e, if_pos rfl]
      clear ih
      simp -implicitDefEqProofs only [eqs, eqd, eqe, ↓reduceIte, reduceCtorEq, Nat.reduceEqDiff, Nat.reduceAdd, Nat.reduceSub, Nat.reduceMul, Nat.reduceLT, Nat.reduceLeDiff, Nat.reduceBEq, Nat.reduceBNe, Nat.reduceGT, Int.reduceEq, Int.reduceLT, Int.reduceLE, Int.reduceToNat, Int.reduceAdd, Int.reduceSub, Int.reduceMul, Int.reduceNeg, Int.reduceBEq, Int.reduceBNe, nx_nil, S25.av, S37.av, c0, c1, c2, w1, h0, e', Int.toNat_natCast]
    · have e' : (z.f0 == s.f0) = false := by simpa using e
      rw [if_neg e, ← ih]
      clear ih
      simp -implicitDefEqProofs only [eqs, eqd, eqe, ↓reduceIte, reduceCtorEq, Nat.reduceEqDiff, Nat.reduceAdd, Nat.reduceSub, Nat.reduceMul, Nat.reduceLT, Nat.reduceLeDiff, Nat.reduceBEq, Nat.reduceBNe, Nat.reduceGT, Int.reduceEq, Int.reduceLT, Int.reduceLE, Int.reduceToNat, Int.reduceAdd, Int.reduceSub, Int.reduceMul, Int.reduceNeg, Int.reduceBEq, Int.reduceBNe, nx_nil, S25.av, S37.av, c0, c1, c2, w1, h0, e', Int.toNat_natCast, Int.natCast_add]
theorem rstation_a (k : Nat) (hk : 250 ≤ k) (c : Clu) (hB : c.f6.length ≤ 250) (hL : c.f7.length ≤ 250) (i : Nat) (hi : i < c.f7.length) (h4 : c.f7[i].f4.length ≤ 250) (h5 : c.f7[i].f5.length ≤ 250) (hin : ∀ (i0 : Nat) x0, c.f7[i].f3[i0]? = some x0 → S54.In x0) : acall T (k + 14) 25 0 [.agg c.av, .v (.int .i64 i)] [] = some ⟨.v (.int .i64 (stE c i c.f7[i])), [], 1⟩ := by
  have c1 : (i : Int) < c.f7.length := by omega
  have c0 : (0 : Int) ≤ i := by omega
  have g5 := chunk S37.av 6 sta_len c.f7 i hi
  have l5 : i * 6 + 6 ≤ c.f7.length * 6 := by omega
  have hl := chunk_len S37.av 6 sta_len c.f7
  have n1 := rin_a (k + 12) c.f7[i].f0 0 c.f5
  have n2 := rin_a (k + 12) c.f7[i].f1 1 1000
  have key := s1_run k hk c hB hL c.f7[i] h4 h5 hin i hi i 0 (k + 12) (by omega) (by omega)
  have lp : ∀ (ks : List It) (s : St), Lp (acall T (k + 13)) (k + 13) [1, 2, 5, 6] l_fuglemanref20_station_0 (k + 13) ks s = Lh (acall T (k + 13)) (k + 13) (canon [1, 2, 5, 6] s) [1, 2, 5, 6] l_fuglemanref20_station_0 (k + 12) ks := fun ks s => lp_succ (n := k + 12)
  have e : stE c i c.f7[i] = if (inn c.f7[i].f0 0 c.f5 && inn c.f7[i].f1 1 1000) = false then 3 else if dupI (fun y => y.f0) c.f7[i].f0 c.f7 i 0 = true then 14 else stR c c.f7[i] := rfl
  rw [e]
  clear e h4 h5 hin
  generalize (if dupI (fun y : Sta => y.f0) c.f7[i].f0 c.f7 i 0 = true then 14 else stR c c.f7[i]) = w at *
  rw [acall_go (body := b_fuglemanref20_station) rfl rfl (Nat.zero_le _)]
  generalize c.f7[i] = y at *
  generalize inn y.f0 0 c.f5 = b1 at *
  generalize inn y.f1 1 1000 = b2 at *
  simp only [S37.av] at g5
  cases b1
  · rw [if_pos (show (false && b2) = false from rfl)]
    simp -implicitDefEqProofs only [eqs, eqd, eqe, ↓reduceIte, reduceCtorEq, Nat.reduceEqDiff, Nat.reduceAdd, Nat.reduceSub, Nat.reduceMul, Nat.reduceLT, Nat.reduceLeDiff, Nat.reduceBEq, Nat.reduceBNe, Nat.reduceGT, Int.reduceEq, Int.reduceLT, Int.reduceLE, Int.reduceToNat, Int.reduceAdd, Int.reduceSub, Int.reduceMul, Int.reduceNeg, Int.reduceBEq, Int.reduceBNe, b_fuglemanref20_station, S25.av, S37.av, c0, c1, g5, l5, hl, Int.toNat_natCast, n1]
  cases b2
  · rw [if_pos (show (true && false) = false from rfl)]
    simp -implicitDefEqProofs only [eqs, eqd, eqe, ↓reduceIte, reduceCtorEq, Nat.reduceEqDiff, Nat.reduceAdd, Nat.reduceSub, Nat.reduceMul, Nat.reduceLT, Nat.reduceLeDiff, Nat.reduceBEq, Nat.reduceBNe, Nat.reduceGT, Int.reduceEq, Int.reduceLT, Int.reduceLE, Int.reduceToNat, Int.reduceAdd, Int.reduceSub, Int.reduceMul, Int.reduceNeg, Int.reduceBEq, Int.reduceBNe, b_fuglemanref20_station, S25.av, S37.av, c0, c1, g5, l5, hl, Int.toNat_natCast, n1, n2]
  rw [if_neg (show ¬ (true && true) = false by decide), ← key]
  clear key
  unfold s1fin s1st
  simp -implicitDefEqProofs only [eqs, eqd, eqe, ↓reduceIte, reduceCtorEq, Nat.reduceEqDiff, Nat.reduceAdd, Nat.reduceSub, Nat.reduceMul, Nat.reduceLT, Nat.reduceLeDiff, Nat.reduceBEq, Nat.reduceBNe, Nat.reduceGT, Int.reduceEq, Int.reduceLT, Int.reduceLE, Int.reduceToNat, Int.reduceAdd, Int.reduceSub, Int.reduceMul, Int.reduceNeg, Int.reduceBEq, Int.reduceBNe, b_fuglemanref20_station, S25.av, S37.av, c0, c1, g5, l5, hl, Int.toNat_natCast, n1, n2, lp, Int.natCast_zero]
end Go.Proofs.Ytcfokbhmchcgbaa.Cfg

/- Check of a cluster, of both. -/
namespace Go.Proofs.Ytcfokbhmchcgbaa.Cfg
open Go Go.Proofs.Ytcfokbhmchcgbaa.Sym Go.Proofs.Ytcfokbhmchcgbaa.Tab Go.Proofs.Ytcfokbhmchcgbaa.Args
set_option linter.unusedVariables false
set_option linter.unusedSimpArgs false
set_option maxHeartbeats 4000000
set_option maxRecDepth 20000
def chF (c : Clu) : Nat → Nat → Int × Int
  | 0, _ => (0, 0)
  | m + 1, i => if h : i < c.f7.length then (if stE c i c.f7[i] ≠ 0 then (stE c i c.f7[i], 100 + i) else chF c m (i + 1)) else (0, 0)
def ckF (c : Clu) : Int × Int := if num c = false then (3, 0) else if (bcR c.f6).1 ≠ 0 then ((bcR c.f6).1, IntKind.i64.wrap (1 + (bcR c.f6).2)) else if inn c.f7.length 1 32 = false then (2, 100) else chF c c.f7.length 0
/-- What it is asked of. -/
structure Sml (c : Clu) : Prop where
  st : c.f7.length ≤ 250
  bl : c.f6.length ≤ 250
  sub : ∀ (j : Nat) (h : j < c.f7.length), c.f7[j].f4.length ≤ 250
  pub : ∀ (j : Nat) (h : j < c.f7.length), c.f7[j].f5.length ≤ 250
  cod : ∀ (j : Nat) (h : j < c.f7.length) (i0 : Nat) x0, c.f7[j].f3[i0]? = some x0 → S54.In x0
def ckstP (c : Clu) (i : Nat) : St := ⟨[(1, .ptr 0 0), (29, .v (.int .i64 c.f7.length)), (30, .v (.int .i64 i))], [⟨true, true, true, c.av⟩], 1, []⟩
noncomputable abbrev ckfP (C : CT) (lf : Nat) (s : St) (N : Nat) : Option Res := FnR [.t 2, .t 3] false false (Lh C lf (some s) [1, 29, 30] l_config_Check_0 N [.b 0, .c l_config_Check_1])
theorem ck_runP (k : Nat) (hk : 250 ≤ k) (lf : Nat) (c : Clu) (hs : Sml c) : ∀ (m i N : Nat), i + m = c.f7.length → m ≤ N → ckfP (acall T (k + 19)) lf (ckstP c i) N = some ⟨rE (chF c m i), [], 1⟩
  | 0, i, N, hi, hN => by
    obtain rfl : i = c.f7.length := by omega
    have c1 : ¬ (c.f7.length : Int) < c.f7.length := by omega
    rw [chF]
    unfold ckfP ckstP rE
    rw [lh_as l_config_Check_0.eq_1]
    simp -implicitDefEqProofs only [eqs, eqd, eqe, ↓reduceIte, reduceCtorEq, Nat.reduceEqDiff, Nat.reduceAdd, Nat.reduceSub, Nat.reduceMul, Nat.reduceLT, Nat.reduceLeDiff, Nat.reduceBEq, Nat.reduceBNe, Nat.reduceGT, Int.reduceEq, Int.reduceLT, Int.reduceLE, Int.reduceToNat, Int.reduceAdd, Int.reduceSub, Int.reduceMul, Int.reduceNeg, Int.reduceBEq, Int.reduceBNe, nx_nil, l_config_Check_1, S25.av, c1]
  | m + 1, i, N, hi', hN => by
    obtain ⟨N, rfl⟩ : ∃ M, N = M + 1 := ⟨N - 1, by omega⟩
    have hi : i < c.f7.length := by omega
    have ih := ck_runP k hk lf c hs m (i + 1) N (by omega) (by omega)
    have c1 : (i : Int) < c.f7.length := by omega
    have hL := hs.st
    have w1 : IntKind.i64.wrap ((i : Int) + 1) = i + 1 := w64 (by omega) (by omega)
    have w2 : IntKind.i64.wrap (100 + (i : Int)) = 100 + i := w64 (by omega) (by omega)
    have hst := station_a k hk c hs.bl hs.st i hi (hs.sub i hi) (hs.pub i hi) (hs.cod i hi)
    rw [chF, dif_pos hi]
    generalize stE c i c.f7[i] = e at *
    simp only [S25.av] at hst
    by_cases z : e = 0
    · rw [if_neg (show ¬ (e ≠ 0) from fun h => h z), ← ih]
      subst z
      clear ih
      unfold ckfP ckstP
      rw [lh_as l_config_Check_0.eq_1]
      simp -implicitDefEqProofs only [eqs, eqd, eqe, ↓reduceIte, reduceCtorEq, Nat.reduceEqDiff, Nat.reduceAdd, Nat.reduceSub, Nat.reduceMul, Nat.reduceLT, Nat.reduceLeDiff, Nat.reduceBEq, Nat.reduceBNe, Nat.reduceGT, Int.reduceEq, Int.reduceLT, Int.reduceLE, Int.reduceToNat, Int.reduceAdd, Int.reduceSub, Int.reduceMul, Int.reduceNeg, Int.reduceBEq, Int.reduceBNe, nx_nil, S25.av, c1, w1, hst, Int.natCast_add]
    · have z' : (e != 0) = true := by simpa using z
      rw [if_pos z]
      clear ih
      unfold ckfP ckstP rE
      rw [lh_as l_config_Check_0.eq_1]
      simp -implicitDefEqProofs only [eqs, eqd, eqe, ↓reduceIte, reduceCtorEq, Nat.reduceEqDiff, Nat.reduceAdd, Nat.reduceSub, Nat.reduceMul, Nat.reduceLT, Nat.reduceLeDiff, Nat.reduceBEq, Nat.reduceBNe, Nat.reduceGT, Int.reduceEq, Int.reduceLT, Int.reduceLE, Int.reduceToNat, Int.reduceAdd, Int.reduceSub, Int.reduceMul, Int.reduceNeg, Int.reduceBEq, Int.reduceBNe, nx_nil, S25.av, c1, w2, hst, z']
def ckstR (c : Clu) (i : Nat) : St := ⟨[(1, .ptr 0 0), (6, .v (.int .i64 i))], [⟨true, true, true, c.av⟩], 1, []⟩
noncomputable abbrev ckfR (C : CT) (lf : Nat) (s : St) (N : Nat) : Option Res := FnR [.t 2, .t 3] false false (Lh C lf (some s) [1, 6] l_fuglemanref20_Check_0 N [.b 0, .c l_fuglemanref20_Check_1])
theorem ck_runR (k : Nat) (hk : 250 ≤ k) (lf : Nat) (c : Clu) (hs : Sml c) : ∀ (m i N : Nat), i + m = c.f7.length → m ≤ N → ckfR (acall T (k + 14)) lf (ckstR c i) N = some ⟨rE (chF c m i), [], 1⟩
  | 0, i, N, hi, hN => by
    obtain rfl : i = c.f7.length := by omega
    have c1 : ¬ (c.f7.length : Int) < c.f7.length := by omega
    rw [chF]
    unfold ckfR ckstR rE
    rw [lh_as l_fuglemanref20_Check_0.eq_1]
    simp -implicitDefEqProofs only [eqs, eqd, eqe, ↓reduceIte, reduceCtorEq, Nat.reduceEqDiff, Nat.reduceAdd, Nat.reduceSub, Nat.reduceMul, Nat.reduceLT, Nat.reduceLeDiff, Nat.reduceBEq, Nat.reduceBNe, Nat.reduceGT, Int.reduceEq, Int.reduceLT, Int.reduceLE, Int.reduceToNat, Int.reduceAdd, Int.reduceSub, Int.reduceMul, Int.reduceNeg, Int.reduceBEq, Int.reduceBNe, nx_nil, l_fuglemanref20_Check_1, S25.av, c1]
  | m + 1, i, N, hi', hN => by
    obtain ⟨N, rfl⟩ : ∃ M, N = M + 1 := ⟨N - 1, by omega⟩
    have hi : i < c.f7.length := by omega
    have ih := ck_runR k hk lf c hs m (i + 1) N (by omega) (by omega)
    have c1 : (i : Int) < c.f7.length := by omega
    have hL := hs.st
    have w1 : IntKind.i64.wrap ((i : Int) + 1) = i + 1 := w64 (by omega) (by omega)
    have w2 : IntKind.i64.wrap (100 + (i : Int)) = 100 + i := w64 (by omega) (by omega)
    have hst := rstation_a k hk c hs.bl hs.st i hi (hs.sub i hi) (hs.pub i hi) (hs.cod i hi)
    rw [chF, dif_pos hi]
    generalize stE c i c.f7[i] = e at *
    simp only [S25.av] at hst
    by_cases z : e = 0
    · rw [if_neg (show ¬ (e ≠ 0) from fun h => h z), ← ih]
      subst z
      clear ih
      unfold ckfR ckstR
      rw [lh_as l_fuglemanref20_Check_0.eq_1]
      simp -implicitDefEqProofs only [eqs, eqd, eqe, ↓reduceIte, reduceCtorEq, Nat.reduceEqDiff, Nat.reduceAdd, Nat.reduceSub, Nat.reduceMul, Nat.reduceLT, Nat.reduceLeDiff, Nat.reduceBEq, Nat.reduceBNe, Nat.reduceGT, Int.reduceEq, Int.reduceLT, Int.reduceLE, Int.reduceToNat, Int.reduceAdd, Int.reduceSub, Int.reduceMul, Int.reduceNeg, Int.reduceBEq, Int.reduceBNe, nx_nil, S25.av, c1, w1, hst, Int.natCast_add]
    · have z' : (e != 0) = true := by simpa using z
      rw [if_pos z]
      clear ih
      unfold ckfR ckstR rE
      rw [lh_as l_fuglemanref20_Check_0.eq_1]
      simp -implicitDefEqProofs only [eqs, eqd, eqe, ↓reduceIte, reduceCtorEq, Nat.reduceEqDiff, Nat.reduceAdd, Nat.reduceSub, Nat.reduceMul, Nat.reduceLT, Nat.reduceLeDiff, Nat.reduceBEq, Nat.reduceBNe, Nat.reduceGT, Int.reduceEq, Int.reduceLT, Int.reduceLE, Int.reduceToNat, Int.reduceAdd, Int.reduceSub, Int.reduceMul, Int.reduceNeg, Int.reduceBEq, Int.reduceBNe, nx_nil, S25.av, c1, w2, hst, z']
theorem Check_a (k : Nat) (hk : 250 ≤ k) (c : Clu) (hs : Sml c) : acall T (k + 20) 8 0 [.agg c.av] [] = some ⟨rE (ckF c), [], 1⟩ := by
  have hn := numbers_a (k + 17) c
  obtain ⟨d, e1, hb⟩ := bcheck_a (k + 15) (by omega) c.f6 hs.bl
  have m1 : max 1 d = 1 := Nat.max_eq_left e1
  have hi := in_a (k + 18) c.f7.length 1 32
  have hst := hs.st
  have key := ck_runP k hk (k + 19) c hs c.f7.length 0 (k + 18) (by omega) (by omega)
  have lp : ∀ (ks : List It) (s : St), Lp (acall T (k + 19)) (k + 19) [1, 29, 30] l_config_Check_0 (k + 19) ks s = Lh (acall T (k + 19)) (k + 19) (canon [1, 29, 30] s) [1, 29, 30] l_config_Check_0 (k + 18) ks := fun ks s => lp_succ (n := k + 18)
  unfold ckF
  generalize chF c c.f7.length 0 = w at *
  generalize num c = b0 at *
  generalize inn c.f7.length 1 32 = b1 at *
  unfold rE at hb
  generalize bcR c.f6 = r at *
  obtain ⟨r1, r2⟩ := r
  simp only [S25.av] at hn
  simp only at hb ⊢
  rw [acall_go (body := b_config_Check) rfl rfl (Nat.zero_le _)]
  cases b0
  · rw [if_pos rfl]
    unfold rE
    simp -implicitDefEqProofs only [eqs, eqd, eqe, ↓reduceIte, reduceCtorEq, Nat.reduceEqDiff, Nat.reduceAdd, Nat.reduceSub, Nat.reduceMul, Nat.reduceLT, Nat.reduceLeDiff, Nat.reduceBEq, Nat.reduceBNe, Nat.reduceGT, Int.reduceEq, Int.reduceLT, Int.reduceLE, Int.reduceToNat, Int.reduceAdd, Int.reduceSub, Int.reduceMul, Int.reduceNeg, Int.reduceBEq, Int.reduceBNe, b_config_Check, S25.av, hn]
  rw [if_neg (by decide)]
  by_cases z : r1 = 0
  · rw [if_neg (show ¬ (r1 ≠ 0) from fun h => h z)]
    subst z
    cases b1
    · rw [if_pos rfl]
      unfold rE
      simp -implicitDefEqProofs only [eqs, eqd, eqe, ↓reduceIte, reduceCtorEq, Nat.reduceEqDiff, Nat.reduceAdd, Nat.reduceSub, Nat.reduceMul, Nat.reduceLT, Nat.reduceLeDiff, Nat.reduceBEq, Nat.reduceBNe, Nat.reduceGT, Int.reduceEq, Int.reduceLT, Int.reduceLE, Int.reduceToNat, Int.reduceAdd, Int.reduceSub, Int.reduceMul, Int.reduceNeg, Int.reduceBEq, Int.reduceBNe, b_config_Check, S25.av, hn, hb, e1, m1, hi]
    · rw [if_neg (by decide), ← key]
      clear key
      unfold ckfP ckstP
      simp -implicitDefEqProofs only [eqs, eqd, eqe, ↓reduceIte, reduceCtorEq, Nat.reduceEqDiff, Nat.reduceAdd, Nat.reduceSub, Nat.reduceMul, Nat.reduceLT, Nat.reduceLeDiff, Nat.reduceBEq, Nat.reduceBNe, Nat.reduceGT, Int.reduceEq, Int.reduceLT, Int.reduceLE, Int.reduceToNat, Int.reduceAdd, Int.reduceSub, Int.reduceMul, Int.reduceNeg, Int.reduceBEq, Int.reduceBNe, b_config_Check, S25.av, hn, hb, e1, m1, hi, lp, Int.natCast_zero]
  · have z' : (r1 != 0) = true := by simpa using z
    rw [if_pos z]
    unfold rE
    simp -implicitDefEqProofs only [eqs, eqd, eqe, ↓reduceIte, reduceCtorEq, Nat.reduceEqDiff, Nat.reduceAdd, Nat.reduceSub, Nat.reduceMul, Nat.reduceLT, Nat.reduceLeDiff, Nat.reduceBEq, Nat.reduceBNe, Nat.reduceGT, Int.reduceEq, Int.reduceLT, Int.reduceLE, Int.reduceToNat, Int.reduceAdd, Int.reduceSub, Int.reduceMul, Int.reduceNeg, Int.reduceBEq, Int.reduceBNe, b_config_Check, S25.av, hn, hb, e1, m1, z']
theorem rCheck_a (k : Nat) (hk : 250 ≤ k) (c : Clu) (hs : Sml c) : acall T (k + 15) 9 0 [.agg c.av] [] = some ⟨rE (ckF c), [], 1⟩ := by
  have h0 := rin_a (k + 13) c.f0 4 50
  have h1 := rin_a (k + 13) c.f1 1 10000
  have h2 := rin_a (k + 13) c.f2 1 50
  have h3 := rin_a (k + 13) c.f3 0 3
  have h4 := rin_a (k + 13) c.f4 1 65535
  have h5 := rin_a (k + 13) c.f5 0 31
  obtain ⟨d, e1, hb⟩ := rbcheck_a (k + 12) (by omega) c.f6 hs.bl
  have m1 : max 1 d = 1 := Nat.max_eq_left e1
  have hi := rin_a (k + 13) c.f7.length 1 32
  have hst := hs.st
  have key := ck_runR k hk (k + 14) c hs c.f7.length 0 (k + 13) (by omega) (by omega)
  have lp : ∀ (ks : List It) (s : St), Lp (acall T (k + 14)) (k + 14) [1, 6] l_fuglemanref20_Check_0 (k + 14) ks s = Lh (acall T (k + 14)) (k + 14) (canon [1, 6] s) [1, 6] l_fuglemanref20_Check_0 (k + 13) ks := fun ks s => lp_succ (n := k + 13)
  unfold ckF num
  generalize chF c c.f7.length 0 = w at *
  generalize inn c.f0 4 50 = b0 at *
  generalize inn c.f1 1 10000 = b1 at *
  generalize inn c.f2 1 50 = b2 at *
  generalize inn c.f3 0 3 = b3 at *
  generalize inn c.f4 1 65535 = b4 at *
  generalize inn c.f5 0 31 = b5 at *
  generalize inn c.f7.length 1 32 = bi at *
  unfold rE at hb
  generalize bcR c.f6 = r at *
  obtain ⟨r1, r2⟩ := r
  simp only at hb ⊢
  rw [acall_go (body := b_fuglemanref20_Check) rfl rfl (Nat.zero_le _)]
  cases b0
  · rw [if_pos (by rfl)]
    unfold rE
    simp -implicitDefEqProofs only [eqs, eqd, eqe, ↓reduceIte, reduceCtorEq, Nat.reduceEqDiff, Nat.reduceAdd, Nat.reduceSub, Nat.reduceMul, Nat.reduceLT, Nat.reduceLeDiff, Nat.reduceBEq, Nat.reduceBNe, Nat.reduceGT, Int.reduceEq, Int.reduceLT, Int.reduceLE, Int.reduceToNat, Int.reduceAdd, Int.reduceSub, Int.reduceMul, Int.reduceNeg, Int.reduceBEq, Int.reduceBNe, b_fuglemanref20_Check, S25.av, h0]
  cases b1
  · rw [if_pos (by rfl)]
    unfold rE
    simp -implicitDefEqProofs only [eqs, eqd, eqe, ↓reduceIte, reduceCtorEq, Nat.reduceEqDiff, Nat.reduceAdd, Nat.reduceSub, Nat.reduceMul, Nat.reduceLT, Nat.reduceLeDiff, Nat.reduceBEq, Nat.reduceBNe, Nat.reduceGT, Int.reduceEq, Int.reduceLT, Int.reduceLE, Int.reduceToNat, Int.reduceAdd, Int.reduceSub, Int.reduceMul, Int.reduceNeg, Int.reduceBEq, Int.reduceBNe, b_fuglemanref20_Check, S25.av, h0, h1]
  cases b2
  · rw [if_pos (by rfl)]
    unfold rE
    simp -implicitDefEqProofs only [eqs, eqd, eqe, ↓reduceIte, reduceCtorEq, Nat.reduceEqDiff, Nat.reduceAdd, Nat.reduceSub, Nat.reduceMul, Nat.reduceLT, Nat.reduceLeDiff, Nat.reduceBEq, Nat.reduceBNe, Nat.reduceGT, Int.reduceEq, Int.reduceLT, Int.reduceLE, Int.reduceToNat, Int.reduceAdd, Int.reduceSub, Int.reduceMul, Int.reduceNeg, Int.reduceBEq, Int.reduceBNe, b_fuglemanref20_Check, S25.av, h0, h1, h2]
  cases b3
  · rw [if_pos (by rfl)]
    unfold rE
    simp -implicitDefEqProofs only [eqs, eqd, eqe, ↓reduceIte, reduceCtorEq, Nat.reduceEqDiff, Nat.reduceAdd, Nat.reduceSub, Nat.reduceMul, Nat.reduceLT, Nat.reduceLeDiff, Nat.reduceBEq, Nat.reduceBNe, Nat.reduceGT, Int.reduceEq, Int.reduceLT, Int.reduceLE, Int.reduceToNat, Int.reduceAdd, Int.reduceSub, Int.reduceMul, Int.reduceNeg, Int.reduceBEq, Int.reduceBNe, b_fuglemanref20_Check, S25.av, h0, h1, h2, h3]
  cases b4
  · rw [if_pos (by rfl)]
    unfold rE
    simp -implicitDefEqProofs only [eqs, eqd, eqe, ↓reduceIte, reduceCtorEq, Nat.reduceEqDiff, Nat.reduceAdd, Nat.reduceSub, Nat.reduceMul, Nat.reduceLT, Nat.reduceLeDiff, Nat.reduceBEq, Nat.reduceBNe, Nat.reduceGT, Int.reduceEq, Int.reduceLT, Int.reduceLE, Int.reduceToNat, Int.reduceAdd, Int.reduceSub, Int.reduceMul, Int.reduceNeg, Int.reduceBEq, Int.reduceBNe, b_fuglemanref20_Check, S25.av, h0, h1, h2, h3, h4]
  cases b5
  · rw [if_pos (by rfl)]
    unfold rE
    simp -implicitDefEqProofs only [eqs, eqd, eqe, ↓reduceIte, reduceCtorEq, Nat.reduceEqDiff, Nat.reduceAdd, Nat.reduceSub, Nat.reduceMul, Nat.reduceLT, Nat.reduceLeDiff, Nat.reduceBEq, Nat.reduceBNe, Nat.reduceGT, Int.reduceEq, Int.reduceLT, Int.reduceLE, Int.reduceToNat, Int.reduceAdd, Int.reduceSub, Int.reduceMul, Int.reduceNeg, Int.reduceBEq, Int.reduceBNe, b_fuglemanref20_Check, S25.av, h0, h1, h2, h3, h4, h5]
  rw [if_neg (by decide)]
  by_cases z : r1 = 0
  · rw [if_neg (show ¬ (r1 ≠ 0) from fun h => h z)]
    subst z
    cases bi
    · rw [if_pos (by rfl)]
      unfold rE
      simp -implicitDefEqProofs only [eqs, eqd, eqe, ↓reduceIte, reduceCtorEq, Nat.reduceEqDiff, Nat.reduceAdd, Nat.reduceSub, Nat.reduceMul, Nat.reduceLT, Nat.reduceLeDiff, Nat.reduceBEq, Nat.reduceBNe, Nat.reduceGT, Int.reduceEq, Int.reduceLT, Int.reduceLE, Int.reduceToNat, Int.reduceAdd, Int.reduceSub, Int.reduceMul, Int.reduceNeg, Int.reduceBEq, Int.reduceBNe, b_fuglemanref20_Check, S25.av, h0, h1, h2, h3, h4, h5, hb, e1, m1, hi]
    · rw [if_neg (by decide), ← key]
      clear key
      unfold ckfR ckstR
      simp -implicitDefEqProofs only [eqs, eqd, eqe, ↓reduceIte, reduceCtorEq, Nat.reduceEqDiff, Nat.reduceAdd, Nat.reduceSub, Nat.reduceMul, Nat.reduceLT, Nat.reduceLeDiff, Nat.reduceBEq, Nat.reduceBNe, Nat.reduceGT, Int.reduceEq, Int.reduceLT, Int.reduceLE, Int.reduceToNat, Int.reduceAdd, Int.reduceSub, Int.reduceMul, Int.reduceNeg, Int.reduceBEq, Int.reduceBNe, b_fuglemanref20_Check, S25.av, h0, h1, h2, h3, h4, h5, hb, e1, m1, hi, lp, Int.natCast_zero]
  · have z' : (r1 != 0) = true := by simpa using z
    rw [if_pos z]
    unfold rE
    simp -implicitDefEqProofs only [eqs, eqd, eqe, ↓reduceIte, reduceCtorEq, Nat.reduceEqDiff, Nat.reduceAdd, Nat.reduceSub, Nat.reduceMul, Nat.reduceLT, Nat.reduceLeDiff, Nat.reduceBEq, Nat.reduceBNe, Nat.reduceGT, Int.reduceEq, Int.reduceLT, Int.reduceLE, Int.reduceToNat, Int.reduceAdd, Int.reduceSub, Int.reduceMul, Int.reduceNeg, Int.reduceBEq, Int.reduceBNe, b_fuglemanref20_Check, S25.av, h0, h1, h2, h3, h4, h5, hb, e1, m1, z']
end Go.Proofs.Ytcfokbhmchcgbaa.Cfg

/- Small. -/
namespace Go.Proofs.Ytcfokbhmchcgbaa.Cfg
open Go Go.Proofs.Ytcfokbhmchcgbaa.Sym Go.Proofs.Ytcfokbhmchcgbaa.Tab Go.Proofs.Ytcfokbhmchcgbaa.Args
set_option linter.unusedVariables false
set_option linter.unusedSimpArgs false
set_option maxHeartbeats 4000000
set_option maxRecDepth 20000
/-- No more than that of each. -/
def fits (y : Sta) : Prop := y.f3.length ≤ 210 ∧ y.f4.length ≤ 40 ∧ y.f5.length ≤ 40
instance (y : Sta) : Decidable (fits y) := by unfold fits; infer_instance
def smst (c : Clu) (i : Nat) : St := ⟨[(16, .shr c.f7.length false (c.f7.flatMap S37.av)), (17, .v (.int .i64 c.f7.length)), (18, .v (.int .i64 i))], [], 1, []⟩
noncomputable abbrev smfin (C : CT) (lf : Nat) (s : St) (N : Nat) : Option Res := FnR [.t 2] false false (Lh C lf (some s) [16, 17, 18] l_fuglemanlaw20_Small_0 N [.b 0, .c l_fuglemanlaw20_Small_1])
theorem small_one (C : CT) (lf : Nat) (c : Clu) (hL : c.f7.length ≤ 250) (i : Nat) (hi : i < c.f7.length) (N : Nat) : smfin C lf (smst c i) (N + 1) = if fits c.f7[i] then smfin C lf (smst c (i + 1)) N else some ⟨.v (.bool false), [], 1⟩ := by
  have c1 : (i : Int) < c.f7.length := by omega
  have c0 : (0 : Int) ≤ i := by omega
  have w1 : IntKind.i64.wrap ((i : Int) + 1) = i + 1 := w64 (by omega) (by omega)
  have h5 := chunk S37.av 6 sta_len c.f7 i hi
  have l5 : i * 6 + 6 ≤ c.f7.length * 6 := by omega
  have hl := chunk_len S37.av 6 sta_len c.f7
  unfold smfin smst
  rw [lh_as l_fuglemanlaw20_Small_0.eq_1]
  generalize c.f7[i] = y at *
  generalize c.f7.flatMap S37.av = cs at *
  generalize c.f7.length = n at *
  by_cases d1 : (210 : Int) < y.f3.length
  · rw [if_neg (fun h => by have := h.1; omega)]
    simp -implicitDefEqProofs only [eqs, eqd, eqe, ↓reduceIte, reduceCtorEq, Nat.reduceEqDiff, Nat.reduceAdd, Nat.reduceSub, Nat.reduceMul, Nat.reduceLT, Nat.reduceLeDiff, Nat.reduceBEq, Nat.reduceBNe, Nat.reduceGT, Int.reduceEq, Int.reduceLT, Int.reduceLE, Int.reduceToNat, Int.reduceAdd, Int.reduceSub, Int.reduceMul, Int.reduceNeg, Int.reduceBEq, Int.reduceBNe, nx_nil, S37.av, c0, c1, w1, h5, l5, hl, d1, Int.toNat_natCast, Int.natCast_add]
  by_cases d2 : (40 : Int) < y.f4.length
  · rw [if_neg (fun h => by have := h.2.1; omega)]
    simp -implicitDefEqProofs only [eqs, eqd, eqe, ↓reduceIte, reduceCtorEq, Nat.reduceEqDiff, Nat.reduceAdd, Nat.reduceSub, Nat.reduceMul, Nat.reduceLT, Nat.reduceLeDiff, Nat.reduceBEq, Nat.reduceBNe, Nat.reduceGT, Int.reduceEq, Int.reduceLT, Int.reduceLE, Int.reduceToNat, Int.reduceAdd, Int.reduceSub, Int.reduceMul, Int.reduceNeg, Int.reduceBEq, Int.reduceBNe, nx_nil, S37.av, c0, c1, w1, h5, l5, hl, d1, d2, Int.toNat_natCast, Int.natCast_add]
  by_cases d3 : (40 : Int) < y.f5.length
  · rw [if_neg (fun h => by have := h.2.2; omega)]
    simp -implicitDefEqProofs only [eqs, eqd, eqe, ↓reduceIte, reduceCtorEq, Nat.reduceEqDiff, Nat.reduceAdd, Nat.reduceSub, Nat.reduceMul, Nat.reduceLT, Nat.reduceLeDiff, Nat.reduceBEq, Nat.reduceBNe, Nat.reduceGT, Int.reduceEq, Int.reduceLT, Int.reduceLE, Int.reduceToNat, Int.reduceAdd, Int.reduceSub, Int.reduceMul, Int.reduceNeg, Int.reduceBEq, Int.reduceBNe, nx_nil, S37.av, c0, c1, w1, h5, l5, hl, d1, d2, d3, Int.toNat_natCast, Int.natCast_add]
  rw [if_pos ⟨by omega, by omega, by omega⟩]
  simp -implicitDefEqProofs only [eqs, eqd, eqe, ↓reduceIte, reduceCtorEq, Nat.reduceEqDiff, Nat.reduceAdd, Nat.reduceSub, Nat.reduceMul, Nat.reduceLT, Nat.reduceLeDiff, Nat.reduceBEq, Nat.reduceBNe, Nat.reduceGT, Int.reduceEq, Int.reduceLT, Int.reduceLE, Int.reduceToNat, Int.reduceAdd, Int.reduceSub, Int.reduceMul, Int.reduceNeg, Int.reduceBEq, Int.reduceBNe, nx_nil, S37.av, c0, c1, w1, h5, l5, hl, d1, d2, d3, Int.toNat_natCast, Int.natCast_add]
theorem small_end (C : CT) (lf : Nat) (c : Clu) (N : Nat) : smfin C lf (smst c c.f7.length) N = some ⟨.v (.bool true), [], 1⟩ := by
  have c1 : ¬ (c.f7.length : Int) < c.f7.length := by omega
  unfold smfin smst
  rw [lh_as l_fuglemanlaw20_Small_0.eq_1]
  generalize c.f7.flatMap S37.av = cs at *
  simp -implicitDefEqProofs only [eqs, eqd, eqe, ↓reduceIte, reduceCtorEq, Nat.reduceEqDiff, Nat.reduceAdd, Nat.reduceSub, Nat.reduceMul, Nat.reduceLT, Nat.reduceLeDiff, Nat.reduceBEq, Nat.reduceBNe, Nat.reduceGT, Int.reduceEq, Int.reduceLT, Int.reduceLE, Int.reduceToNat, Int.reduceAdd, Int.reduceSub, Int.reduceMul, Int.reduceNeg, Int.reduceBEq, Int.reduceBNe, nx_nil, l_fuglemanlaw20_Small_1, c1]
theorem small_run (C : CT) (lf : Nat) (c : Clu) (hL : c.f7.length ≤ 250) : ∀ (m i N : Nat), i + m = c.f7.length → m ≤ N → smfin C lf (smst c i) N = some ⟨.v (.bool false), [], 1⟩ ∨ (smfin C lf (smst c i) N = some ⟨.v (.bool true), [], 1⟩ ∧ ∀ (j : Nat) (h : j < c.f7.length), i ≤ j → fits c.f7[j])
  | 0, i, N, hi, hN => by
    obtain rfl : i = c.f7.length := by omega
    exact Or.inr ⟨small_end C lf c N, fun j h hj => by omega⟩
  | m + 1, i, N, hi, hN => by
    obtain ⟨N, rfl⟩ : ∃ M, N = M + 1 := ⟨N - 1, by omega⟩
    have h : i < c.f7.length := by omega
    rw [small_one C lf c hL i h N]
    by_cases e : fits c.f7[i]
    · rw [if_pos e]
      rcases small_run C lf c hL m (i + 1) N (by omega) (by omega) with q | ⟨q1, q2⟩
      · exact Or.inl q
      · refine Or.inr ⟨q1, fun j hj hij => ?_⟩
        by_cases z : j = i
        · subst z; exact e
        · exact q2 j hj (by omega)
    · rw [if_neg e]
      exact Or.inl rfl
theorem small_a (k : Nat) (hk : 250 ≤ k) (c : Clu) : acall T (k + 1) 7 0 [.agg c.av] [] = some ⟨.v (.bool false), [], 1⟩ ∨ (acall T (k + 1) 7 0 [.agg c.av] [] = some ⟨.v (.bool true), [], 1⟩ ∧ c.f7.length ≤ 40 ∧ c.f6.length ≤ 40 ∧ ∀ (j : Nat) (h : j < c.f7.length), fits c.f7[j]) := by
  by_cases d1 : (40 : Int) < c.f7.length
  · refine Or.inl ?_
    rw [acall_go (body := b_fuglemanlaw20_Small) rfl rfl (Nat.zero_le _)]
    simp -implicitDefEqProofs only [eqs, eqd, eqe, lh_some, ↓reduceIte, reduceCtorEq, Nat.reduceEqDiff, Nat.reduceAdd, Nat.reduceSub, Nat.reduceMul, Nat.reduceLT, Nat.reduceLeDiff, Nat.reduceBEq, Nat.reduceBNe, Nat.reduceGT, Int.reduceEq, Int.reduceLT, Int.reduceLE, Int.reduceToNat, Int.reduceAdd, Int.reduceSub, Int.reduceMul, Int.reduceNeg, Int.reduceBEq, Int.reduceBNe, b_fuglemanlaw20_Small, S25.av, d1]
  by_cases d2 : (40 : Int) < c.f6.length
  · refine Or.inl ?_
    rw [acall_go (body := b_fuglemanlaw20_Small) rfl rfl (Nat.zero_le _)]
    simp -implicitDefEqProofs only [eqs, eqd, eqe, lh_some, ↓reduceIte, reduceCtorEq, Nat.reduceEqDiff, Nat.reduceAdd, Nat.reduceSub, Nat.reduceMul, Nat.reduceLT, Nat.reduceLeDiff, Nat.reduceBEq, Nat.reduceBNe, Nat.reduceGT, Int.reduceEq, Int.reduceLT, Int.reduceLE, Int.reduceToNat, Int.reduceAdd, Int.reduceSub, Int.reduceMul, Int.reduceNeg, Int.reduceBEq, Int.reduceBNe, b_fuglemanlaw20_Small, S25.av, d1, d2]
  obtain ⟨m, rfl⟩ : ∃ m, k = m + 1 := ⟨k - 1, by omega⟩
  have lp : ∀ (ks : List It) (s : St), Lp (acall T (m + 1)) (m + 1) [16, 17, 18] l_fuglemanlaw20_Small_0 (m + 1) ks s = Lh (acall T (m + 1)) (m + 1) (canon [16, 17, 18] s) [16, 17, 18] l_fuglemanlaw20_Small_0 m ks := fun ks s => lp_succ (n := m)
  have e : acall T (m + 1 + 1) 7 0 [.agg c.av] [] = smfin (acall T (m + 1)) (m + 1) (smst c 0) m := by
    rw [acall_go (body := b_fuglemanlaw20_Small) rfl rfl (Nat.zero_le _)]
    unfold smfin smst
    simp -implicitDefEqProofs only [eqs, eqd, eqe, ↓reduceIte, reduceCtorEq, Nat.reduceEqDiff, Nat.reduceAdd, Nat.reduceSub, Nat.reduceMul, Nat.reduceLT, Nat.reduceLeDiff, Nat.reduceBEq, Nat.reduceBNe, Nat.reduceGT, Int.reduceEq, Int.reduceLT, Int.reduceLE, Int.reduceToNat, Int.reduceAdd, Int.reduceSub, Int.reduceMul, Int.reduceNeg, Int.reduceBEq, Int.reduceBNe, b_fuglemanlaw20_Small, S25.av, d1, d2, lp, Int.natCast_zero]
  rw [e]
  rcases small_run (acall T (m + 1)) (m + 1) c (by omega) c.f7.length 0 m (by omega) (by omega) with q | ⟨q1, q2⟩
  · exact Or.inl q
  · exact Or.inr ⟨q1, by omega, by omega, fun j hj => q2 j hj (Nat.zero_le _)⟩
end Go.Proofs.Ytcfokbhmchcgbaa.Cfg

/- awake answers true. -/
namespace Go.Proofs.Ytcfokbhmchcgbaa.CAwk
open Go Go.Proofs.Ytcfokbhmchcgbaa.Sym Go.Proofs.Ytcfokbhmchcgbaa.Tab
theorem awake_a : acall T 299 6 0 [] [] = some ⟨.v (.bool true), [], 1⟩ := by kernel_rfl
end Go.Proofs.Ytcfokbhmchcgbaa.CAwk

/- The law ConfigChecks. -/
namespace Go.Proofs.Ytcfokbhmchcgbaa.Said
open Go Go.Proofs.Ytcfokbhmchcgbaa.Sym Go.Proofs.Ytcfokbhmchcgbaa.Tab Go.Proofs.Ytcfokbhmchcgbaa.Args Go.Proofs.Ytcfokbhmchcgbaa.Cfg Go.Proofs.Ytcfokbhmchcgbaa.CAwk
set_option linter.unusedVariables false
set_option linter.unusedSimpArgs false
set_option maxHeartbeats 4000000
set_option maxRecDepth 20000
theorem ConfigChecks : ∀ (a0 : S25), S25.In a0 → ∃ ob d, acall T 300 3 0 [.agg a0.av] [] = some ⟨.v (.bool true), ob, d⟩ := fun c hc => by
  refine ⟨[], 1, ?_⟩
  rw [acall_go (body := b_fuglemanlaw20_ConfigChecks) rfl rfl (Nat.zero_le _)]
  rcases small_a 298 (by omega) c with h1 | ⟨h1, hL, hB, hf⟩
  · simp only [S25.av] at h1
    simp -implicitDefEqProofs only [eqs, eqd, eqe, lh_some, ↓reduceIte, reduceCtorEq, Nat.reduceEqDiff, Nat.reduceAdd, Nat.reduceSub, Nat.reduceMul, Nat.reduceLT, Nat.reduceLeDiff, Nat.reduceBEq, Nat.reduceBNe, Nat.reduceGT, Int.reduceEq, Int.reduceLT, Int.reduceLE, Int.reduceToNat, Int.reduceAdd, Int.reduceSub, Int.reduceMul, Int.reduceNeg, Int.reduceBEq, Int.reduceBNe, b_fuglemanlaw20_ConfigChecks, awake_a, S25.av, h1]
  have hs : Sml c := ⟨by omega, by omega, fun j h => by have := (hf j h).2.1; omega, fun j h => by have := (hf j h).2.2; omega, fun j h i0 x0 hx => (hc.f7.2 j _ (List.getElem?_eq_getElem h)).f3.2 i0 x0 hx⟩
  have h2 := Check_a 279 (by omega) c hs
  have h3 := rCheck_a 284 (by omega) c hs
  unfold rE at h2 h3
  generalize ckF c = r at *
  obtain ⟨r1, r2⟩ := r
  simp only [S25.av] at h1 h2 h3
  simp -implicitDefEqProofs only [eqs, eqd, eqe, lh_some, ↓reduceIte, reduceCtorEq, Nat.reduceEqDiff, Nat.reduceAdd, Nat.reduceSub, Nat.reduceMul, Nat.reduceLT, Nat.reduceLeDiff, Nat.reduceBEq, Nat.reduceBNe, Nat.reduceGT, Int.reduceEq, Int.reduceLT, Int.reduceLE, Int.reduceToNat, Int.reduceAdd, Int.reduceSub, Int.reduceMul, Int.reduceNeg, Int.reduceBEq, Int.reduceBNe, b_fuglemanlaw20_ConfigChecks, awake_a, S25.av, h1, h2, h3]
end Go.Proofs.Ytcfokbhmchcgbaa.Said
