/- Where blocks may lie: the program's. -/
import Derived.Test.YtcfokbhmchcgbaaMg14125274
import Derived.Test.YtcfokbhmchcgbaaMg237239c0
namespace Go.Proofs.Ytcfokbhmchcgbaa.Cfg
open Go Go.Proofs.Ytcfokbhmchcgbaa.Sym Go.Proofs.Ytcfokbhmchcgbaa.Tab Go.Proofs.Ytcfokbhmchcgbaa.Args
set_option linter.unusedVariables false
set_option linter.unusedSimpArgs false
set_option maxHeartbeats 4000000
set_option maxRecDepth 20000
def msk (at_ n : Int) : Int := if 64 ≤ n then IntKind.u64.wrap (18446744073709551615 * 2 ^ min at_.toNat IntKind.u64.bits) else IntKind.u64.wrap (IntKind.u64.wrap (IntKind.u64.wrap (1 * 2 ^ min n.toNat IntKind.u64.bits) - 1) * 2 ^ min at_.toNat IntKind.u64.bits)
theorem mask_a (k : Nat) (at_ n : Int) (h0 : 0 ≤ at_) (h1 : 0 ≤ n) : acall T (k + 1) 52 0 [.v (.int .i64 at_), .v (.int .i64 n)] [] = some ⟨.v (.int .u64 (msk at_ n)), [], 0⟩ := by
  rw [acall_go (body := b_image_mask) rfl rfl (Nat.zero_le _)]
  have c0 : ¬ at_ < 0 := by omega
  have c1 : ¬ n < 0 := by omega
  unfold msk
  by_cases c : 64 ≤ n
  · rw [if_pos c]
    simp -implicitDefEqProofs only [eqs, eqd, eqe, lh_some, ↓reduceIte, reduceCtorEq, Nat.reduceEqDiff, Nat.reduceAdd, Nat.reduceSub, Nat.reduceMul, Nat.reduceLT, Nat.reduceLeDiff, Nat.reduceBEq, Nat.reduceBNe, Nat.reduceGT, Int.reduceEq, Int.reduceLT, Int.reduceLE, Int.reduceToNat, Int.reduceAdd, Int.reduceSub, Int.reduceMul, Int.reduceNeg, Int.reduceBEq, Int.reduceBNe, b_image_mask, c, c0]
  · rw [if_neg c]
    simp -implicitDefEqProofs only [eqs, eqd, eqe, lh_some, ↓reduceIte, reduceCtorEq, Nat.reduceEqDiff, Nat.reduceAdd, Nat.reduceSub, Nat.reduceMul, Nat.reduceLT, Nat.reduceLeDiff, Nat.reduceBEq, Nat.reduceBNe, Nat.reduceGT, Int.reduceEq, Int.reduceLT, Int.reduceLE, Int.reduceToNat, Int.reduceAdd, Int.reduceSub, Int.reduceMul, Int.reduceNeg, Int.reduceBEq, Int.reduceBNe, b_image_mask, c, c0, c1]
/-! plain -/
abbrev B64 (x : Int) : BitVec 64 := BitVec.ofInt 64 x
theorem u64w (x : Int) (h : 0 ≤ x ∧ x < 18446744073709551616) : IntKind.u64.wrap x = x := wu64 h.1 (by omega)
theorem p2c (n : Nat) : ((2 : Int) ^ n) = ((2 ^ n : Nat) : Int) := by rw [Int.natCast_pow]; rfl
theorem msk_nat (a n : Nat) (h : a + n ≤ 64) : msk a n = (((2 ^ n - 1) * 2 ^ a : Nat) : Int) ∧ (2 ^ n - 1) * 2 ^ a < 18446744073709551616 := by
  have hb : (2 ^ n - 1) * 2 ^ a < 18446744073709551616 := by
    have h1 : (2 ^ n - 1) * 2 ^ a < 2 ^ n * 2 ^ a := Nat.mul_lt_mul_of_pos_right (Nat.sub_lt (Nat.two_pow_pos n) (by decide)) (Nat.two_pow_pos a)
    have h2 : 2 ^ n * 2 ^ a ≤ 2 ^ 64 := by rw [← Nat.pow_add]; exact Nat.pow_le_pow_right (by decide) (by omega)
    have h3 : (2 : Nat) ^ 64 = 18446744073709551616 := by decide
    omega
  refine ⟨?_, hb⟩
  unfold msk
  have ea : min (a : Int).toNat IntKind.u64.bits = a := by rw [Int.toNat_natCast]; exact Nat.min_eq_left (by show a ≤ 64; omega)
  by_cases c : (64 : Int) ≤ n
  · have hn : n = 64 := by omega
    have ha : a = 0 := by omega
    subst hn
    subst ha
    rw [if_pos c]
    rfl
  · rw [if_neg c, ea]
    have en : min (n : Int).toNat IntKind.u64.bits = n := by rw [Int.toNat_natCast]; exact Nat.min_eq_left (by show n ≤ 64; omega)
    have hp : 2 ^ n < 18446744073709551616 := by
      have h2 : 2 ^ n < 2 ^ 64 := Nat.pow_lt_pow_right (by decide) (by omega)
      have h3 : (2 : Nat) ^ 64 = 18446744073709551616 := by decide
      omega
    have hpos : 0 < 2 ^ n := Nat.two_pow_pos n
    rw [en, Int.one_mul, p2c, p2c]
    generalize 2 ^ n = x at *
    generalize 2 ^ a = y at *
    rw [u64w (x : Int) (by omega), u64w ((x : Int) - 1) (by omega), show ((x : Int) - 1) = ((x - 1 : Nat) : Int) by omega, ← Int.natCast_mul]
    generalize (x - 1) * y = z at *
    exact u64w (z : Int) (by omega)
theorem b64_nat (x : Nat) (h : x < 18446744073709551616) : B64 (x : Int) = BitVec.ofNat 64 x := by
  apply BitVec.eq_of_toNat_eq
  rw [BitVec.toNat_ofInt, BitVec.toNat_ofNat]
  omega
theorem msk_bit (a n k : Nat) (h : a + n ≤ 64) (hk : k < 64) : (B64 (msk a n)).getLsbD k = (decide (a ≤ k) && decide (k < a + n)) := by
  obtain ⟨e, hb⟩ := msk_nat a n h
  rw [e, b64_nat _ hb, BitVec.getLsbD_ofNat, Nat.testBit_mul_two_pow, Nat.testBit_two_pow_sub_one]
  by_cases c : a ≤ k
  · by_cases d : k < a + n
    · simp [hk, c, d]; omega
    · simp [hk, c, d]; omega
  · simp [c]
def setN : List Bool → Nat → Nat → List Bool
  | U, 0, _ => U
  | U, m + 1, k => setN (U.set k true) m (k + 1)
def hitN (U : List Bool) : Nat → Nat → Bool
  | 0, _ => false
  | m + 1, k => U.getD k false || hitN U m (k + 1)
theorem setN_len : ∀ (m k : Nat) (U : List Bool), (setN U m k).length = U.length
  | 0, k, U => rfl
  | m + 1, k, U => by rw [setN, setN_len m, List.length_set]
theorem setN_get : ∀ (m k : Nat) (U : List Bool) (j : Nat), j < U.length → (setN U m k).getD j false = (U.getD j false || (decide (k ≤ j) && decide (j < k + m)))
  | 0, k, U, j, h => by
    rw [setN]
    have : (decide (k ≤ j) && decide (j < k + 0)) = false := by
      cases e : (decide (k ≤ j) && decide (j < k + 0))
      · rfl
      · rw [Bool.and_eq_true, decide_eq_true_eq, decide_eq_true_eq] at e; omega
    rw [this, Bool.or_false]
  | m + 1, k, U, j, h => by
    rw [setN, setN_get m (k + 1) _ j (by rw [List.length_set]; exact h), List.getD_eq_getElem?_getD, List.getD_eq_getElem?_getD, List.getElem?_set]
    by_cases c : k = j
    · subst c
      rw [if_pos rfl, if_pos h]
      simp
    · rw [if_neg c]
      congr 1
      by_cases d1 : k ≤ j
      · by_cases d2 : j < k + (m + 1)
        · have a1 : k + 1 ≤ j := by omega
          have a2 : j < k + 1 + m := by omega
          simp [d1, d2, a1, a2]
        · have a2 : ¬ j < k + 1 + m := by omega
          simp [d2, a2]
      · have a1 : ¬ k + 1 ≤ j := by omega
        simp [d1, a1]
theorem hitN_iff (U : List Bool) : ∀ (m k : Nat), hitN U m k = true ↔ ∃ j, k ≤ j ∧ j < k + m ∧ U.getD j false = true
  | 0, k => ⟨fun h => (by cases h), fun ⟨j, h1, h2, _⟩ => (by omega)⟩
  | m + 1, k => by
    rw [hitN, Bool.or_eq_true, hitN_iff U m (k + 1)]
    constructor
    · rintro (h | ⟨j, h1, h2, h3⟩)
      · exact ⟨k, by omega, by omega, h⟩
      · exact ⟨j, by omega, by omega, h3⟩
    · rintro ⟨j, h1, h2, h3⟩
      by_cases c : j = k
      · subst c; exact Or.inl h3
      · exact Or.inr ⟨j, by omega, by omega, h3⟩
structure R64 (u : Int) (U : List Bool) : Prop where
  len : U.length = 64
  bit : ∀ k, k < 64 → (B64 u).getLsbD k = U.getD k false
def orU (a b : Int) : Int := bitsV .or .u64 a b
def anU (a b : Int) : Int := bitsV .and .u64 a b
theorem orU_eq (v m : Int) : orU v m = ((B64 v ||| B64 m).toNat : Int) := by
  have h : (B64 v ||| B64 m).toNat < 18446744073709551616 := (B64 v ||| B64 m).isLt
  show IntKind.u64.wrap ((B64 v ||| B64 m).toNat : Int) = _
  exact wu64 (by omega) (by omega)
theorem anU_eq (v m : Int) : anU v m = ((B64 v &&& B64 m).toNat : Int) := by
  have h : (B64 v &&& B64 m).toNat < 18446744073709551616 := (B64 v &&& B64 m).isLt
  show IntKind.u64.wrap ((B64 v &&& B64 m).toNat : Int) = _
  exact wu64 (by omega) (by omega)
theorem b64_val (b : BitVec 64) : B64 (b.toNat : Int) = b := by
  apply BitVec.eq_of_toNat_eq
  have h : b.toNat < 2 ^ 64 := b.isLt
  rw [BitVec.toNat_ofInt]
  omega
theorem R64.or {u : Int} {U : List Bool} (h : R64 u U) (a n : Nat) (hn : a + n ≤ 64) : R64 (orU u (msk a n)) (setN U n a) where
  len := by rw [setN_len, h.len]
  bit := fun k hk => by
    rw [orU_eq, b64_val, BitVec.getLsbD_or, h.bit k hk, msk_bit a n k hn hk, setN_get n a U k (by rw [h.len]; exact hk)]
theorem R64.and {u : Int} {U : List Bool} (h : R64 u U) (a n : Nat) (hn : a + n ≤ 64) : (anU u (msk a n) != 0) = hitN U n a := by
  rw [anU_eq]
  cases e : hitN U n a
  · have hz : B64 u &&& B64 (msk a n) = 0#64 := by
      apply BitVec.eq_of_getLsbD_eq
      intro i hi
      rw [BitVec.getLsbD_and, h.bit i hi, msk_bit a n i hn hi, BitVec.getLsbD_zero]
      cases q : U.getD i false
      · rfl
      · cases q2 : (decide (a ≤ i) && decide (i < a + n))
        · rfl
        · rw [Bool.and_eq_true, decide_eq_true_eq, decide_eq_true_eq] at q2
          have := (hitN_iff U n a).2 ⟨i, q2.1, q2.2, q⟩
          rw [e] at this
          cases this
    rw [hz]
    rfl
  · obtain ⟨j, h1, h2, h3⟩ := (hitN_iff U n a).1 e
    have hb : (B64 u &&& B64 (msk a n)).getLsbD j = true := by
      rw [BitVec.getLsbD_and, h.bit j (by omega), msk_bit a n j hn (by omega), h3]
      simp [h1, h2]
    have hne : (B64 u &&& B64 (msk a n)).toNat ≠ 0 := fun hc => by
      have : B64 u &&& B64 (msk a n) = 0#64 := BitVec.eq_of_toNat_eq (by rw [hc]; rfl)
      rw [this, BitVec.getLsbD_zero] at hb
      cases hb
    simp only [bne_iff_ne, ne_eq]
    omega
def szQ : Option Blk → Int
  | none => 0
  | some b => b.f2
def rB (B : List Blk) (s : Spt) : Option Blk := fnd (fun y => y.f0) s.f0 B B.length 0
def layF (ov : Bool) (B : List Blk) (P : List Spt) : Nat → Nat → List Bool → Int × Int
  | 0, _, _ => (0, 0)
  | m + 1, i, U => if h : i < P.length then
      (if spE B P i P[i] ≠ 0 then (spE B P i P[i], i) else if ov = true ∧ hitN U (szQ (rB B P[i])).toNat P[i].f1.toNat = true then (15, i) else layF ov B P m (i + 1) (setN U (szQ (rB B P[i])).toNat P[i].f1.toNat))
    else (0, 0)
theorem spE_0 {B : List Blk} {P : List Spt} {i : Nat} {s : Spt} (h : spE B P i s = 0) : ∃ b, rB B s = some b ∧ 0 ≤ s.f1 ∧ s.f1 ≤ 64 ∧ 0 ≤ b.f2 ∧ b.f2 ≤ 64 - s.f1 := by
  unfold spE at h
  unfold rB
  generalize fnd (fun y : Blk => y.f0) s.f0 B B.length 0 = r at *
  cases r with
  | none => simp at h
  | some b =>
    simp only at h
    split at h
    · simp at h
    · split at h
      · simp at h
      · rename_i _ hb
        unfold bad at hb
        simp only [Bool.or_eq_true, decide_eq_true_eq, not_or] at hb
        exact ⟨b, rfl, by omega, by omega, by omega, by omega⟩
def lyst (ov : Bool) (B : List Blk) (P : List Spt) (i : Nat) (u : Int) (d : Nat) : St := ⟨[(0, .v (.int .u64 u)), (1, .shr P.length false (P.flatMap S56.av)), (2, .shr B.length false (B.flatMap S63.av)), (3, .v (.bool ov)), (15, .shr P.length false (P.flatMap S56.av)), (16, .v (.int .i64 P.length)), (17, .v (.int .i64 i))], [], d, []⟩
noncomputable abbrev lyfin (C : CT) (lf : Nat) (s : St) (N : Nat) : Option Res := FnR [.t 8, .t 9] false false (Lh C lf (some s) [0, 1, 2, 3, 15, 16, 17] l_image_lay_0 N [.b 0, .c l_image_lay_1])
theorem lay_one (k : Nat) (hk : 250 ≤ k) (lf : Nat) (ov : Bool) (B : List Blk) (hB : B.length ≤ 250) (P : List Spt) (hP : P.length ≤ 250) (i : Nat) (hi : i < P.length) (u : Int) (d : Nat) (hd : d ≤ 1) (N : Nat) :
    (spE B P i P[i] ≠ 0 → lyfin (acall T (k + 5)) lf (lyst ov B P i u d) (N + 1) = some ⟨rE (spE B P i P[i], i), [], 1⟩) ∧
    (spE B P i P[i] = 0 → (ov && (anU u (msk P[i].f1 (szQ (rB B P[i]))) != 0)) = true → lyfin (acall T (k + 5)) lf (lyst ov B P i u d) (N + 1) = some ⟨rE (15, i), [], 1⟩) ∧
    (spE B P i P[i] = 0 → (ov && (anU u (msk P[i].f1 (szQ (rB B P[i]))) != 0)) = false → lyfin (acall T (k + 5)) lf (lyst ov B P i u d) (N + 1) = lyfin (acall T (k + 5)) lf (lyst ov B P (i + 1) (orU u (msk P[i].f1 (szQ (rB B P[i])))) 1) N) := by
  have c1 : (i : Int) < P.length := by omega
  have c0 : (0 : Int) ≤ i := by omega
  have w1 : IntKind.i64.wrap ((i : Int) + 1) = i + 1 := w64 (by omega) (by omega)
  have h5 := chunk S56.av 2 spt_len P i hi
  have l5 : i * 2 + 2 ≤ P.length * 2 := by omega
  have hl := chunk_len S56.av 2 spt_len P
  have hs := spot_a k hk B hB P hP i hi
  have hz := @spE_0 B P i P[i]
  have hdd : d = 0 ∨ d = 1 := by omega
  unfold rB at hz ⊢
  unfold lyfin lyst rE orU anU
  rw [lh_as l_image_lay_0.eq_1]
  generalize spE B P i P[i] = e at *
  generalize fnd (fun y : Blk => y.f0) P[i].f0 B B.length 0 = r at *
  generalize P[i] = y at *
  generalize P.flatMap S56.av = cs at *
  generalize P.length = n at *
  generalize B.flatMap S63.av = bs at *
  generalize B.length = nb at *
  refine ⟨fun he => ?_, fun he hh => ?_, fun he hh => ?_⟩
  · have he' : (e != 0) = true := by simpa using he
    clear hz
    cases r with
    | none =>
      simp only [blkO] at hs
      rcases hdd with rfl | rfl
      · simp -implicitDefEqProofs only [eqs, eqd, eqe, ↓reduceIte, reduceCtorEq, Nat.reduceEqDiff, Nat.reduceAdd, Nat.reduceSub, Nat.reduceMul, Nat.reduceLT, Nat.reduceLeDiff, Nat.reduceBEq, Nat.reduceBNe, Nat.reduceGT, Int.reduceEq, Int.reduceLT, Int.reduceLE, Int.reduceToNat, Int.reduceAdd, Int.reduceSub, Int.reduceMul, Int.reduceNeg, Int.reduceBEq, Int.reduceBNe, nx_nil, S56.av, c0, c1, w1, h5, l5, hl, hs, Int.toNat_natCast, Int.natCast_add, he']
      · simp -implicitDefEqProofs only [eqs, eqd, eqe, ↓reduceIte, reduceCtorEq, Nat.reduceEqDiff, Nat.reduceAdd, Nat.reduceSub, Nat.reduceMul, Nat.reduceLT, Nat.reduceLeDiff, Nat.reduceBEq, Nat.reduceBNe, Nat.reduceGT, Int.reduceEq, Int.reduceLT, Int.reduceLE, Int.reduceToNat, Int.reduceAdd, Int.reduceSub, Int.reduceMul, Int.reduceNeg, Int.reduceBEq, Int.reduceBNe, nx_nil, S56.av, c0, c1, w1, h5, l5, hl, hs, Int.toNat_natCast, Int.natCast_add, he']
    | some b =>
      simp only [blkO, S63.av] at hs
      rcases hdd with rfl | rfl
      · simp -implicitDefEqProofs only [eqs, eqd, eqe, ↓reduceIte, reduceCtorEq, Nat.reduceEqDiff, Nat.reduceAdd, Nat.reduceSub, Nat.reduceMul, Nat.reduceLT, Nat.reduceLeDiff, Nat.reduceBEq, Nat.reduceBNe, Nat.reduceGT, Int.reduceEq, Int.reduceLT, Int.reduceLE, Int.reduceToNat, Int.reduceAdd, Int.reduceSub, Int.reduceMul, Int.reduceNeg, Int.reduceBEq, Int.reduceBNe, nx_nil, S56.av, c0, c1, w1, h5, l5, hl, hs, Int.toNat_natCast, Int.natCast_add, he']
      · simp -implicitDefEqProofs only [eqs, eqd, eqe, ↓reduceIte, reduceCtorEq, Nat.reduceEqDiff, Nat.reduceAdd, Nat.reduceSub, Nat.reduceMul, Nat.reduceLT, Nat.reduceLeDiff, Nat.reduceBEq, Nat.reduceBNe, Nat.reduceGT, Int.reduceEq, Int.reduceLT, Int.reduceLE, Int.reduceToNat, Int.reduceAdd, Int.reduceSub, Int.reduceMul, Int.reduceNeg, Int.reduceBEq, Int.reduceBNe, nx_nil, S56.av, c0, c1, w1, h5, l5, hl, hs, Int.toNat_natCast, Int.natCast_add, he']
  · obtain ⟨b, rfl, z1, z2, z3, z4⟩ := hz he
    subst he
    have hm := mask_a (k + 4) y.f1 b.f2 z1 z3
    simp only [blkO, S63.av] at hs
    simp only [szQ] at hh ⊢
    generalize msk y.f1 b.f2 = m at *
    rw [Bool.and_eq_true] at hh
    obtain ⟨rfl, hh⟩ := hh
    rcases hdd with rfl | rfl
    · simp -implicitDefEqProofs only [eqs, eqd, eqe, ↓reduceIte, reduceCtorEq, Nat.reduceEqDiff, Nat.reduceAdd, Nat.reduceSub, Nat.reduceMul, Nat.reduceLT, Nat.reduceLeDiff, Nat.reduceBEq, Nat.reduceBNe, Nat.reduceGT, Int.reduceEq, Int.reduceLT, Int.reduceLE, Int.reduceToNat, Int.reduceAdd, Int.reduceSub, Int.reduceMul, Int.reduceNeg, Int.reduceBEq, Int.reduceBNe, nx_nil, S56.av, c0, c1, w1, h5, l5, hl, hs, Int.toNat_natCast, Int.natCast_add, hm, hh]
    · simp -implicitDefEqProofs only [eqs, eqd, eqe, ↓reduceIte, reduceCtorEq, Nat.reduceEqDiff, Nat.reduceAdd, Nat.reduceSub, Nat.reduceMul, Nat.reduceLT, Nat.reduceLeDiff, Nat.reduceBEq, Nat.reduceBNe, Nat.reduceGT, Int.reduceEq, Int.reduceLT, Int.reduceLE, Int.reduceToNat, Int.reduceAdd, Int.reduceSub, Int.reduceMul, Int.reduceNeg, Int.reduceBEq, Int.reduceBNe, nx_nil, S56.av, c0, c1, w1, h5, l5, hl, hs, Int.toNat_natCast, Int.natCast_add, hm, hh]
  · obtain ⟨b, rfl, z1, z2, z3, z4⟩ := hz he
    subst he
    have hm := mask_a (k + 4) y.f1 b.f2 z1 z3
    simp only [blkO, S63.av] at hs
    simp only [szQ] at hh ⊢
    generalize msk y.f1 b.f2 = m at *
    cases ov
    · rcases hdd with rfl | rfl
      · simp -implicitDefEqProofs only [eqs, eqd, eqe, ↓reduceIte, reduceCtorEq, Nat.reduceEqDiff, Nat.reduceAdd, Nat.reduceSub, Nat.reduceMul, Nat.reduceLT, Nat.reduceLeDiff, Nat.reduceBEq, Nat.reduceBNe, Nat.reduceGT, Int.reduceEq, Int.reduceLT, Int.reduceLE, Int.reduceToNat, Int.reduceAdd, Int.reduceSub, Int.reduceMul, Int.reduceNeg, Int.reduceBEq, Int.reduceBNe, nx_nil, S56.av, c0, c1, w1, h5, l5, hl, hs, Int.toNat_natCast, Int.natCast_add, hm]
      · simp -implicitDefEqProofs only [eqs, eqd, eqe, ↓reduceIte, reduceCtorEq, Nat.reduceEqDiff, Nat.reduceAdd, Nat.reduceSub, Nat.reduceMul, Nat.reduceLT, Nat.reduceLeDiff, Nat.reduceBEq, Nat.reduceBNe, Nat.reduceGT, Int.reduceEq, Int.reduceLT, Int.reduceLE, Int.reduceToNat, Int.reduceAdd, Int.reduceSub, Int.reduceMul, Int.reduceNeg, Int.reduceBEq, Int.reduceBNe, nx_nil, S56.av, c0, c1, w1, h5, l5, hl, hs, Int.toNat_natCast, Int.natCast_add, hm]
    · rw [Bool.true_and] at hh
      rcases hdd with rfl | rfl
      · simp -implicitDefEqProofs only [eqs, eqd, eqe, ↓reduceIte, reduceCtorEq, Nat.reduceEqDiff, Nat.reduceAdd, Nat.reduceSub, Nat.reduceMul, Nat.reduceLT, Nat.reduceLeDiff, Nat.reduceBEq, Nat.reduceBNe, Nat.reduceGT, Int.reduceEq, Int.reduceLT, Int.reduceLE, Int.reduceToNat, Int.reduceAdd, Int.reduceSub, Int.reduceMul, Int.reduceNeg, Int.reduceBEq, Int.reduceBNe, nx_nil, S56.av, c0, c1, w1, h5, l5, hl, hs, Int.toNat_natCast, Int.natCast_add, hm, hh]
      · simp -implicitDefEqProofs only [eqs, eqd, eqe, ↓reduceIte, reduceCtorEq, Nat.reduceEqDiff, Nat.reduceAdd, Nat.reduceSub, Nat.reduceMul, Nat.reduceLT, Nat.reduceLeDiff, Nat.reduceBEq, Nat.reduceBNe, Nat.reduceGT, Int.reduceEq, Int.reduceLT, Int.reduceLE, Int.reduceToNat, Int.reduceAdd, Int.reduceSub, Int.reduceMul, Int.reduceNeg, Int.reduceBEq, Int.reduceBNe, nx_nil, S56.av, c0, c1, w1, h5, l5, hl, hs, Int.toNat_natCast, Int.natCast_add, hm, hh]
theorem lay_end (C : CT) (lf : Nat) (ov : Bool) (B : List Blk) (P : List Spt) (u : Int) (d : Nat) (hd : d ≤ 1) (N : Nat) : lyfin C lf (lyst ov B P P.length u d) N = some ⟨rE (0, 0), [], d⟩ := by
  have c1 : ¬ (P.length : Int) < P.length := by omega
  have hdd : d = 0 ∨ d = 1 := by omega
  unfold lyfin lyst rE
  rw [lh_as l_image_lay_0.eq_1]
  generalize P.flatMap S56.av = cs at *
  generalize B.flatMap S63.av = bs at *
  rcases hdd with rfl | rfl
  · simp -implicitDefEqProofs only [eqs, eqd, eqe, ↓reduceIte, reduceCtorEq, Nat.reduceEqDiff, Nat.reduceAdd, Nat.reduceSub, Nat.reduceMul, Nat.reduceLT, Nat.reduceLeDiff, Nat.reduceBEq, Nat.reduceBNe, Nat.reduceGT, Int.reduceEq, Int.reduceLT, Int.reduceLE, Int.reduceToNat, Int.reduceAdd, Int.reduceSub, Int.reduceMul, Int.reduceNeg, Int.reduceBEq, Int.reduceBNe, nx_nil, l_image_lay_1, c1]
  · simp -implicitDefEqProofs only [eqs, eqd, eqe, ↓reduceIte, reduceCtorEq, Nat.reduceEqDiff, Nat.reduceAdd, Nat.reduceSub, Nat.reduceMul, Nat.reduceLT, Nat.reduceLeDiff, Nat.reduceBEq, Nat.reduceBNe, Nat.reduceGT, Int.reduceEq, Int.reduceLT, Int.reduceLE, Int.reduceToNat, Int.reduceAdd, Int.reduceSub, Int.reduceMul, Int.reduceNeg, Int.reduceBEq, Int.reduceBNe, nx_nil, l_image_lay_1, c1]
theorem lay_run (k : Nat) (hk : 250 ≤ k) (lf : Nat) (ov : Bool) (B : List Blk) (hB : B.length ≤ 250) (P : List Spt) (hP : P.length ≤ 250) : ∀ (m i N d : Nat) (u : Int) (U : List Bool), i + m = P.length → m ≤ N → d ≤ 1 → R64 u U → ∃ d', d' ≤ 1 ∧ lyfin (acall T (k + 5)) lf (lyst ov B P i u d) N = some ⟨rE (layF ov B P m i U), [], d'⟩
  | 0, i, N, d, u, U, hi, hN, hd, hR => by
    obtain rfl : i = P.length := by omega
    exact ⟨d, hd, lay_end _ lf ov B P u d hd N⟩
  | m + 1, i, N, d, u, U, hi, hN, hd, hR => by
    obtain ⟨N, rfl⟩ : ∃ M, N = M + 1 := ⟨N - 1, by omega⟩
    have h : i < P.length := by omega
    obtain ⟨k1, k2, k3⟩ := lay_one k hk lf ov B hB P hP i h u d hd N
    rw [layF, dif_pos h]
    by_cases e : spE B P i P[i] = 0
    · obtain ⟨b, z0, z1, z2, z3, z4⟩ := spE_0 e
      rw [z0] at k2 k3 ⊢
      obtain ⟨a, ha⟩ : ∃ a : Nat, P[i].f1 = a := ⟨P[i].f1.toNat, by omega⟩
      obtain ⟨n, hn'⟩ : ∃ n : Nat, b.f2 = n := ⟨b.f2.toNat, by omega⟩
      have hn : szQ (some b) = n := hn'
      rw [ha, hn] at k2 k3 ⊢
      rw [if_neg (by rw [e]; simp), Int.toNat_natCast, Int.toNat_natCast]
      have hand := hR.and a n (by omega)
      rw [hand] at k2 k3
      by_cases hh : ov = true ∧ hitN U n a = true
      · rw [if_pos hh]
        exact ⟨1, Nat.le_refl _, k2 e (by rw [hh.1, hh.2]; rfl)⟩
      · rw [if_neg hh, k3 e (by
          cases q1 : ov
          · rfl
          · cases q2 : hitN U n a
            · rfl
            · exact absurd ⟨q1, q2⟩ hh)]
        exact lay_run k hk lf ov B hB P hP m (i + 1) N 1 _ _ (by omega) (by omega) (Nat.le_refl _) (hR.or a n (by omega))
    · rw [if_pos e]
      exact ⟨1, Nat.le_refl _, k1 e⟩
theorem lay_a (k : Nat) (hk : 250 ≤ k) (ov : Bool) (B : List Blk) (hB : B.length ≤ 250) (P : List Spt) (hP : P.length ≤ 250) (u : Int) (U : List Bool) (hR : R64 u U) : ∃ d, d ≤ 1 ∧ acall T (k + 6) 51 0 [.v (.int .u64 u), .shr P.length false (P.flatMap S56.av), .shr B.length false (B.flatMap S63.av), .v (.bool ov)] [] = some ⟨rE (layF ov B P P.length 0 U), [], d⟩ := by
  obtain ⟨d, h1, h2⟩ := lay_run k hk (k + 5) ov B hB P hP P.length 0 (k + 4) 0 u U (by omega) (by omega) (by omega) hR
  refine ⟨d, h1, ?_⟩
  rw [acall_go (body := b_image_lay) rfl rfl (Nat.zero_le _), ← h2]
  clear h2
  have lp : ∀ (ks : List It) (s : St), Lp (acall T (k + 5)) (k + 5) [0, 1, 2, 3, 15, 16, 17] l_image_lay_0 (k + 5) ks s = Lh (acall T (k + 5)) (k + 5) (canon [0, 1, 2, 3, 15, 16, 17] s) [0, 1, 2, 3, 15, 16, 17] l_image_lay_0 (k + 4) ks := fun ks s => lp_succ (n := k + 4)
  unfold lyfin lyst
  generalize P.flatMap S56.av = cs at *
  generalize B.flatMap S63.av = bs at *
  simp -implicitDefEqProofs only [eqs, eqd, eqe, ↓reduceIte, reduceCtorEq, Nat.reduceEqDiff, Nat.reduceAdd, Nat.reduceSub, Nat.reduceMul, Nat.reduceLT, Nat.reduceLeDiff, Nat.reduceBEq, Nat.reduceBNe, Nat.reduceGT, Int.reduceEq, Int.reduceLT, Int.reduceLE, Int.reduceToNat, Int.reduceAdd, Int.reduceSub, Int.reduceMul, Int.reduceNeg, Int.reduceBEq, Int.reduceBNe, b_image_lay, lp, Int.natCast_zero]
/-- None is used. -/
def noU : List Bool := List.replicate 64 false
/-- The first ones are. -/
def ownU (l : Int) : List Bool := setN noU l.toNat 0
theorem r64_0 : R64 0 noU where
  len := rfl
  bit := fun k hk => by
    rw [show B64 0 = 0#64 from rfl, BitVec.getLsbD_zero]
    unfold noU
    rw [List.getD_eq_getElem?_getD, List.getElem?_replicate, if_pos hk]
    rfl
theorem r64_own (l : Int) (h : 0 ≤ l ∧ l ≤ 64) : R64 (msk 0 l) (ownU l) := by
  obtain ⟨n, rfl⟩ : ∃ n : Nat, l = n := ⟨l.toNat, by omega⟩
  have h1 := r64_0.or 0 n (by omega)
  have e : orU 0 (msk ((0 : Nat) : Int) n) = msk 0 n := by
    obtain ⟨e1, e2⟩ := msk_nat 0 n (by omega)
    rw [orU_eq, show B64 0 = 0#64 from rfl, BitVec.zero_or]
    show ((B64 (msk ((0 : Nat) : Int) n)).toNat : Int) = msk ((0 : Nat) : Int) n
    rw [e1, b64_nat _ e2, BitVec.toNat_ofNat]
    generalize (2 ^ n - 1) * 2 ^ 0 = z at *
    omega
  rw [e] at h1
  exact h1
def LayF (l : Int) (P : List Spt) (B : List Blk) : Int × Int := if l < 0 ∨ 64 < l then (2, -1) else layF true B P P.length 0 (ownU l)
def ReaF (P : List Spt) (B : List Blk) : Int × Int := layF false B P P.length 0 noU
theorem Lay_a (k : Nat) (hk : 250 ≤ k) (B : List Blk) (hB : B.length ≤ 250) (P : List Spt) (hP : P.length ≤ 250) (l : Int) : ∃ d, d ≤ 1 ∧ acall T (k + 7) 37 0 [.v (.int .i64 l), .shr P.length false (P.flatMap S56.av), .shr B.length false (B.flatMap S63.av)] [] = some ⟨rE (LayF l P B), [], d⟩ := by
  unfold LayF rE
  by_cases c : l < 0
  · rw [if_pos (Or.inl c)]
    refine ⟨0, by omega, ?_⟩
    rw [acall_go (body := b_image_Lay) rfl rfl (Nat.zero_le _)]
    simp -implicitDefEqProofs only [eqs, eqd, eqe, lh_some, ↓reduceIte, reduceCtorEq, Nat.reduceEqDiff, Nat.reduceAdd, Nat.reduceSub, Nat.reduceMul, Nat.reduceLT, Nat.reduceLeDiff, Nat.reduceBEq, Nat.reduceBNe, Nat.reduceGT, Int.reduceEq, Int.reduceLT, Int.reduceLE, Int.reduceToNat, Int.reduceAdd, Int.reduceSub, Int.reduceMul, Int.reduceNeg, Int.reduceBEq, Int.reduceBNe, b_image_Lay, c]
  by_cases c2 : 64 < l
  · rw [if_pos (Or.inr c2)]
    refine ⟨0, by omega, ?_⟩
    rw [acall_go (body := b_image_Lay) rfl rfl (Nat.zero_le _)]
    simp -implicitDefEqProofs only [eqs, eqd, eqe, lh_some, ↓reduceIte, reduceCtorEq, Nat.reduceEqDiff, Nat.reduceAdd, Nat.reduceSub, Nat.reduceMul, Nat.reduceLT, Nat.reduceLeDiff, Nat.reduceBEq, Nat.reduceBNe, Nat.reduceGT, Int.reduceEq, Int.reduceLT, Int.reduceLE, Int.reduceToNat, Int.reduceAdd, Int.reduceSub, Int.reduceMul, Int.reduceNeg, Int.reduceBEq, Int.reduceBNe, b_image_Lay, c, c2]
  rw [if_neg (by omega)]
  obtain ⟨d, h1, h2⟩ := lay_a k hk true B hB P hP _ _ (r64_own l ⟨by omega, by omega⟩)
  have hm := mask_a (k + 5) 0 l (Int.le_refl 0) (by omega)
  refine ⟨d, h1, ?_⟩
  rw [acall_go (body := b_image_Lay) rfl rfl (Nat.zero_le _)]
  have hdd : d = 0 ∨ d = 1 := by omega
  unfold rE at h2
  generalize P.flatMap S56.av = cs at *
  generalize B.flatMap S63.av = bs at *
  rcases hdd with rfl | rfl
  · simp -implicitDefEqProofs only [eqs, eqd, eqe, lh_some, ↓reduceIte, reduceCtorEq, Nat.reduceEqDiff, Nat.reduceAdd, Nat.reduceSub, Nat.reduceMul, Nat.reduceLT, Nat.reduceLeDiff, Nat.reduceBEq, Nat.reduceBNe, Nat.reduceGT, Int.reduceEq, Int.reduceLT, Int.reduceLE, Int.reduceToNat, Int.reduceAdd, Int.reduceSub, Int.reduceMul, Int.reduceNeg, Int.reduceBEq, Int.reduceBNe, b_image_Lay, c, c2, hm, h2]
  · simp -implicitDefEqProofs only [eqs, eqd, eqe, lh_some, ↓reduceIte, reduceCtorEq, Nat.reduceEqDiff, Nat.reduceAdd, Nat.reduceSub, Nat.reduceMul, Nat.reduceLT, Nat.reduceLeDiff, Nat.reduceBEq, Nat.reduceBNe, Nat.reduceGT, Int.reduceEq, Int.reduceLT, Int.reduceLE, Int.reduceToNat, Int.reduceAdd, Int.reduceSub, Int.reduceMul, Int.reduceNeg, Int.reduceBEq, Int.reduceBNe, b_image_Lay, c, c2, hm, h2]
theorem Reach_a (k : Nat) (hk : 250 ≤ k) (B : List Blk) (hB : B.length ≤ 250) (P : List Spt) (hP : P.length ≤ 250) : ∃ d, d ≤ 1 ∧ acall T (k + 7) 39 0 [.shr P.length false (P.flatMap S56.av), .shr B.length false (B.flatMap S63.av)] [] = some ⟨rE (ReaF P B), [], d⟩ := by
  obtain ⟨d, h1, h2⟩ := lay_a k hk false B hB P hP _ _ r64_0
  unfold ReaF rE
  refine ⟨d, h1, ?_⟩
  rw [acall_go (body := b_image_Reach) rfl rfl (Nat.zero_le _)]
  have hdd : d = 0 ∨ d = 1 := by omega
  unfold rE at h2
  generalize P.flatMap S56.av = cs at *
  generalize B.flatMap S63.av = bs at *
  rcases hdd with rfl | rfl
  · simp -implicitDefEqProofs only [eqs, eqd, eqe, lh_some, ↓reduceIte, reduceCtorEq, Nat.reduceEqDiff, Nat.reduceAdd, Nat.reduceSub, Nat.reduceMul, Nat.reduceLT, Nat.reduceLeDiff, Nat.reduceBEq, Nat.reduceBNe, Nat.reduceGT, Int.reduceEq, Int.reduceLT, Int.reduceLE, Int.reduceToNat, Int.reduceAdd, Int.reduceSub, Int.reduceMul, Int.reduceNeg, Int.reduceBEq, Int.reduceBNe, b_image_Reach, h2]
  · simp -implicitDefEqProofs only [eqs, eqd, eqe, lh_some, ↓reduceIte, reduceCtorEq, Nat.reduceEqDiff, Nat.reduceAdd, Nat.reduceSub, Nat.reduceMul, Nat.reduceLT, Nat.reduceLeDiff, Nat.reduceBEq, Nat.reduceBNe, Nat.reduceGT, Int.reduceEq, Int.reduceLT, Int.reduceLE, Int.reduceToNat, Int.reduceAdd, Int.reduceSub, Int.reduceMul, Int.reduceNeg, Int.reduceBEq, Int.reduceBNe, b_image_Reach, h2]
end Go.Proofs.Ytcfokbhmchcgbaa.Cfg

/- Where blocks may lie: the document's. -/
namespace Go.Proofs.Ytcfokbhmchcgbaa.Cfg
open Go Go.Proofs.Ytcfokbhmchcgbaa.Sym Go.Proofs.Ytcfokbhmchcgbaa.Tab Go.Proofs.Ytcfokbhmchcgbaa.Args
set_option linter.unusedVariables false
set_option linter.unusedSimpArgs false
set_option maxHeartbeats 4000000
set_option maxRecDepth 20000
def bl (U : List Bool) : List AV := U.map fun b => .v (.bool b)
theorem bl_set (U : List Bool) (k : Nat) (x : Bool) : (bl U).set k (.v (.bool x)) = bl (U.set k x) := by unfold bl; rw [List.map_set]
theorem bl_at (U : List Bool) (k : Nat) (h : k < U.length) : (bl U)[k]? = some (.v (.bool (U.getD k false))) := by
  unfold bl
  rw [List.getElem?_map, List.getD_eq_getElem?_getD, List.getElem?_eq_getElem h]
  rfl
theorem bl_len (U : List Bool) : (bl U).length = U.length := by unfold bl; rw [List.length_map]
theorem hitN_set (U : List Bool) (x : Bool) : ∀ (m k j : Nat), j < k → hitN (U.set j x) m k = hitN U m k
  | 0, k, j, h => rfl
  | m + 1, k, j, h => by
    rw [hitN, hitN, hitN_set U x m (k + 1) j (by omega), List.getD_eq_getElem?_getD, List.getD_eq_getElem?_getD, List.getElem?_set_ne (by omega)]
abbrev vw : AV := .view 0 0 64 1 (some 64)
def rlo (ov : Bool) (B : List Blk) (P : List Spt) (i : Nat) (U : List Bool) : St := ⟨[(1, .shr P.length false (P.flatMap S56.av)), (2, .shr B.length false (B.flatMap S63.av)), (3, .v (.bool ov)), (10, vw), (12, .v (.int .i64 i))], [⟨true, true, true, bl U⟩], 1, []⟩
def rl3 (ov : Bool) (B : List Blk) (P : List Spt) (i : Nat) (U : List Bool) (b : Blk) (k : Nat) : St := ⟨[(1, .shr P.length false (P.flatMap S56.av)), (2, .shr B.length false (B.flatMap S63.av)), (3, .v (.bool ov)), (10, vw), (12, .v (.int .i64 i)), (13, .ptr 1 0), (15, .v (.int .i64 k))], [⟨true, true, true, bl U⟩, ⟨true, true, true, b.av⟩], 1, []⟩
def rl5 (ov : Bool) (B : List Blk) (P : List Spt) (i : Nat) (U : List Bool) (b : Blk) (a : Int) (k : Nat) : St := ⟨[(1, .shr P.length false (P.flatMap S56.av)), (2, .shr B.length false (B.flatMap S63.av)), (3, .v (.bool ov)), (10, vw), (12, .v (.int .i64 i)), (13, .ptr 1 0), (16, .v (.int .i64 a)), (17, .v (.int .i64 k))], [⟨true, true, true, bl U⟩, ⟨true, true, true, b.av⟩], 1, []⟩
abbrev kE : List It := [.b 2, .c l_fuglemanref19_Lay_7]
abbrev k5 (N : Nat) : List It := .b 6 :: .b 3 :: .c l_fuglemanref19_Lay_6 :: .l [1, 2, 3, 10, 12] l_fuglemanref19_Lay_2 (N + 1) :: kE
abbrev k3 (N : Nat) : List It := .b 4 :: .c l_fuglemanref19_Lay_4 :: .b 3 :: .c l_fuglemanref19_Lay_6 :: .l [1, 2, 3, 10, 12] l_fuglemanref19_Lay_2 (N + 1) :: kE
noncomputable abbrev fo (C : CT) (lf : Nat) (s : St) (N : Nat) : Option Res := FnR [.t 8, .t 9] false false (Lh C lf (some s) [1, 2, 3, 10, 12] l_fuglemanref19_Lay_2 N kE)
noncomputable abbrev f5 (C : CT) (lf : Nat) (s : St) (N1 N : Nat) : Option Res := FnR [.t 8, .t 9] false false (Lh C lf (some s) [1, 2, 3, 10, 12, 13, 16, 17] l_fuglemanref19_Lay_5 N1 (k5 N))
noncomputable abbrev f3 (C : CT) (lf : Nat) (s : St) (N1 N : Nat) : Option Res := FnR [.t 8, .t 9] false false (Lh C lf (some s) [1, 2, 3, 10, 12, 13, 15] l_fuglemanref19_Lay_3 N1 (k3 N))
theorem r5_run (C : CT) (lf : Nat) (ov : Bool) (B : List Blk) (P : List Spt) (hP : P.length ≤ 250) (i : Nat) (hi : i < P.length) (b : Blk) (a n : Nat) (hb : b.f2 = n) (han : a + n ≤ 64) (N : Nat) : ∀ (m k N1 : Nat) (U : List Bool), k + m = a + n → m ≤ N1 → U.length = 64 → f5 C lf (rl5 ov B P i U b a k) N1 N = if ov = true ∧ hitN U m k = true then some ⟨rE (15, i), [], 1⟩ else fo C lf (rlo ov B P (i + 1) (setN U m k)) N
  | 0, k, N1, U, hk, hN, hU => by
    obtain rfl : k = a + n := by omega
    have w1 : IntKind.i64.wrap ((i : Int) + 1) = i + 1 := w64 (by omega) (by omega)
    have w2 : IntKind.i64.wrap ((a : Int) + n) = ((a + n : Nat) : Int) := by rw [w64 (by omega) (by omega)]; omega
    have c1 : ¬ ((a + n : Nat) : Int) < ((a + n : Nat) : Int) := by omega
    rw [if_neg (fun h => by cases h.2)]
    rw [setN]
    unfold f5 fo rl5 rlo
    rw [lh_as l_fuglemanref19_Lay_5.eq_1]
    generalize P.flatMap S56.av = cs at *
    generalize B.flatMap S63.av = bs at *
    generalize bl U = ub at *
    generalize a + n = an at *
    simp -implicitDefEqProofs only [eqs, eqd, eqe, ↓reduceIte, reduceCtorEq, Nat.reduceEqDiff, Nat.reduceAdd, Nat.reduceSub, Nat.reduceMul, Nat.reduceLT, Nat.reduceLeDiff, Nat.reduceBEq, Nat.reduceBNe, Nat.reduceGT, Int.reduceEq, Int.reduceLT, Int.reduceLE, Int.reduceToNat, Int.reduceAdd, Int.reduceSub, Int.reduceMul, Int.reduceNeg, Int.reduceBEq, Int.reduceBNe, nx_nil, l_fuglemanref19_Lay_6, S63.av, hb, c1, w1, w2, Int.natCast_add]
  | m + 1, k, N1, U, hk, hN, hU => by
    obtain ⟨N1, rfl⟩ : ∃ M, N1 = M + 1 := ⟨N1 - 1, by omega⟩
    have w2 : IntKind.i64.wrap ((a : Int) + n) = ((a + n : Nat) : Int) := by rw [w64 (by omega) (by omega)]; omega
    have w1 : IntKind.i64.wrap ((k : Int) + 1) = ((k + 1 : Nat) : Int) := by rw [w64 (by omega) (by omega)]; omega
    have c1 : (k : Int) < ((a + n : Nat) : Int) := by omega
    have c0 : (0 : Int) ≤ k := by omega
    have c2 : (k : Int) < 64 := by omega
    have c3 : k ≤ 63 := by omega
    have hu := bl_at U k (by omega)
    have hul : (bl U).length = 64 := by rw [bl_len, hU]
    have ih := r5_run C lf ov B P hP i hi b a n hb han N m (k + 1) N1 (U.set k true) (by omega) (by omega) (by rw [List.length_set, hU])
    rw [hitN_set U true m (k + 1) k (by omega)] at ih
    rw [hitN, setN]
    have hs := bl_set U k true
    generalize setN (U.set k true) m (k + 1) = U' at *
    generalize hitN U m (k + 1) = h2 at *
    unfold f5 rl5 at ih ⊢
    rw [← hs] at ih
    rw [lh_as l_fuglemanref19_Lay_5.eq_1]
    generalize a + n = an at *
    generalize hK : k + 1 = K at *
    generalize P.flatMap S56.av = cs at *
    generalize B.flatMap S63.av = bs at *
    generalize P.length = np at *
    generalize B.length = nb at *
    cases ov
    · rw [if_neg (fun h => by cases h.1)] at ih ⊢
      rw [← ih]
      clear ih
      generalize bl U = ub at *
      simp -implicitDefEqProofs only [eqs, eqd, eqe, ↓reduceIte, reduceCtorEq, Nat.reduceEqDiff, Nat.reduceAdd, Nat.reduceSub, Nat.reduceMul, Nat.reduceLT, Nat.reduceLeDiff, Nat.reduceBEq, Nat.reduceBNe, Nat.reduceGT, Int.reduceEq, Int.reduceLT, Int.reduceLE, Int.reduceToNat, Int.reduceAdd, Int.reduceSub, Int.reduceMul, Int.reduceNeg, Int.reduceBEq, Int.reduceBNe, nx_nil, S63.av, hb, c0, c1, c2, c3, w1, w2, hu, hul, Int.toNat_natCast]
    · cases hg : U.getD k false
      · rw [Bool.false_or, ← ih]
        clear ih
        rw [hg] at hu
        generalize bl U = ub at *
        simp -implicitDefEqProofs only [eqs, eqd, eqe, ↓reduceIte, reduceCtorEq, Nat.reduceEqDiff, Nat.reduceAdd, Nat.reduceSub, Nat.reduceMul, Nat.reduceLT, Nat.reduceLeDiff, Nat.reduceBEq, Nat.reduceBNe, Nat.reduceGT, Int.reduceEq, Int.reduceLT, Int.reduceLE, Int.reduceToNat, Int.reduceAdd, Int.reduceSub, Int.reduceMul, Int.reduceNeg, Int.reduceBEq, Int.reduceBNe, nx_nil, S63.av, hb, c0, c1, c2, c3, w1, w2, hu, hul, Int.toNat_natCast]
      · rw [if_pos ⟨rfl, rfl⟩]
        clear ih
        rw [hg] at hu
        unfold rE
        generalize bl U = ub at *
        simp -implicitDefEqProofs only [eqs, eqd, eqe, ↓reduceIte, reduceCtorEq, Nat.reduceEqDiff, Nat.reduceAdd, Nat.reduceSub, Nat.reduceMul, Nat.reduceLT, Nat.reduceLeDiff, Nat.reduceBEq, Nat.reduceBNe, Nat.reduceGT, Int.reduceEq, Int.reduceLT, Int.reduceLE, Int.reduceToNat, Int.reduceAdd, Int.reduceSub, Int.reduceMul, Int.reduceNeg, Int.reduceBEq, Int.reduceBNe, nx_nil, S63.av, hb, c0, c1, c2, c3, w1, w2, hu, hul, Int.toNat_natCast]
theorem r3_run (C : CT) (q : Nat) (hq : 250 ≤ q) (ov : Bool) (B : List Blk) (P : List Spt) (hP : P.length ≤ 250) (i : Nat) (hi : i < P.length) (U : List Bool) (b : Blk) (N : Nat) : ∀ (m k N1 : Nat), k + m = i → m ≤ N1 → f3 C (q + 1) (rl3 ov B P i U b k) N1 N = if dupI (fun z => z.f0) P[i].f0 P m k = true then some ⟨rE (14, i), [], 1⟩ else if bad P[i] b = true then some ⟨rE (2, i), [], 1⟩ else f5 C (q + 1) (rl5 ov B P i U b P[i].f1 P[i].f1.toNat) q N
  | 0, k, N1, hk, hN => by
    obtain rfl : k = i := by omega
    have c1 : ¬ (k : Int) < k := by omega
    have c0 : (0 : Int) ≤ k := by omega
    have c2 : (k : Int) < P.length := by omega
    have h1 : (P.flatMap S56.av)[k * 2 + 1]? = (P[k].av)[1]? := chunk_at S56.av 2 spt_len P k hi 1 (by decide)
    rw [dupI, if_neg (by decide)]
    unfold f3 f5 rl3 rl5 rE bad
    rw [lh_as l_fuglemanref19_Lay_3.eq_1]
    generalize P[k] = y at *
    generalize P.flatMap S56.av = cs at *
    generalize B.flatMap S63.av = bs at *
    generalize P.length = np at *
    generalize B.length = nb at *
    generalize bl U = ub at *
    simp only [S56.av, List.getElem?_cons_zero, List.getElem?_cons_succ] at h1
    by_cases d1 : y.f1 < 0
    · rw [if_pos (by simp [d1])]
      simp -implicitDefEqProofs only [eqs, eqd, eqe, ↓reduceIte, reduceCtorEq, Nat.reduceEqDiff, Nat.reduceAdd, Nat.reduceSub, Nat.reduceMul, Nat.reduceLT, Nat.reduceLeDiff, Nat.reduceBEq, Nat.reduceBNe, Nat.reduceGT, Int.reduceEq, Int.reduceLT, Int.reduceLE, Int.reduceToNat, Int.reduceAdd, Int.reduceSub, Int.reduceMul, Int.reduceNeg, Int.reduceBEq, Int.reduceBNe, nx_nil, l_fuglemanref19_Lay_4, S56.av, S63.av, c0, c1, c2, h1, Int.toNat_natCast, d1]
    by_cases d2 : 64 < y.f1
    · rw [if_pos (by simp [d2])]
      simp -implicitDefEqProofs only [eqs, eqd, eqe, ↓reduceIte, reduceCtorEq, Nat.reduceEqDiff, Nat.reduceAdd, Nat.reduceSub, Nat.reduceMul, Nat.reduceLT, Nat.reduceLeDiff, Nat.reduceBEq, Nat.reduceBNe, Nat.reduceGT, Int.reduceEq, Int.reduceLT, Int.reduceLE, Int.reduceToNat, Int.reduceAdd, Int.reduceSub, Int.reduceMul, Int.reduceNeg, Int.reduceBEq, Int.reduceBNe, nx_nil, l_fuglemanref19_Lay_4, S56.av, S63.av, c0, c1, c2, h1, Int.toNat_natCast, d1, d2]
    by_cases d3 : b.f2 < 0
    · rw [if_pos (by simp [d3])]
      simp -implicitDefEqProofs only [eqs, eqd, eqe, ↓reduceIte, reduceCtorEq, Nat.reduceEqDiff, Nat.reduceAdd, Nat.reduceSub, Nat.reduceMul, Nat.reduceLT, Nat.reduceLeDiff, Nat.reduceBEq, Nat.reduceBNe, Nat.reduceGT, Int.reduceEq, Int.reduceLT, Int.reduceLE, Int.reduceToNat, Int.reduceAdd, Int.reduceSub, Int.reduceMul, Int.reduceNeg, Int.reduceBEq, Int.reduceBNe, nx_nil, l_fuglemanref19_Lay_4, S56.av, S63.av, c0, c1, c2, h1, Int.toNat_natCast, d1, d2, d3]
    have w1 : IntKind.i64.wrap (64 - y.f1) = 64 - y.f1 := w64 (by omega) (by omega)
    by_cases d4 : 64 - y.f1 < b.f2
    · rw [if_pos (by simp [d4])]
      simp -implicitDefEqProofs only [eqs, eqd, eqe, ↓reduceIte, reduceCtorEq, Nat.reduceEqDiff, Nat.reduceAdd, Nat.reduceSub, Nat.reduceMul, Nat.reduceLT, Nat.reduceLeDiff, Nat.reduceBEq, Nat.reduceBNe, Nat.reduceGT, Int.reduceEq, Int.reduceLT, Int.reduceLE, Int.reduceToNat, Int.reduceAdd, Int.reduceSub, Int.reduceMul, Int.reduceNeg, Int.reduceBEq, Int.reduceBNe, nx_nil, l_fuglemanref19_Lay_4, S56.av, S63.av, c0, c1, c2, h1, Int.toNat_natCast, d1, d2, d3, d4, w1]
    rw [if_neg (by simp; omega)]
    obtain ⟨a, ha⟩ : ∃ a : Nat, y.f1 = a := ⟨y.f1.toNat, by omega⟩
    simp -implicitDefEqProofs only [eqs, eqd, eqe, ↓reduceIte, reduceCtorEq, Nat.reduceEqDiff, Nat.reduceAdd, Nat.reduceSub, Nat.reduceMul, Nat.reduceLT, Nat.reduceLeDiff, Nat.reduceBEq, Nat.reduceBNe, Nat.reduceGT, Int.reduceEq, Int.reduceLT, Int.reduceLE, Int.reduceToNat, Int.reduceAdd, Int.reduceSub, Int.reduceMul, Int.reduceNeg, Int.reduceBEq, Int.reduceBNe, nx_nil, l_fuglemanref19_Lay_4, S56.av, S63.av, c0, c1, c2, h1, Int.toNat_natCast, d1, d2, d3, d4, w1]
    rw [ha]
    simp only [Int.toNat_natCast]
  | m + 1, k, N1, hk, hN => by
    obtain ⟨N1, rfl⟩ : ∃ M, N1 = M + 1 := ⟨N1 - 1, by omega⟩
    have hkl : k < P.length := by omega
    have c1 : (k : Int) < i := by omega
    have c0 : (0 : Int) ≤ k := by omega
    have c2 : (k : Int) < P.length := by omega
    have e0 : (0 : Int) ≤ i := by omega
    have e2 : (i : Int) < P.length := by omega
    have w1 : IntKind.i64.wrap ((k : Int) + 1) = k + 1 := w64 (by omega) (by omega)
    have h0 : (P.flatMap S56.av)[k * 2]? = (P[k].av)[0]? := chunk_at S56.av 2 spt_len P k hkl 0 (by decide)
    have h1 : (P.flatMap S56.av)[i * 2]? = (P[i].av)[0]? := chunk_at S56.av 2 spt_len P i hi 0 (by decide)
    have ih := r3_run C q hq ov B P hP i hi U b N m (k + 1) N1 (by omega) (by omega)
    rw [dupI, dif_pos hkl]
    by_cases e : P[k].f0 = P[i].f0
    · have e' : (P[k].f0 == P[i].f0) = true := by simpa using e
      rw [if_pos e, if_pos rfl]
      clear ih
      unfold f3 rl3 rE
      rw [lh_as l_fuglemanref19_Lay_3.eq_1]
      generalize P[k] = z at *
      generalize P[i] = y at *
      generalize P.flatMap S56.av = cs at *
      generalize B.flatMap S63.av = bs at *
      generalize P.length = np at *
      generalize B.length = nb at *
      generalize bl U = ub at *
      simp only [S56.av, List.getElem?_cons_zero] at h0 h1
      simp -implicitDefEqProofs only [eqs, eqd, eqe, ↓reduceIte, reduceCtorEq, Nat.reduceEqDiff, Nat.reduceAdd, Nat.reduceSub, Nat.reduceMul, Nat.reduceLT, Nat.reduceLeDiff, Nat.reduceBEq, Nat.reduceBNe, Nat.reduceGT, Int.reduceEq, Int.reduceLT, Int.reduceLE, Int.reduceToNat, Int.reduceAdd, Int.reduceSub, Int.reduceMul, Int.reduceNeg, Int.reduceBEq, Int.reduceBNe, nx_nil, S56.av, c0, c1, c2, e0, e2, w1, h0, h1, e', Int.toNat_natCast]
    · have e' : (P[k].f0 == P[i].f0) = false := by simpa using e
      rw [if_neg e, ← ih]
      clear ih
      unfold f3 rl3
      rw [lh_as l_fuglemanref19_Lay_3.eq_1]
      generalize P[k] = z at *
      generalize P[i] = y at *
      generalize P.flatMap S56.av = cs at *
      generalize B.flatMap S63.av = bs at *
      generalize P.length = np at *
      generalize B.length = nb at *
      generalize bl U = ub at *
      simp only [S56.av, List.getElem?_cons_zero] at h0 h1
      simp -implicitDefEqProofs only [eqs, eqd, eqe, ↓reduceIte, reduceCtorEq, Nat.reduceEqDiff, Nat.reduceAdd, Nat.reduceSub, Nat.reduceMul, Nat.reduceLT, Nat.reduceLeDiff, Nat.reduceBEq, Nat.reduceBNe, Nat.reduceGT, Int.reduceEq, Int.reduceLT, Int.reduceLE, Int.reduceToNat, Int.reduceAdd, Int.reduceSub, Int.reduceMul, Int.reduceNeg, Int.reduceBEq, Int.reduceBNe, nx_nil, S56.av, S63.av, c0, c1, c2, e0, e2, w1, h0, h1, e', Int.toNat_natCast, Int.natCast_add]
theorem ro_one (k : Nat) (hk : 250 ≤ k) (q : Nat) (ov : Bool) (B : List Blk) (hB : B.length ≤ 250) (P : List Spt) (hP : P.length ≤ 250) (i : Nat) (hi : i < P.length) (U : List Bool) (N : Nat) : fo (acall T (k + 2)) (q + 1) (rlo ov B P i U) (N + 1) = match rB B P[i] with
    | none => some ⟨rE (5, i), [], 1⟩
    | some b => f3 (acall T (k + 2)) (q + 1) (rl3 ov B P i U b 0) q N := by
  have c1 : (i : Int) < P.length := by omega
  have c0 : (0 : Int) ≤ i := by omega
  have h0 : (P.flatMap S56.av)[i * 2]? = (P[i].av)[0]? := chunk_at S56.av 2 spt_len P i hi 0 (by decide)
  have hf := rbfind_a k hk B hB P[i].f0
  unfold rB fo f3 rlo rl3 rE
  rw [lh_as l_fuglemanref19_Lay_2.eq_1]
  generalize fnd (fun y : Blk => y.f0) P[i].f0 B B.length 0 = r at *
  generalize P[i] = y at *
  generalize P.flatMap S56.av = cs at *
  generalize B.flatMap S63.av = bs at *
  generalize P.length = np at *
  generalize B.length = nb at *
  generalize bl U = ub at *
  simp only [S56.av, List.getElem?_cons_zero] at h0
  cases r with
  | none =>
    simp only [blkO, Option.isSome_none] at hf
    simp -implicitDefEqProofs only [eqs, eqd, eqe, ↓reduceIte, reduceCtorEq, Nat.reduceEqDiff, Nat.reduceAdd, Nat.reduceSub, Nat.reduceMul, Nat.reduceLT, Nat.reduceLeDiff, Nat.reduceBEq, Nat.reduceBNe, Nat.reduceGT, Int.reduceEq, Int.reduceLT, Int.reduceLE, Int.reduceToNat, Int.reduceAdd, Int.reduceSub, Int.reduceMul, Int.reduceNeg, Int.reduceBEq, Int.reduceBNe, nx_nil, c0, c1, h0, hf, Int.toNat_natCast]
  | some b =>
    simp only [blkO, S63.av, Option.isSome_some] at hf
    simp -implicitDefEqProofs only [eqs, eqd, eqe, ↓reduceIte, reduceCtorEq, Nat.reduceEqDiff, Nat.reduceAdd, Nat.reduceSub, Nat.reduceMul, Nat.reduceLT, Nat.reduceLeDiff, Nat.reduceBEq, Nat.reduceBNe, Nat.reduceGT, Int.reduceEq, Int.reduceLT, Int.reduceLE, Int.reduceToNat, Int.reduceAdd, Int.reduceSub, Int.reduceMul, Int.reduceNeg, Int.reduceBEq, Int.reduceBNe, nx_nil, S63.av, c0, c1, h0, hf, Int.toNat_natCast, Int.natCast_zero]
theorem ro_run (k : Nat) (hk : 250 ≤ k) (q : Nat) (hq : 250 ≤ q) (ov : Bool) (B : List Blk) (hB : B.length ≤ 250) (P : List Spt) (hP : P.length ≤ 250) : ∀ (m i N : Nat) (U : List Bool), i + m = P.length → m ≤ N → U.length = 64 → fo (acall T (k + 2)) (q + 1) (rlo ov B P i U) N = some ⟨rE (layF ov B P m i U), [], 1⟩
  | 0, i, N, U, hi, hN, hU => by
    obtain rfl : i = P.length := by omega
    have c1 : ¬ (P.length : Int) < P.length := by omega
    rw [layF]
    unfold fo rlo rE
    rw [lh_as l_fuglemanref19_Lay_2.eq_1]
    generalize P.flatMap S56.av = cs at *
    generalize B.flatMap S63.av = bs at *
    generalize bl U = ub at *
    simp -implicitDefEqProofs only [eqs, eqd, eqe, ↓reduceIte, reduceCtorEq, Nat.reduceEqDiff, Nat.reduceAdd, Nat.reduceSub, Nat.reduceMul, Nat.reduceLT, Nat.reduceLeDiff, Nat.reduceBEq, Nat.reduceBNe, Nat.reduceGT, Int.reduceEq, Int.reduceLT, Int.reduceLE, Int.reduceToNat, Int.reduceAdd, Int.reduceSub, Int.reduceMul, Int.reduceNeg, Int.reduceBEq, Int.reduceBNe, nx_nil, l_fuglemanref19_Lay_7, c1]
  | m + 1, i, N, U, hi, hN, hU => by
    obtain ⟨N, rfl⟩ : ∃ M, N = M + 1 := ⟨N - 1, by omega⟩
    have h : i < P.length := by omega
    have hz := @spE_0 B P i P[i]
    rw [ro_one k hk q ov B hB P hP i h U N, layF, dif_pos h]
    have hsp : spE B P i P[i] = match rB B P[i] with
      | none => 5
      | some b => if dupI (fun y => y.f0) P[i].f0 P i 0 = true then 14 else if bad P[i] b = true then 2 else 0 := rfl
    generalize rB B P[i] = r at *
    cases r with
    | none =>
      simp only at hsp
      rw [hsp, if_pos (by decide)]
    | some b =>
      simp only at hsp ⊢
      rw [r3_run (acall T (k + 2)) q hq ov B P hP i h U b N i 0 q (by omega) (by omega)]
      by_cases e1 : dupI (fun z : Spt => z.f0) P[i].f0 P i 0 = true
      · rw [if_pos e1] at hsp ⊢
        rw [hsp, if_pos (by decide)]
      rw [if_neg e1] at hsp ⊢
      by_cases e2 : bad P[i] b = true
      · rw [if_pos e2] at hsp ⊢
        rw [hsp, if_pos (by decide)]
      rw [if_neg e2] at hsp ⊢
      obtain ⟨b', hb', z1, z2, z3, z4⟩ := hz hsp
      obtain rfl : b = b' := by simpa using hb'
      obtain ⟨a, ha⟩ : ∃ a : Nat, P[i].f1 = a := ⟨P[i].f1.toNat, by omega⟩
      obtain ⟨n, hn'⟩ : ∃ n : Nat, b.f2 = n := ⟨b.f2.toNat, by omega⟩
      have hn : szQ (some b) = n := hn'
      rw [ha, hn, Int.toNat_natCast, Int.toNat_natCast, r5_run (acall T (k + 2)) (q + 1) ov B P hP i h b a n hn' (by omega) N n a q U rfl (by omega) hU, if_neg (show ¬ (spE B P i P[i] ≠ 0) from fun hc => hc hsp)]
      by_cases e3 : ov = true ∧ hitN U n a = true
      · rw [if_pos e3, if_pos e3]
      · rw [if_neg e3, if_neg e3]
        exact ro_run k hk q hq ov B hB P hP m (i + 1) N _ (by omega) (by omega) (by rw [setN_len, hU])
/-! from the beginning -/
def iniF (ov : Bool) (l : Int) : Nat → Nat → List Bool → List Bool
  | 0, _, U => U
  | m + 1, i, U => iniF ov l m (i + 1) (U.set i (ov && decide ((i : Int) < l)))
theorem iniF_get (ov : Bool) (l : Int) : ∀ (m i : Nat) (U : List Bool) (j : Nat), (iniF ov l m i U).length = U.length ∧ (iniF ov l m i U)[j]? = if i ≤ j ∧ j < i + m ∧ j < U.length then some (ov && decide ((j : Int) < l)) else U[j]?
  | 0, i, U, j => ⟨rfl, by rw [iniF, if_neg (by omega)]⟩
  | m + 1, i, U, j => by
    obtain ⟨h1, h2⟩ := iniF_get ov l m (i + 1) (U.set i (ov && decide ((i : Int) < l))) j
    rw [List.length_set] at h1 h2
    refine ⟨h1, ?_⟩
    rw [iniF, h2]
    by_cases c : i = j
    · subst c
      rw [if_neg (by omega)]
      by_cases d : i < U.length
      · rw [if_pos (by omega), List.getElem?_set_self d]
      · rw [if_neg (by omega), List.getElem?_eq_none (by rw [List.length_set]; omega), List.getElem?_eq_none (by omega)]
    · rw [List.getElem?_set_ne c]
      by_cases d : i + 1 ≤ j ∧ j < i + 1 + m ∧ j < U.length
      · rw [if_pos d, if_pos (by omega)]
      · rw [if_neg d, if_neg (by omega)]
theorem ini_ov (l : Int) (h : 0 ≤ l ∧ l ≤ 64) : iniF true l 64 0 noU = ownU l := by
  apply List.ext_getElem?
  intro j
  rw [(iniF_get true l 64 0 noU j).2]
  have hl : (ownU l).length = 64 := by unfold ownU; rw [setN_len]; rfl
  have hl0 : noU.length = 64 := rfl
  by_cases c : j < 64
  · rw [if_pos (by omega), List.getElem?_eq_getElem (by omega)]
    have hg := setN_get l.toNat 0 noU j (by omega)
    have e : (ownU l)[j] = (setN noU l.toNat 0).getD j false := by
      rw [List.getD_eq_getElem?_getD]
      show _ = ((ownU l)[j]?).getD false
      rw [List.getElem?_eq_getElem (by omega)]
      rfl
    rw [e, hg]
    have e0 : noU.getD j false = false := by
      unfold noU
      rw [List.getD_eq_getElem?_getD, List.getElem?_replicate, if_pos c]
      rfl
    rw [e0]
    congr 1
    by_cases d : (j : Int) < l
    · have d' : j < 0 + l.toNat := by omega
      simp [d, d'] <;> omega
    · have d' : ¬ j < 0 + l.toNat := by omega
      simp [d, d'] <;> omega
  · rw [if_neg (by omega), List.getElem?_eq_none (by omega), List.getElem?_eq_none (by omega)]
theorem ini_no (l : Int) : iniF false l 64 0 noU = noU := by
  apply List.ext_getElem?
  intro j
  rw [(iniF_get false l 64 0 noU j).2]
  by_cases c : j < 64
  · rw [if_pos ⟨by omega, by omega, c⟩]
    unfold noU
    rw [List.getElem?_replicate, if_pos c]
    rfl
  · rw [if_neg (by omega)]
def rl0 (ov : Bool) (l : Int) (B : List Blk) (P : List Spt) (i : Nat) (U : List Bool) (d : Nat) : St := ⟨[(0, .v (.int .i64 l)), (1, .shr P.length false (P.flatMap S56.av)), (2, .shr B.length false (B.flatMap S63.av)), (3, .v (.bool ov)), (10, vw), (11, .v (.int .i64 i))], [⟨true, true, true, bl U⟩], 1, []⟩
abbrev k0 : List It := [.b 0, .c l_fuglemanref19_Lay_1]
theorem r0_run (C : CT) (q : Nat) (ov : Bool) (l : Int) (B : List Blk) (P : List Spt) : ∀ (m i N : Nat) (U : List Bool), i + m = 64 → m ≤ N → U.length = 64 → FnR [.t 8, .t 9] false false (Lh C (q + 1) (some (rl0 ov l B P i U 1)) [0, 1, 2, 3, 10, 11] l_fuglemanref19_Lay_0 N k0) = fo C (q + 1) (rlo ov B P 0 (iniF ov l m i U)) q
  | 0, i, N, U, hi, hN, hU => by
    obtain rfl : i = 64 := by omega
    rw [iniF]
    unfold fo rl0 rlo
    rw [lh_as l_fuglemanref19_Lay_0.eq_1]
    generalize P.flatMap S56.av = cs at *
    generalize B.flatMap S63.av = bs at *
    generalize bl U = ub at *
    have c1 : ¬ ((64 : Nat) : Int) < 64 := by decide
    simp -implicitDefEqProofs only [eqs, eqd, eqe, ↓reduceIte, reduceCtorEq, Nat.reduceEqDiff, Nat.reduceAdd, Nat.reduceSub, Nat.reduceMul, Nat.reduceLT, Nat.reduceLeDiff, Nat.reduceBEq, Nat.reduceBNe, Nat.reduceGT, Int.reduceEq, Int.reduceLT, Int.reduceLE, Int.reduceToNat, Int.reduceAdd, Int.reduceSub, Int.reduceMul, Int.reduceNeg, Int.reduceBEq, Int.reduceBNe, nx_nil, l_fuglemanref19_Lay_1, c1, Int.natCast_zero]
  | m + 1, i, N, U, hi, hN, hU => by
    obtain ⟨N, rfl⟩ : ∃ M, N = M + 1 := ⟨N - 1, by omega⟩
    have ih := r0_run C q ov l B P m (i + 1) N (U.set i (ov && decide ((i : Int) < l))) (by omega) (by omega) (by rw [List.length_set, hU])
    have c1 : (i : Int) < 64 := by omega
    have c0 : (0 : Int) ≤ i := by omega
    have c3 : i ≤ 63 := by omega
    have w1 : IntKind.i64.wrap ((i : Int) + 1) = ((i + 1 : Nat) : Int) := by rw [w64 (by omega) (by omega)]; omega
    have hul : (bl U).length = 64 := by rw [bl_len, hU]
    rw [iniF, ← ih]
    clear ih
    unfold rl0
    rw [← bl_set, lh_as l_fuglemanref19_Lay_0.eq_1]
    generalize hI : i + 1 = I at *
    generalize P.flatMap S56.av = cs at *
    generalize B.flatMap S63.av = bs at *
    generalize bl U = ub at *
    cases ov
    · simp -implicitDefEqProofs only [eqs, eqd, eqe, ↓reduceIte, reduceCtorEq, Nat.reduceEqDiff, Nat.reduceAdd, Nat.reduceSub, Nat.reduceMul, Nat.reduceLT, Nat.reduceLeDiff, Nat.reduceBEq, Nat.reduceBNe, Nat.reduceGT, Int.reduceEq, Int.reduceLT, Int.reduceLE, Int.reduceToNat, Int.reduceAdd, Int.reduceSub, Int.reduceMul, Int.reduceNeg, Int.reduceBEq, Int.reduceBNe, nx_nil, c0, c1, c3, w1, hul, Int.toNat_natCast]
    · by_cases d : (i : Int) < l
      · simp -implicitDefEqProofs only [eqs, eqd, eqe, ↓reduceIte, reduceCtorEq, Nat.reduceEqDiff, Nat.reduceAdd, Nat.reduceSub, Nat.reduceMul, Nat.reduceLT, Nat.reduceLeDiff, Nat.reduceBEq, Nat.reduceBNe, Nat.reduceGT, Int.reduceEq, Int.reduceLT, Int.reduceLE, Int.reduceToNat, Int.reduceAdd, Int.reduceSub, Int.reduceMul, Int.reduceNeg, Int.reduceBEq, Int.reduceBNe, nx_nil, c0, c1, c3, w1, hul, d, Int.toNat_natCast]
      · simp -implicitDefEqProofs only [eqs, eqd, eqe, ↓reduceIte, reduceCtorEq, Nat.reduceEqDiff, Nat.reduceAdd, Nat.reduceSub, Nat.reduceMul, Nat.reduceLT, Nat.reduceLeDiff, Nat.reduceBEq, Nat.reduceBNe, Nat.reduceGT, Int.reduceEq, Int.reduceLT, Int.reduceLE, Int.reduceToNat, Int.reduceAdd, Int.reduceSub, Int.reduceMul, Int.reduceNeg, Int.reduceBEq, Int.reduceBNe, nx_nil, c0, c1, c3, w1, hul, d, Int.toNat_natCast]
theorem rlay_a (k : Nat) (hk : 250 ≤ k) (ov : Bool) (B : List Blk) (hB : B.length ≤ 250) (P : List Spt) (hP : P.length ≤ 250) (l : Int) : ∃ d, d ≤ 1 ∧ acall T (k + 3) 41 0 [.v (.int .i64 l), .shr P.length false (P.flatMap S56.av), .shr B.length false (B.flatMap S63.av), .v (.bool ov)] [] = some ⟨rE (if ov = true then LayF l P B else ReaF P B), [], d⟩ := by
  by_cases c : ov = true ∧ l < 0
  · obtain ⟨rfl, c⟩ := c
    refine ⟨0, by omega, ?_⟩
    unfold LayF
    rw [if_pos rfl, if_pos (Or.inl c), acall_go (body := b_fuglemanref19_Lay) rfl rfl (Nat.zero_le _)]
    unfold rE
    simp -implicitDefEqProofs only [eqs, eqd, eqe, lh_some, ↓reduceIte, reduceCtorEq, Nat.reduceEqDiff, Nat.reduceAdd, Nat.reduceSub, Nat.reduceMul, Nat.reduceLT, Nat.reduceLeDiff, Nat.reduceBEq, Nat.reduceBNe, Nat.reduceGT, Int.reduceEq, Int.reduceLT, Int.reduceLE, Int.reduceToNat, Int.reduceAdd, Int.reduceSub, Int.reduceMul, Int.reduceNeg, Int.reduceBEq, Int.reduceBNe, b_fuglemanref19_Lay, c]
  by_cases c2 : ov = true ∧ 64 < l
  · obtain ⟨rfl, c2⟩ := c2
    have c' : ¬ l < 0 := by omega
    refine ⟨0, by omega, ?_⟩
    unfold LayF
    rw [if_pos rfl, if_pos (Or.inr c2), acall_go (body := b_fuglemanref19_Lay) rfl rfl (Nat.zero_le _)]
    unfold rE
    simp -implicitDefEqProofs only [eqs, eqd, eqe, lh_some, ↓reduceIte, reduceCtorEq, Nat.reduceEqDiff, Nat.reduceAdd, Nat.reduceSub, Nat.reduceMul, Nat.reduceLT, Nat.reduceLeDiff, Nat.reduceBEq, Nat.reduceBNe, Nat.reduceGT, Int.reduceEq, Int.reduceLT, Int.reduceLE, Int.reduceToNat, Int.reduceAdd, Int.reduceSub, Int.reduceMul, Int.reduceNeg, Int.reduceBEq, Int.reduceBNe, b_fuglemanref19_Lay, c', c2]
  refine ⟨1, Nat.le_refl _, ?_⟩
  have key : FnR [.t 8, .t 9] false false (Lh (acall T (k + 2)) (k + 2) (some (rl0 ov l B P 0 noU 1)) [0, 1, 2, 3, 10, 11] l_fuglemanref19_Lay_0 (k + 1) k0) = fo (acall T (k + 2)) (k + 1 + 1) (rlo ov B P 0 (iniF ov l 64 0 noU)) (k + 1) := r0_run (acall T (k + 2)) (k + 1) ov l B P 64 0 (k + 1) noU (by omega) (by omega) rfl
  rw [ro_run k hk (k + 1) (by omega) ov B hB P hP P.length 0 (k + 1) _ (by omega) (by omega) (by rw [(iniF_get ov l 64 0 noU 0).1]; rfl)] at key
  have e : (if ov = true then LayF l P B else ReaF P B) = layF ov B P P.length 0 (iniF ov l 64 0 noU) := by
    cases ov
    · rw [if_neg (by decide), ini_no]
      rfl
    · have h1 : ¬ l < 0 := fun h => c ⟨rfl, h⟩
      have h2 : ¬ 64 < l := fun h => c2 ⟨rfl, h⟩
      rw [if_pos rfl, ini_ov l ⟨by omega, by omega⟩]
      unfold LayF
      rw [if_neg (by omega)]
  rw [e, ← key]
  clear key e
  have hr : List.replicate 64 (AV.v (.bool false)) = bl noU := rfl
  have lp : ∀ (ks : List It) (s : St), Lp (acall T (k + 2)) (k + 2) [0, 1, 2, 3, 10, 11] l_fuglemanref19_Lay_0 (k + 2) ks s = Lh (acall T (k + 2)) (k + 2) (canon [0, 1, 2, 3, 10, 11] s) [0, 1, 2, 3, 10, 11] l_fuglemanref19_Lay_0 (k + 1) ks := fun ks s => lp_succ (n := k + 1)
  have hul : (bl noU).length = 64 := rfl
  have hua : (bl noU).all flat0 = true := rfl
  rw [acall_go (body := b_fuglemanref19_Lay) rfl rfl (Nat.zero_le _)]
  unfold rl0
  generalize P.flatMap S56.av = cs at *
  generalize B.flatMap S63.av = bs at *
  generalize bl noU = ub at *
  cases ov
  · simp -implicitDefEqProofs only [eqs, eqd, eqe, ↓reduceIte, reduceCtorEq, Nat.reduceEqDiff, Nat.reduceAdd, Nat.reduceSub, Nat.reduceMul, Nat.reduceLT, Nat.reduceLeDiff, Nat.reduceBEq, Nat.reduceBNe, Nat.reduceGT, Int.reduceEq, Int.reduceLT, Int.reduceLE, Int.reduceToNat, Int.reduceAdd, Int.reduceSub, Int.reduceMul, Int.reduceNeg, Int.reduceBEq, Int.reduceBNe, b_fuglemanref19_Lay, hr, hul, hua, lp, Int.natCast_zero]
  · have h1 : ¬ l < 0 := fun h => c ⟨rfl, h⟩
    have h2 : ¬ 64 < l := fun h => c2 ⟨rfl, h⟩
    simp -implicitDefEqProofs only [eqs, eqd, eqe, ↓reduceIte, reduceCtorEq, Nat.reduceEqDiff, Nat.reduceAdd, Nat.reduceSub, Nat.reduceMul, Nat.reduceLT, Nat.reduceLeDiff, Nat.reduceBEq, Nat.reduceBNe, Nat.reduceGT, Int.reduceEq, Int.reduceLT, Int.reduceLE, Int.reduceToNat, Int.reduceAdd, Int.reduceSub, Int.reduceMul, Int.reduceNeg, Int.reduceBEq, Int.reduceBNe, b_fuglemanref19_Lay, hr, hul, hua, h1, h2, lp, Int.natCast_zero]
end Go.Proofs.Ytcfokbhmchcgbaa.Cfg

/- Kinds, operations: the functions of packages iec and il that verify needs, and the document's. -/
namespace Go.Proofs.Ytcfokbhmchcgbaa.Ver
open Go Go.Proofs.Ytcfokbhmchcgbaa.Sym Go.Proofs.Ytcfokbhmchcgbaa.Tab
set_option linter.unusedVariables false
set_option linter.unusedSimpArgs false
set_option maxHeartbeats 4000000
set_option maxRecDepth 20000
def kok (k : Int) : Bool := decide (1 ≤ k) && decide (k ≤ 7)
def ksz (k : Int) : Int := if k = 1 ∨ k = 2 then 1 else if k = 3 ∨ k = 5 ∨ k = 6 then 2 else if k = 4 ∨ k = 7 then 4 else 0
def kbt (k : Int) : Bool := k == 1 || k == 6 || k == 7
def ksg (k : Int) : Bool := k == 2 || k == 3 || k == 4
def kname (k : Int) : ByteArray := if k = 1 then ⟨#[66, 79, 79, 76]⟩ else if k = 2 then ⟨#[83, 73, 78, 84]⟩ else if k = 3 then ⟨#[73, 78, 84]⟩ else if k = 4 then ⟨#[68, 73, 78, 84]⟩ else if k = 5 then ⟨#[85, 73, 78, 84]⟩ else if k = 6 then ⟨#[87, 79, 82, 68]⟩ else if k = 7 then ⟨#[68, 87, 79, 82, 68]⟩ else ⟨#[]⟩
def kcells (k : Int) : List AV := [.v (.string (kname k)), .v (.int .i64 (ksz k)), .v (.bool (ksg k)), .v (.bool (kbt k))]
theorem seven {k : Int} (h : 1 ≤ k ∧ k ≤ 7) : k = 1 ∨ k = 2 ∨ k = 3 ∨ k = 4 ∨ k = 5 ∨ k = 6 ∨ k = 7 := by omega
theorem kno {n : Int} (h : ¬ (1 ≤ n ∧ n ≤ 7)) : ksz n = 0 ∧ ksg n = false ∧ kbt n = false ∧ kname n = ⟨#[]⟩ ∧ kok n = false := by
  have e : ∀ m : Int, 1 ≤ m → m ≤ 7 → n ≠ m := fun m h1 h2 e => h (by omega)
  refine ⟨?_, ?_, ?_, ?_, ?_⟩
  · unfold ksz; rw [if_neg (by omega), if_neg (by omega), if_neg (by omega)]
  · unfold ksg; simp [e]
  · unfold kbt; simp [e]
  · unfold kname; simp [e]
  · unfold kok; by_cases c : 1 ≤ n <;> simp <;> omega
theorem kyes {n : Int} (h : 1 ≤ n ∧ n ≤ 7) : kok n = true := by unfold kok; simp [h.1, h.2]
theorem kof_a (k : Nat) (n : Int) : acall T (k + 2) 92 0 [.v (.int .i64 n)] [] = some ⟨.tup [.agg (kcells n), .v (.bool (kok n))], [], 1⟩ := by
  by_cases h : 1 ≤ n ∧ n ≤ 7
  · rcases seven h with rfl | rfl | rfl | rfl | rfl | rfl | rfl <;> kernel_rfl
  · obtain ⟨h1, h2, h3, h4, h5⟩ := kno h
    rw [acall_go (body := b_iec_of) rfl rfl (Nat.zero_le _)]
    by_cases c1 : n < 1
    · simp -implicitDefEqProofs only [eqs, eqd, eqe, lh_some, ↓reduceIte, reduceCtorEq, Nat.reduceEqDiff, Nat.reduceAdd, Nat.reduceSub, Nat.reduceMul, Nat.reduceLT, Nat.reduceLeDiff, Nat.reduceBEq, Nat.reduceBNe, Nat.reduceGT, Int.reduceEq, Int.reduceLT, Int.reduceLE, Int.reduceToNat, Int.reduceAdd, Int.reduceSub, Int.reduceMul, Int.reduceNeg, Int.reduceBEq, Int.reduceBNe, b_iec_of, c1, kcells, h1, h2, h3, h4, h5]
    · have c2 : 7 < n := by omega
      simp -implicitDefEqProofs only [eqs, eqd, eqe, lh_some, ↓reduceIte, reduceCtorEq, Nat.reduceEqDiff, Nat.reduceAdd, Nat.reduceSub, Nat.reduceMul, Nat.reduceLT, Nat.reduceLeDiff, Nat.reduceBEq, Nat.reduceBNe, Nat.reduceGT, Int.reduceEq, Int.reduceLT, Int.reduceLE, Int.reduceToNat, Int.reduceAdd, Int.reduceSub, Int.reduceMul, Int.reduceNeg, Int.reduceBEq, Int.reduceBNe, b_iec_of, c1, c2, kcells, h1, h2, h3, h4, h5]
theorem ksize_a (k : Nat) (n : Int) : acall T (k + 3) 77 0 [.v (.int .i64 n)] [] = some ⟨.v (.int .i64 (ksz n)), [], 1⟩ := by
  rw [acall_go (body := b_iec_Size) rfl rfl (Nat.zero_le _)]
  have h := kof_a k n
  simp -implicitDefEqProofs only [eqs, eqd, eqe, lh_some, ↓reduceIte, reduceCtorEq, Nat.reduceEqDiff, Nat.reduceAdd, Nat.reduceSub, Nat.reduceMul, Nat.reduceLT, Nat.reduceLeDiff, Nat.reduceBEq, Nat.reduceBNe, Nat.reduceGT, Int.reduceEq, Int.reduceLT, Int.reduceLE, Int.reduceToNat, Int.reduceAdd, Int.reduceSub, Int.reduceMul, Int.reduceNeg, Int.reduceBEq, Int.reduceBNe, b_iec_Size, h, kcells]
theorem rsize_a (k : Nat) (n : Int) : acall T (k + 2) 69 0 [.v (.int .i64 n)] [] = some ⟨.v (.int .i64 (ksz n)), [], 1⟩ := by
  by_cases h : 1 ≤ n ∧ n ≤ 7
  · rcases seven h with rfl | rfl | rfl | rfl | rfl | rfl | rfl <;> kernel_rfl
  · obtain ⟨h1, h2, h3, h4, h5⟩ := kno h
    rw [acall_go (body := b_fuglemanref11_Size) rfl rfl (Nat.zero_le _)]
    by_cases c1 : n < 0
    · simp -implicitDefEqProofs only [eqs, eqd, eqe, lh_some, ↓reduceIte, reduceCtorEq, Nat.reduceEqDiff, Nat.reduceAdd, Nat.reduceSub, Nat.reduceMul, Nat.reduceLT, Nat.reduceLeDiff, Nat.reduceBEq, Nat.reduceBNe, Nat.reduceGT, Int.reduceEq, Int.reduceLT, Int.reduceLE, Int.reduceToNat, Int.reduceAdd, Int.reduceSub, Int.reduceMul, Int.reduceNeg, Int.reduceBEq, Int.reduceBNe, b_fuglemanref11_Size, c1, h1]
    · by_cases c2 : 7 < n
      · simp -implicitDefEqProofs only [eqs, eqd, eqe, lh_some, ↓reduceIte, reduceCtorEq, Nat.reduceEqDiff, Nat.reduceAdd, Nat.reduceSub, Nat.reduceMul, Nat.reduceLT, Nat.reduceLeDiff, Nat.reduceBEq, Nat.reduceBNe, Nat.reduceGT, Int.reduceEq, Int.reduceLT, Int.reduceLE, Int.reduceToNat, Int.reduceAdd, Int.reduceSub, Int.reduceMul, Int.reduceNeg, Int.reduceBEq, Int.reduceBNe, b_fuglemanref11_Size, c1, c2, h1]
      · obtain rfl : n = 0 := by omega
        simp -implicitDefEqProofs only [eqs, eqd, eqe, lh_some, ↓reduceIte, reduceCtorEq, Nat.reduceEqDiff, Nat.reduceAdd, Nat.reduceSub, Nat.reduceMul, Nat.reduceLT, Nat.reduceLeDiff, Nat.reduceBEq, Nat.reduceBNe, Nat.reduceGT, Int.reduceEq, Int.reduceLT, Int.reduceLE, Int.reduceToNat, Int.reduceAdd, Int.reduceSub, Int.reduceMul, Int.reduceNeg, Int.reduceBEq, Int.reduceBNe, b_fuglemanref11_Size, h1]
/-- May an operation be done with a kind? -/
def may (op k : Int) : Bool := kok k && (if 7 ≤ op ∧ op ≤ 13 then kbt k else if 14 ≤ op ∧ op ≤ 18 then !kbt k else decide (19 ≤ op) && decide (op ≤ 24))
theorem may_a (k : Nat) (op n : Int) : acall T (k + 3) 87 0 [.v (.int .i64 op), .v (.int .i64 n)] [] = some ⟨.v (.bool (may op n)), [], 1⟩ := by
  rw [acall_go (body := b_iec_May) rfl rfl (Nat.zero_le _)]
  have h := kof_a k n
  unfold may
  cases c0 : kok n
  · rw [c0] at h
    simp -implicitDefEqProofs only [eqs, eqd, eqe, lh_some, ↓reduceIte, reduceCtorEq, Nat.reduceEqDiff, Nat.reduceAdd, Nat.reduceSub, Nat.reduceMul, Nat.reduceLT, Nat.reduceLeDiff, Nat.reduceBEq, Nat.reduceBNe, Nat.reduceGT, Int.reduceEq, Int.reduceLT, Int.reduceLE, Int.reduceToNat, Int.reduceAdd, Int.reduceSub, Int.reduceMul, Int.reduceNeg, Int.reduceBEq, Int.reduceBNe, b_iec_May, gs_iec_May, h, kcells]
  · rw [c0] at h
    by_cases c1 : 7 ≤ op
    · by_cases c2 : op ≤ 13
      · simp -implicitDefEqProofs only [eqs, eqd, eqe, lh_some, ↓reduceIte, reduceCtorEq, Nat.reduceEqDiff, Nat.reduceAdd, Nat.reduceSub, Nat.reduceMul, Nat.reduceLT, Nat.reduceLeDiff, Nat.reduceBEq, Nat.reduceBNe, Nat.reduceGT, Int.reduceEq, Int.reduceLT, Int.reduceLE, Int.reduceToNat, Int.reduceAdd, Int.reduceSub, Int.reduceMul, Int.reduceNeg, Int.reduceBEq, Int.reduceBNe, b_iec_May, gs_iec_May, h, kcells, c1, c2]
      · by_cases c3 : 14 ≤ op
        · by_cases c4 : op ≤ 18
          · simp -implicitDefEqProofs only [eqs, eqd, eqe, lh_some, ↓reduceIte, reduceCtorEq, Nat.reduceEqDiff, Nat.reduceAdd, Nat.reduceSub, Nat.reduceMul, Nat.reduceLT, Nat.reduceLeDiff, Nat.reduceBEq, Nat.reduceBNe, Nat.reduceGT, Int.reduceEq, Int.reduceLT, Int.reduceLE, Int.reduceToNat, Int.reduceAdd, Int.reduceSub, Int.reduceMul, Int.reduceNeg, Int.reduceBEq, Int.reduceBNe, b_iec_May, gs_iec_May, h, kcells, c1, c2, c3, c4]
          · by_cases c5 : 19 ≤ op
            · simp -implicitDefEqProofs only [eqs, eqd, eqe, lh_some, ↓reduceIte, reduceCtorEq, Nat.reduceEqDiff, Nat.reduceAdd, Nat.reduceSub, Nat.reduceMul, Nat.reduceLT, Nat.reduceLeDiff, Nat.reduceBEq, Nat.reduceBNe, Nat.reduceGT, Int.reduceEq, Int.reduceLT, Int.reduceLE, Int.reduceToNat, Int.reduceAdd, Int.reduceSub, Int.reduceMul, Int.reduceNeg, Int.reduceBEq, Int.reduceBNe, b_iec_May, gs_iec_May, h, kcells, c1, c2, c3, c4, c5]
            · omega
        · omega
    · have c2 : ¬ 14 ≤ op := by omega
      have c3 : ¬ 19 ≤ op := by omega
      simp -implicitDefEqProofs only [eqs, eqd, eqe, lh_some, ↓reduceIte, reduceCtorEq, Nat.reduceEqDiff, Nat.reduceAdd, Nat.reduceSub, Nat.reduceMul, Nat.reduceLT, Nat.reduceLeDiff, Nat.reduceBEq, Nat.reduceBNe, Nat.reduceGT, Int.reduceEq, Int.reduceLT, Int.reduceLE, Int.reduceToNat, Int.reduceAdd, Int.reduceSub, Int.reduceMul, Int.reduceNeg, Int.reduceBEq, Int.reduceBNe, b_iec_May, gs_iec_May, h, kcells, c1, c2, c3]
theorem rmay_a (k : Nat) (op n : Int) : acall T (k + 3) 71 0 [.v (.int .i64 op), .v (.int .i64 n)] [] = some ⟨.v (.bool (may op n)), [], 1⟩ := by
  rw [acall_go (body := b_fuglemanref11_May) rfl rfl (Nat.zero_le _)]
  have h := rsize_a k n
  unfold may
  by_cases h0 : 1 ≤ n ∧ n ≤ 7
  · have e0 : kok n = true := kyes h0
    have e1 : (ksz n == 0) = false := by rcases seven h0 with rfl | rfl | rfl | rfl | rfl | rfl | rfl <;> rfl
    have e2 : kbt n = (n == 1 || decide (6 ≤ n)) := by rcases seven h0 with rfl | rfl | rfl | rfl | rfl | rfl | rfl <;> rfl
    rw [e0, e2]
    by_cases a1 : 7 ≤ op
    · by_cases a2 : op ≤ 13
      · have b1 : ¬ 14 ≤ op := by omega
        have b2 : ¬ 19 ≤ op := by omega
        have b3 : op ≤ 18 := by omega
        have b4 : op ≤ 24 := by omega
        by_cases d1 : n = 1
        · subst d1
          simp -implicitDefEqProofs only [eqs, eqd, eqe, lh_some, ↓reduceIte, reduceCtorEq, Nat.reduceEqDiff, Nat.reduceAdd, Nat.reduceSub, Nat.reduceMul, Nat.reduceLT, Nat.reduceLeDiff, Nat.reduceBEq, Nat.reduceBNe, Nat.reduceGT, Int.reduceEq, Int.reduceLT, Int.reduceLE, Int.reduceToNat, Int.reduceAdd, Int.reduceSub, Int.reduceMul, Int.reduceNeg, Int.reduceBEq, Int.reduceBNe, b_fuglemanref11_May, h, e1, a1, a2, b1, b2, b3, b4]
        · have d1' : (n == 1) = false := by simpa using d1
          by_cases d2 : 6 ≤ n <;> simp -implicitDefEqProofs only [eqs, eqd, eqe, lh_some, ↓reduceIte, reduceCtorEq, Nat.reduceEqDiff, Nat.reduceAdd, Nat.reduceSub, Nat.reduceMul, Nat.reduceLT, Nat.reduceLeDiff, Nat.reduceBEq, Nat.reduceBNe, Nat.reduceGT, Int.reduceEq, Int.reduceLT, Int.reduceLE, Int.reduceToNat, Int.reduceAdd, Int.reduceSub, Int.reduceMul, Int.reduceNeg, Int.reduceBEq, Int.reduceBNe, b_fuglemanref11_May, h, e1, a1, a2, b1, b2, b3, b4, d1', d2]
      · by_cases a3 : op ≤ 18
        · have b1 : 14 ≤ op := by omega
          have b2 : ¬ 19 ≤ op := by omega
          have b4 : op ≤ 24 := by omega
          by_cases d2 : 2 ≤ n
          · have d1' : (n == 1) = false := by rw [beq_eq_false_iff_ne]; omega
            by_cases d3 : n ≤ 5
            · have d4 : ¬ 6 ≤ n := by omega
              simp -implicitDefEqProofs only [eqs, eqd, eqe, lh_some, ↓reduceIte, reduceCtorEq, Nat.reduceEqDiff, Nat.reduceAdd, Nat.reduceSub, Nat.reduceMul, Nat.reduceLT, Nat.reduceLeDiff, Nat.reduceBEq, Nat.reduceBNe, Nat.reduceGT, Int.reduceEq, Int.reduceLT, Int.reduceLE, Int.reduceToNat, Int.reduceAdd, Int.reduceSub, Int.reduceMul, Int.reduceNeg, Int.reduceBEq, Int.reduceBNe, b_fuglemanref11_May, h, e1, a1, a2, a3, b1, b2, b4, d1', d2, d3, d4]
            · have d4 : 6 ≤ n := by omega
              simp -implicitDefEqProofs only [eqs, eqd, eqe, lh_some, ↓reduceIte, reduceCtorEq, Nat.reduceEqDiff, Nat.reduceAdd, Nat.reduceSub, Nat.reduceMul, Nat.reduceLT, Nat.reduceLeDiff, Nat.reduceBEq, Nat.reduceBNe, Nat.reduceGT, Int.reduceEq, Int.reduceLT, Int.reduceLE, Int.reduceToNat, Int.reduceAdd, Int.reduceSub, Int.reduceMul, Int.reduceNeg, Int.reduceBEq, Int.reduceBNe, b_fuglemanref11_May, h, e1, a1, a2, a3, b1, b2, b4, d1', d2, d3, d4]
          · obtain rfl : n = 1 := by omega
            simp -implicitDefEqProofs only [eqs, eqd, eqe, lh_some, ↓reduceIte, reduceCtorEq, Nat.reduceEqDiff, Nat.reduceAdd, Nat.reduceSub, Nat.reduceMul, Nat.reduceLT, Nat.reduceLeDiff, Nat.reduceBEq, Nat.reduceBNe, Nat.reduceGT, Int.reduceEq, Int.reduceLT, Int.reduceLE, Int.reduceToNat, Int.reduceAdd, Int.reduceSub, Int.reduceMul, Int.reduceNeg, Int.reduceBEq, Int.reduceBNe, b_fuglemanref11_May, h, e1, a1, a2, a3, b1, b2, b4]
        · have b1 : 14 ≤ op := by omega
          have b2 : 19 ≤ op := by omega
          by_cases b4 : op ≤ 24 <;> simp -implicitDefEqProofs only [eqs, eqd, eqe, lh_some, ↓reduceIte, reduceCtorEq, Nat.reduceEqDiff, Nat.reduceAdd, Nat.reduceSub, Nat.reduceMul, Nat.reduceLT, Nat.reduceLeDiff, Nat.reduceBEq, Nat.reduceBNe, Nat.reduceGT, Int.reduceEq, Int.reduceLT, Int.reduceLE, Int.reduceToNat, Int.reduceAdd, Int.reduceSub, Int.reduceMul, Int.reduceNeg, Int.reduceBEq, Int.reduceBNe, b_fuglemanref11_May, h, e1, a1, a2, a3, b1, b2, b4]
    · have a2 : op ≤ 13 := by omega
      have a3 : op ≤ 18 := by omega
      have b1 : ¬ 14 ≤ op := by omega
      have b2 : ¬ 19 ≤ op := by omega
      have b4 : op ≤ 24 := by omega
      simp -implicitDefEqProofs only [eqs, eqd, eqe, lh_some, ↓reduceIte, reduceCtorEq, Nat.reduceEqDiff, Nat.reduceAdd, Nat.reduceSub, Nat.reduceMul, Nat.reduceLT, Nat.reduceLeDiff, Nat.reduceBEq, Nat.reduceBNe, Nat.reduceGT, Int.reduceEq, Int.reduceLT, Int.reduceLE, Int.reduceToNat, Int.reduceAdd, Int.reduceSub, Int.reduceMul, Int.reduceNeg, Int.reduceBEq, Int.reduceBNe, b_fuglemanref11_May, h, e1, a1, a2, a3, b1, b2, b4]
  · obtain ⟨h1, h2, h3, h4, h5⟩ := kno h0
    rw [h1] at h
    rw [h5]
    by_cases a1 : 7 ≤ op <;> by_cases b1 : 14 ≤ op <;> by_cases b2 : 19 ≤ op <;> simp -implicitDefEqProofs only [eqs, eqd, eqe, lh_some, ↓reduceIte, reduceCtorEq, Nat.reduceEqDiff, Nat.reduceAdd, Nat.reduceSub, Nat.reduceMul, Nat.reduceLT, Nat.reduceLeDiff, Nat.reduceBEq, Nat.reduceBNe, Nat.reduceGT, Int.reduceEq, Int.reduceLT, Int.reduceLE, Int.reduceToNat, Int.reduceAdd, Int.reduceSub, Int.reduceMul, Int.reduceNeg, Int.reduceBEq, Int.reduceBNe, b_fuglemanref11_May, h, a1, b1, b2]
end Go.Proofs.Ytcfokbhmchcgbaa.Ver

/- Instructions that may be: package il's answer, and the document's. Written by a program for this claim. -/
namespace Go.Proofs.Ytcfokbhmchcgbaa.Ver
open Go Go.Proofs.Ytcfokbhmchcgbaa.Sym Go.Proofs.Ytcfokbhmchcgbaa.Tab
set_option linter.unusedVariables false
set_option linter.unusedSimpArgs false
set_option maxHeartbeats 4000000
set_option maxRecDepth 20000
def klo (k : Int) : Int := if k = 2 then -128 else if k = 3 then -32768 else if k = 4 then -2147483648 else 0
def khi (k : Int) : Int := if k = 1 then 1 else if k = 2 then 127 else if k = 3 then 32767 else if k = 4 then 2147483647 else if k = 5 ∨ k = 6 then 65535 else 4294967295
/-- Is a number a value of a kind? -/
def isK (k v : Int) : Bool := kok k && (decide (klo k ≤ v) && decide (v ≤ khi k))
def wrapK (k v : Int) : Int := if k = 1 then (if v = 0 then 0 else 1) else if k = 2 then IntKind.i64.wrap (IntKind.i8.wrap v) else if k = 3 then IntKind.i64.wrap (IntKind.i16.wrap v) else if k = 4 then IntKind.i64.wrap (IntKind.i32.wrap v) else if k = 5 ∨ k = 6 then IntKind.i64.wrap (IntKind.u16.wrap v) else if k = 7 then IntKind.i64.wrap (IntKind.u32.wrap v) else 0
theorem wi8 (v : Int) : IntKind.i8.wrap v = (v + 128) % 256 - 128 := by
  simp [IntKind.wrap, IntKind.bits, IntKind.signed]
  split <;> omega
theorem wi16 (v : Int) : IntKind.i16.wrap v = (v + 32768) % 65536 - 32768 := by
  simp [IntKind.wrap, IntKind.bits, IntKind.signed]
  split <;> omega
theorem wi32 (v : Int) : IntKind.i32.wrap v = (v + 2147483648) % 4294967296 - 2147483648 := by
  simp [IntKind.wrap, IntKind.bits, IntKind.signed]
  split <;> omega
theorem wu16' (v : Int) : IntKind.u16.wrap v = v % 65536 := by simp [IntKind.wrap, IntKind.bits, IntKind.signed]
theorem wu32' (v : Int) : IntKind.u32.wrap v = v % 4294967296 := by simp [IntKind.wrap, IntKind.bits, IntKind.signed]
theorem beq_dec {a b : Int} {p : Bool} (h : a = b ↔ p = true) : (a == b) = p := by
  cases p
  · rw [beq_eq_false_iff_ne]; intro e; have := h.1 e; cases this
  · rw [beq_iff_eq]; exact h.2 rfl
theorem wrap_is (k v : Int) : (kok k && (wrapK k v == v)) = isK k v := by
  unfold isK
  by_cases h : 1 ≤ k ∧ k ≤ 7
  · rw [kyes h, Bool.true_and, Bool.true_and]
    refine beq_dec ?_
    rw [Bool.and_eq_true, decide_eq_true_eq, decide_eq_true_eq]
    rcases seven h with rfl | rfl | rfl | rfl | rfl | rfl | rfl
    · show (if v = 0 then (0 : Int) else 1) = v ↔ 0 ≤ v ∧ v ≤ 1
      split <;> omega
    · show IntKind.i64.wrap (IntKind.i8.wrap v) = v ↔ -128 ≤ v ∧ v ≤ 127
      rw [wi8, w64 (by omega) (by omega)]; omega
    · show IntKind.i64.wrap (IntKind.i16.wrap v) = v ↔ -32768 ≤ v ∧ v ≤ 32767
      rw [wi16, w64 (by omega) (by omega)]; omega
    · show IntKind.i64.wrap (IntKind.i32.wrap v) = v ↔ -2147483648 ≤ v ∧ v ≤ 2147483647
      rw [wi32, w64 (by omega) (by omega)]; omega
    · show IntKind.i64.wrap (IntKind.u16.wrap v) = v ↔ 0 ≤ v ∧ v ≤ 65535
      rw [wu16', w64 (by omega) (by omega)]; omega
    · show IntKind.i64.wrap (IntKind.u16.wrap v) = v ↔ 0 ≤ v ∧ v ≤ 65535
      rw [wu16', w64 (by omega) (by omega)]; omega
    · show IntKind.i64.wrap (IntKind.u32.wrap v) = v ↔ 0 ≤ v ∧ v ≤ 4294967295
      rw [wu32', w64 (by omega) (by omega)]; omega
  · rw [(kno h).2.2.2.2, Bool.false_and, Bool.false_and]
theorem wrap_a (k : Nat) (n v : Int) (hn : 1 ≤ n ∧ n ≤ 7) : acall T (k + 3) 93 0 [.v (.int .i64 n), .v (.int .i64 v)] [] = some ⟨.v (.int .i64 (wrapK n v)), [], 1⟩ := by
  rcases seven hn with rfl | rfl | rfl | rfl | rfl | rfl | rfl
  · have h := kof_a k 1
    have e1 : ksz 1 = 1 := rfl
    have e2 : ksg 1 = false := rfl
    have e3 : kok 1 = true := rfl
    rw [acall_go (body := b_iec_Wrap) rfl rfl (Nat.zero_le _)]
    by_cases c : v = 0
    · subst c
      simp -implicitDefEqProofs only [eqs, eqd, eqe, lh_some, ↓reduceIte, reduceCtorEq, Nat.reduceEqDiff, Nat.reduceAdd, Nat.reduceSub, Nat.reduceMul, Nat.reduceLT, Nat.reduceLeDiff, Nat.reduceBEq, Nat.reduceBNe, Nat.reduceGT, Int.reduceEq, Int.reduceLT, Int.reduceLE, Int.reduceToNat, Int.reduceAdd, Int.reduceSub, Int.reduceMul, Int.reduceNeg, Int.reduceBEq, Int.reduceBNe, b_iec_Wrap, gs_iec_Wrap, h, e1, e2, e3, kcells, wrapK]
    · have c' : (v != 0) = true := by simpa using c
      simp -implicitDefEqProofs only [eqs, eqd, eqe, lh_some, ↓reduceIte, reduceCtorEq, Nat.reduceEqDiff, Nat.reduceAdd, Nat.reduceSub, Nat.reduceMul, Nat.reduceLT, Nat.reduceLeDiff, Nat.reduceBEq, Nat.reduceBNe, Nat.reduceGT, Int.reduceEq, Int.reduceLT, Int.reduceLE, Int.reduceToNat, Int.reduceAdd, Int.reduceSub, Int.reduceMul, Int.reduceNeg, Int.reduceBEq, Int.reduceBNe, b_iec_Wrap, gs_iec_Wrap, h, e1, e2, e3, kcells, wrapK, c, c']
  all_goals kernel_rfl
theorem is_a (k : Nat) (n v : Int) : acall T (k + 4) 75 0 [.v (.int .i64 n), .v (.int .i64 v)] [] = some ⟨.v (.bool (isK n v)), [], 1⟩ := by
  rw [acall_go (body := b_iec_Is) rfl rfl (Nat.zero_le _), ← wrap_is]
  have h := kof_a (k + 1) n
  by_cases hn : 1 ≤ n ∧ n ≤ 7
  · have h2 := wrap_a k n v hn
    rw [kyes hn] at h ⊢
    simp -implicitDefEqProofs only [eqs, eqd, eqe, lh_some, ↓reduceIte, reduceCtorEq, Nat.reduceEqDiff, Nat.reduceAdd, Nat.reduceSub, Nat.reduceMul, Nat.reduceLT, Nat.reduceLeDiff, Nat.reduceBEq, Nat.reduceBNe, Nat.reduceGT, Int.reduceEq, Int.reduceLT, Int.reduceLE, Int.reduceToNat, Int.reduceAdd, Int.reduceSub, Int.reduceMul, Int.reduceNeg, Int.reduceBEq, Int.reduceBNe, b_iec_Is, h, h2, kcells]
  · rw [(kno hn).2.2.2.2] at h ⊢
    simp -implicitDefEqProofs only [eqs, eqd, eqe, lh_some, ↓reduceIte, reduceCtorEq, Nat.reduceEqDiff, Nat.reduceAdd, Nat.reduceSub, Nat.reduceMul, Nat.reduceLT, Nat.reduceLeDiff, Nat.reduceBEq, Nat.reduceBNe, Nat.reduceGT, Int.reduceEq, Int.reduceLT, Int.reduceLE, Int.reduceToNat, Int.reduceAdd, Int.reduceSub, Int.reduceMul, Int.reduceNeg, Int.reduceBEq, Int.reduceBNe, b_iec_Is, h, kcells]
theorem many_a (k : Nat) (n : Int) (hn : 1 ≤ n ∧ n ≤ 7) : acall T (k + 8) 90 0 [.v (.int .i64 n)] [] = some ⟨.v (.int .i64 (khi n - klo n + 1)), [], if n = 1 then 0 else 1⟩ := by
  rcases seven hn with rfl | rfl | rfl | rfl | rfl | rfl | rfl <;> kernel_rfl
theorem least_a (k : Nat) (n : Int) (hn : 1 ≤ n ∧ n ≤ 7) : acall T (k + 9) 89 0 [.v (.int .i64 n)] [] = some ⟨.v (.int .i64 (klo n)), [], if 2 ≤ n ∧ n ≤ 4 then 1 else 0⟩ := by
  rcases seven hn with rfl | rfl | rfl | rfl | rfl | rfl | rfl <;> kernel_rfl
theorem ris_a (k : Nat) (n v : Int) : acall T (k + 10) 66 0 [.v (.int .i64 n), .v (.int .i64 v)] [] = some ⟨.v (.bool (isK n v)), [], 1⟩ := by
  rw [acall_go (body := b_fuglemanref11_Is) rfl rfl (Nat.zero_le _)]
  have h := rsize_a (k + 7) n
  unfold isK
  by_cases hn : 1 ≤ n ∧ n ≤ 7
  · obtain ⟨d1, hd1, h1⟩ : ∃ d1, (d1 = 0 ∨ d1 = 1) ∧ acall T (k + 9) 90 0 [.v (.int .i64 n)] [] = some ⟨.v (.int .i64 (khi n - klo n + 1)), [], d1⟩ := ⟨_, by split <;> simp, many_a (k + 1) n hn⟩
    obtain ⟨d2, hd2, h2⟩ : ∃ d2, (d2 = 0 ∨ d2 = 1) ∧ acall T (k + 9) 89 0 [.v (.int .i64 n)] [] = some ⟨.v (.int .i64 (klo n)), [], d2⟩ := ⟨_, by split <;> simp, least_a k n hn⟩
    have e0 : 0 < ksz n := by rcases seven hn with rfl | rfl | rfl | rfl | rfl | rfl | rfl <;> decide
    have e1 : -2147483648 ≤ klo n ∧ klo n ≤ 0 ∧ 1 ≤ khi n ∧ khi n ≤ 4294967295 := by rcases seven hn with rfl | rfl | rfl | rfl | rfl | rfl | rfl <;> decide
    have e2 : IntKind.i64.wrap (klo n + (khi n - klo n + 1)) = khi n + 1 := by rw [w64 (by omega) (by omega)]; omega
    have e3 : IntKind.i64.wrap (khi n + 1 - 1) = khi n := by rw [w64 (by omega) (by omega)]; omega
    rw [kyes hn]
    generalize klo n = lo at *
    generalize khi n = hi at *
    by_cases c1 : lo ≤ v <;> rcases hd1 with rfl | rfl <;> rcases hd2 with rfl | rfl <;> simp -implicitDefEqProofs only [eqs, eqd, eqe, lh_some, ↓reduceIte, reduceCtorEq, Nat.reduceEqDiff, Nat.reduceAdd, Nat.reduceSub, Nat.reduceMul, Nat.reduceLT, Nat.reduceLeDiff, Nat.reduceBEq, Nat.reduceBNe, Nat.reduceGT, Int.reduceEq, Int.reduceLT, Int.reduceLE, Int.reduceToNat, Int.reduceAdd, Int.reduceSub, Int.reduceMul, Int.reduceNeg, Int.reduceBEq, Int.reduceBNe, b_fuglemanref11_Is, h, h1, h2, e0, e2, e3, c1]
  · rw [(kno hn).2.2.2.2]
    rw [(kno hn).1] at h
    simp -implicitDefEqProofs only [eqs, eqd, eqe, lh_some, ↓reduceIte, reduceCtorEq, Nat.reduceEqDiff, Nat.reduceAdd, Nat.reduceSub, Nat.reduceMul, Nat.reduceLT, Nat.reduceLeDiff, Nat.reduceBEq, Nat.reduceBNe, Nat.reduceGT, Int.reduceEq, Int.reduceLT, Int.reduceLE, Int.reduceToNat, Int.reduceAdd, Int.reduceSub, Int.reduceMul, Int.reduceNeg, Int.reduceBEq, Int.reduceBNe, b_fuglemanref11_Is, h]
/-- What an operation asks for. -/
def cl (op : Int) : Int := if op = 1 ∨ op = 2 ∨ (7 ≤ op ∧ op ≤ 12) ∨ (14 ≤ op ∧ op ≤ 24) then 1 else if 3 ≤ op ∧ op ≤ 6 then 2 else if 25 ≤ op ∧ op ≤ 27 then 3 else if op = 13 ∨ (28 ≤ op ∧ op ≤ 30) ∨ op = 33 then 4 else if op = 31 then 5 else if op = 32 then 6 else if op = 34 ∨ op = 35 then 7 else if op = 36 then 8 else 0
noncomputable def onm (n : Int) : ByteArray := match acall T 5 74 0 [.v (.int .i64 n)] [] with
  | some ⟨.agg [.v (.string s), _], _, _⟩ => s
  | _ => ByteArray.empty
theorem upto37 : ∀ (n : Nat), n < 37 → n = 0 ∨ n = 1 ∨ n = 2 ∨ n = 3 ∨ n = 4 ∨ n = 5 ∨ n = 6 ∨ n = 7 ∨ n = 8 ∨ n = 9 ∨ n = 10 ∨ n = 11 ∨ n = 12 ∨ n = 13 ∨ n = 14 ∨ n = 15 ∨ n = 16 ∨ n = 17 ∨ n = 18 ∨ n = 19 ∨ n = 20 ∨ n = 21 ∨ n = 22 ∨ n = 23 ∨ n = 24 ∨ n = 25 ∨ n = 26 ∨ n = 27 ∨ n = 28 ∨ n = 29 ∨ n = 30 ∨ n = 31 ∨ n = 32 ∨ n = 33 ∨ n = 34 ∨ n = 35 ∨ n = 36 := by omega
theorem ilof_a (k : Nat) (n : Int) : ∃ s, acall T (k + 2) 74 0 [.v (.int .i64 n)] [] = some ⟨.agg [.v (.string s), .v (.int .i64 (cl n))], [], 1⟩ := by
  by_cases h : 0 ≤ n ∧ n < 37
  · refine ⟨onm n, ?_⟩
    obtain ⟨m, rfl⟩ : ∃ m : Nat, n = m := ⟨n.toNat, by omega⟩
    rcases upto37 m (by omega) with rfl | rfl | rfl | rfl | rfl | rfl | rfl | rfl | rfl | rfl | rfl | rfl | rfl | rfl | rfl | rfl | rfl | rfl | rfl | rfl | rfl | rfl | rfl | rfl | rfl | rfl | rfl | rfl | rfl | rfl | rfl | rfl | rfl | rfl | rfl | rfl | rfl <;> kernel_rfl
  · refine ⟨⟨#[]⟩, ?_⟩
    have e : cl n = 0 := by unfold cl; repeat (rw [if_neg (by omega)])
    rw [e, acall_go (body := b_il_of) rfl rfl (Nat.zero_le _)]
    have h2 : ∃ xs : List AV, acall T (k + 1) 91 0 [] [] = some ⟨.shr 37 true xs, [], 1⟩ := ⟨_, by rw [acall_go (body := b_il_ops) rfl rfl (Nat.zero_le _)]; simp -implicitDefEqProofs only [eqs, eqd, eqe, lh_some, ↓reduceIte, reduceCtorEq, Nat.reduceEqDiff, Nat.reduceAdd, Nat.reduceSub, Nat.reduceMul, Nat.reduceLT, Nat.reduceLeDiff, Nat.reduceBEq, Nat.reduceBNe, Nat.reduceGT, Int.reduceEq, Int.reduceLT, Int.reduceLE, Int.reduceToNat, Int.reduceAdd, Int.reduceSub, Int.reduceMul, Int.reduceNeg, Int.reduceBEq, Int.reduceBNe, b_il_ops]; rfl⟩
    obtain ⟨xs, h2⟩ := h2
    by_cases c1 : n < 0
    · simp -implicitDefEqProofs only [eqs, eqd, eqe, lh_some, ↓reduceIte, reduceCtorEq, Nat.reduceEqDiff, Nat.reduceAdd, Nat.reduceSub, Nat.reduceMul, Nat.reduceLT, Nat.reduceLeDiff, Nat.reduceBEq, Nat.reduceBNe, Nat.reduceGT, Int.reduceEq, Int.reduceLT, Int.reduceLE, Int.reduceToNat, Int.reduceAdd, Int.reduceSub, Int.reduceMul, Int.reduceNeg, Int.reduceBEq, Int.reduceBNe, b_il_of, h2, c1]
    · have c2 : (37 : Int) ≤ n := by omega
      simp -implicitDefEqProofs only [eqs, eqd, eqe, lh_some, ↓reduceIte, reduceCtorEq, Nat.reduceEqDiff, Nat.reduceAdd, Nat.reduceSub, Nat.reduceMul, Nat.reduceLT, Nat.reduceLeDiff, Nat.reduceBEq, Nat.reduceBNe, Nat.reduceGT, Int.reduceEq, Int.reduceLT, Int.reduceLE, Int.reduceToNat, Int.reduceAdd, Int.reduceSub, Int.reduceMul, Int.reduceNeg, Int.reduceBEq, Int.reduceBNe, b_il_of, h2, c1, c2]
theorem within_a (k : Nat) (n : Int) : acall T (k + 3) 78 0 [.v (.int .i64 n)] [] = some ⟨.v (.bool ((cl n == 1) && decide (7 ≤ n))), [], 1⟩ := by
  rw [acall_go (body := b_il_within) rfl rfl (Nat.zero_le _)]
  obtain ⟨s, h⟩ := ilof_a k n
  try simp -implicitDefEqProofs only [eqs, eqd, eqe, lh_some, ↓reduceIte, reduceCtorEq, Nat.reduceEqDiff, Nat.reduceAdd, Nat.reduceSub, Nat.reduceMul, Nat.reduceLT, Nat.reduceLeDiff, Nat.reduceBEq, Nat.reduceBNe, Nat.reduceGT, Int.reduceEq, Int.reduceLT, Int.reduceLE, Int.reduceToNat, Int.reduceAdd, Int.reduceSub, Int.reduceMul, Int.reduceNeg, Int.reduceBEq, Int.reduceBNe, b_il_within, h]
  cases h0 : (cl n == 1)
  · simp -implicitDefEqProofs only [eqs, eqd, eqe, lh_some, ↓reduceIte, reduceCtorEq, Nat.reduceEqDiff, Nat.reduceAdd, Nat.reduceSub, Nat.reduceMul, Nat.reduceLT, Nat.reduceLeDiff, Nat.reduceBEq, Nat.reduceBNe, Nat.reduceGT, Int.reduceEq, Int.reduceLT, Int.reduceLE, Int.reduceToNat, Int.reduceAdd, Int.reduceSub, Int.reduceMul, Int.reduceNeg, Int.reduceBEq, Int.reduceBNe, b_il_within, h, h0]
  simp -implicitDefEqProofs only [eqs, eqd, eqe, lh_some, ↓reduceIte, reduceCtorEq, Nat.reduceEqDiff, Nat.reduceAdd, Nat.reduceSub, Nat.reduceMul, Nat.reduceLT, Nat.reduceLeDiff, Nat.reduceBEq, Nat.reduceBNe, Nat.reduceGT, Int.reduceEq, Int.reduceLT, Int.reduceLE, Int.reduceToNat, Int.reduceAdd, Int.reduceSub, Int.reduceMul, Int.reduceNeg, Int.reduceBEq, Int.reduceBNe, b_il_within, h, h0]
theorem keeps_a (k : Nat) (n : Int) : acall T (k + 1) 79 0 [.v (.int .i64 n)] [] = some ⟨.v (.bool (n == 3 || n == 4)), [], 0⟩ := by
  rw [acall_go (body := b_il_keeps) rfl rfl (Nat.zero_le _)]
  cases h1 : (n == 3) <;> simp -implicitDefEqProofs only [eqs, eqd, eqe, lh_some, ↓reduceIte, reduceCtorEq, Nat.reduceEqDiff, Nat.reduceAdd, Nat.reduceSub, Nat.reduceMul, Nat.reduceLT, Nat.reduceLeDiff, Nat.reduceBEq, Nat.reduceBNe, Nat.reduceGT, Int.reduceEq, Int.reduceLT, Int.reduceLE, Int.reduceToNat, Int.reduceAdd, Int.reduceSub, Int.reduceMul, Int.reduceNeg, Int.reduceBEq, Int.reduceBNe, b_il_keeps, h1]
end Go.Proofs.Ytcfokbhmchcgbaa.Ver

/- Instructions that may be: package il's answer. Written by a program for this claim. -/
namespace Go.Proofs.Ytcfokbhmchcgbaa.Ver
open Go Go.Proofs.Ytcfokbhmchcgbaa.Sym Go.Proofs.Ytcfokbhmchcgbaa.Tab
set_option linter.unusedVariables false
set_option linter.unusedSimpArgs false
set_option maxHeartbeats 4000000
set_option maxRecDepth 20000
structure Ins where
  op : Int
  k : Int
  ar : Int
  at_ : Int
  n : Int
def Ins.c (i : Ins) : List AV := [.v (.int .i64 i.op), .v (.int .i64 i.k), .v (.int .i64 i.ar), .v (.int .i64 i.at_), .v (.int .i64 i.n)]
def stands (i : Ins) (l : Int) : Bool := decide (0 < ksz i.k) && (decide (l ≤ i.ar) && (decide (i.ar ≤ 4) && (decide (0 ≤ i.at_) && (decide (i.at_ ≤ 64 - ksz i.k) && (i.n == 0)))))
theorem ksz_in (k : Int) : 0 ≤ ksz k ∧ ksz k ≤ 4 := by unfold ksz; split; omega; split; omega; split <;> omega
theorem stands_a (k : Nat) (i : Ins) (l : Int) : acall T (k + 4) 76 0 [.agg i.c, .v (.int .i64 l)] [] = some ⟨.v (.bool (stands i l)), [], 1⟩ := by
  rw [acall_go (body := b_il_stands) rfl rfl (Nat.zero_le _)]
  have h := ksize_a k i.k
  have hk := ksz_in i.k
  have e : IntKind.i64.wrap (64 - ksz i.k) = 64 - ksz i.k := w64 (by omega) (by omega)
  unfold stands
  try simp -implicitDefEqProofs only [eqs, eqd, eqe, lh_some, ↓reduceIte, reduceCtorEq, Nat.reduceEqDiff, Nat.reduceAdd, Nat.reduceSub, Nat.reduceMul, Nat.reduceLT, Nat.reduceLeDiff, Nat.reduceBEq, Nat.reduceBNe, Nat.reduceGT, Int.reduceEq, Int.reduceLT, Int.reduceLE, Int.reduceToNat, Int.reduceAdd, Int.reduceSub, Int.reduceMul, Int.reduceNeg, Int.reduceBEq, Int.reduceBNe, b_il_stands, h, e, Ins.c]
  cases h0 : decide (0 < ksz i.k)
  · simp -implicitDefEqProofs only [eqs, eqd, eqe, lh_some, ↓reduceIte, reduceCtorEq, Nat.reduceEqDiff, Nat.reduceAdd, Nat.reduceSub, Nat.reduceMul, Nat.reduceLT, Nat.reduceLeDiff, Nat.reduceBEq, Nat.reduceBNe, Nat.reduceGT, Int.reduceEq, Int.reduceLT, Int.reduceLE, Int.reduceToNat, Int.reduceAdd, Int.reduceSub, Int.reduceMul, Int.reduceNeg, Int.reduceBEq, Int.reduceBNe, b_il_stands, h, e, Ins.c, h0]
  try simp -implicitDefEqProofs only [eqs, eqd, eqe, lh_some, ↓reduceIte, reduceCtorEq, Nat.reduceEqDiff, Nat.reduceAdd, Nat.reduceSub, Nat.reduceMul, Nat.reduceLT, Nat.reduceLeDiff, Nat.reduceBEq, Nat.reduceBNe, Nat.reduceGT, Int.reduceEq, Int.reduceLT, Int.reduceLE, Int.reduceToNat, Int.reduceAdd, Int.reduceSub, Int.reduceMul, Int.reduceNeg, Int.reduceBEq, Int.reduceBNe, b_il_stands, h, e, Ins.c, h0]
  cases h1 : decide (l ≤ i.ar)
  · simp -implicitDefEqProofs only [eqs, eqd, eqe, lh_some, ↓reduceIte, reduceCtorEq, Nat.reduceEqDiff, Nat.reduceAdd, Nat.reduceSub, Nat.reduceMul, Nat.reduceLT, Nat.reduceLeDiff, Nat.reduceBEq, Nat.reduceBNe, Nat.reduceGT, Int.reduceEq, Int.reduceLT, Int.reduceLE, Int.reduceToNat, Int.reduceAdd, Int.reduceSub, Int.reduceMul, Int.reduceNeg, Int.reduceBEq, Int.reduceBNe, b_il_stands, h, e, Ins.c, h0, h1]
  try simp -implicitDefEqProofs only [eqs, eqd, eqe, lh_some, ↓reduceIte, reduceCtorEq, Nat.reduceEqDiff, Nat.reduceAdd, Nat.reduceSub, Nat.reduceMul, Nat.reduceLT, Nat.reduceLeDiff, Nat.reduceBEq, Nat.reduceBNe, Nat.reduceGT, Int.reduceEq, Int.reduceLT, Int.reduceLE, Int.reduceToNat, Int.reduceAdd, Int.reduceSub, Int.reduceMul, Int.reduceNeg, Int.reduceBEq, Int.reduceBNe, b_il_stands, h, e, Ins.c, h0, h1]
  cases h2 : decide (i.ar ≤ 4)
  · simp -implicitDefEqProofs only [eqs, eqd, eqe, lh_some, ↓reduceIte, reduceCtorEq, Nat.reduceEqDiff, Nat.reduceAdd, Nat.reduceSub, Nat.reduceMul, Nat.reduceLT, Nat.reduceLeDiff, Nat.reduceBEq, Nat.reduceBNe, Nat.reduceGT, Int.reduceEq, Int.reduceLT, Int.reduceLE, Int.reduceToNat, Int.reduceAdd, Int.reduceSub, Int.reduceMul, Int.reduceNeg, Int.reduceBEq, Int.reduceBNe, b_il_stands, h, e, Ins.c, h0, h1, h2]
  try simp -implicitDefEqProofs only [eqs, eqd, eqe, lh_some, ↓reduceIte, reduceCtorEq, Nat.reduceEqDiff, Nat.reduceAdd, Nat.reduceSub, Nat.reduceMul, Nat.reduceLT, Nat.reduceLeDiff, Nat.reduceBEq, Nat.reduceBNe, Nat.reduceGT, Int.reduceEq, Int.reduceLT, Int.reduceLE, Int.reduceToNat, Int.reduceAdd, Int.reduceSub, Int.reduceMul, Int.reduceNeg, Int.reduceBEq, Int.reduceBNe, b_il_stands, h, e, Ins.c, h0, h1, h2]
  cases h3 : decide (0 ≤ i.at_)
  · simp -implicitDefEqProofs only [eqs, eqd, eqe, lh_some, ↓reduceIte, reduceCtorEq, Nat.reduceEqDiff, Nat.reduceAdd, Nat.reduceSub, Nat.reduceMul, Nat.reduceLT, Nat.reduceLeDiff, Nat.reduceBEq, Nat.reduceBNe, Nat.reduceGT, Int.reduceEq, Int.reduceLT, Int.reduceLE, Int.reduceToNat, Int.reduceAdd, Int.reduceSub, Int.reduceMul, Int.reduceNeg, Int.reduceBEq, Int.reduceBNe, b_il_stands, h, e, Ins.c, h0, h1, h2, h3]
  try simp -implicitDefEqProofs only [eqs, eqd, eqe, lh_some, ↓reduceIte, reduceCtorEq, Nat.reduceEqDiff, Nat.reduceAdd, Nat.reduceSub, Nat.reduceMul, Nat.reduceLT, Nat.reduceLeDiff, Nat.reduceBEq, Nat.reduceBNe, Nat.reduceGT, Int.reduceEq, Int.reduceLT, Int.reduceLE, Int.reduceToNat, Int.reduceAdd, Int.reduceSub, Int.reduceMul, Int.reduceNeg, Int.reduceBEq, Int.reduceBNe, b_il_stands, h, e, Ins.c, h0, h1, h2, h3]
  cases h4 : decide (i.at_ ≤ 64 - ksz i.k)
  · simp -implicitDefEqProofs only [eqs, eqd, eqe, lh_some, ↓reduceIte, reduceCtorEq, Nat.reduceEqDiff, Nat.reduceAdd, Nat.reduceSub, Nat.reduceMul, Nat.reduceLT, Nat.reduceLeDiff, Nat.reduceBEq, Nat.reduceBNe, Nat.reduceGT, Int.reduceEq, Int.reduceLT, Int.reduceLE, Int.reduceToNat, Int.reduceAdd, Int.reduceSub, Int.reduceMul, Int.reduceNeg, Int.reduceBEq, Int.reduceBNe, b_il_stands, h, e, Ins.c, h0, h1, h2, h3, h4]
  simp -implicitDefEqProofs only [eqs, eqd, eqe, lh_some, ↓reduceIte, reduceCtorEq, Nat.reduceEqDiff, Nat.reduceAdd, Nat.reduceSub, Nat.reduceMul, Nat.reduceLT, Nat.reduceLeDiff, Nat.reduceBEq, Nat.reduceBNe, Nat.reduceGT, Int.reduceEq, Int.reduceLT, Int.reduceLE, Int.reduceToNat, Int.reduceAdd, Int.reduceSub, Int.reduceMul, Int.reduceNeg, Int.reduceBEq, Int.reduceBNe, b_il_stands, h, e, Ins.c, h0, h1, h2, h3, h4]
/-- May an instruction be? -/
def right (i : Ins) : Bool :=
  if cl i.op = 1 then (if i.ar = 0 then (i.at_ == 0) && isK i.k i.n else stands i 1)
  else if cl i.op = 2 then stands i 2
  else if cl i.op = 3 then (i.ar == 0) && ((i.n == 0) && ((i.k == 0) && (decide (0 ≤ i.at_) && decide (i.at_ ≤ 200))))
  else if cl i.op = 4 then (i.ar == 0) && ((i.n == 0) && ((i.k == 0) && (i.at_ == 0)))
  else if cl i.op = 5 then (i.ar == 0) && ((i.n == 0) && ((i.at_ == 0) && decide (0 < ksz i.k)))
  else if cl i.op = 6 then (i.ar == 0) && ((i.n == 0) && ((i.k == 0) && ((cl i.at_ == 1) && decide (7 ≤ i.at_))))
  else if cl i.op = 7 then (i.k == 0) && ((i.ar == 3 || i.ar == 4) && (decide (0 ≤ i.at_) && (decide (i.at_ ≤ 59) && (decide (1 ≤ i.n) && decide (i.n ≤ 9999)))))
  else if cl i.op = 8 then (i.k == 0) && ((i.ar == 3 || i.ar == 4) && (decide (0 ≤ i.at_) && (decide (i.at_ < 64) && (i.n == 0))))
  else false
theorem right_1 (k : Nat) (i : Ins) (hc : cl i.op = 1) : acall T (k + 5) 60 0 [.agg i.c] [] = some ⟨.v (.bool (right i)), [], 1⟩ := by
  rw [acall_go (body := b_il_Right) rfl rfl (Nat.zero_le _)]
  obtain ⟨s, h⟩ := ilof_a (k + 2) i.op
  rw [hc] at h
  unfold right
  rw [hc]
  simp only [Int.reduceEq, if_true, if_false]
  have hs := stands_a k i 1
  have hi := is_a k i.k i.n
  simp only [Ins.c] at hs
  by_cases c0 : i.ar = 0
  · rw [if_pos c0]
    have c0' : (i.ar == 0) = true := by rw [c0]; rfl
    cases c1 : (i.n == 0) <;> cases c2 : (i.at_ == 0) <;> simp -implicitDefEqProofs only [eqs, eqd, eqe, lh_some, ↓reduceIte, reduceCtorEq, Nat.reduceEqDiff, Nat.reduceAdd, Nat.reduceSub, Nat.reduceMul, Nat.reduceLT, Nat.reduceLeDiff, Nat.reduceBEq, Nat.reduceBNe, Nat.reduceGT, Int.reduceEq, Int.reduceLT, Int.reduceLE, Int.reduceToNat, Int.reduceAdd, Int.reduceSub, Int.reduceMul, Int.reduceNeg, Int.reduceBEq, Int.reduceBNe, b_il_Right, gs_il_Right, h, Ins.c, hi, c0', c1, c2]
  · rw [if_neg c0]
    have c0' : (i.ar == 0) = false := by simpa using c0
    simp -implicitDefEqProofs only [eqs, eqd, eqe, lh_some, ↓reduceIte, reduceCtorEq, Nat.reduceEqDiff, Nat.reduceAdd, Nat.reduceSub, Nat.reduceMul, Nat.reduceLT, Nat.reduceLeDiff, Nat.reduceBEq, Nat.reduceBNe, Nat.reduceGT, Int.reduceEq, Int.reduceLT, Int.reduceLE, Int.reduceToNat, Int.reduceAdd, Int.reduceSub, Int.reduceMul, Int.reduceNeg, Int.reduceBEq, Int.reduceBNe, b_il_Right, gs_il_Right, h, Ins.c, hs, c0']
theorem right_2 (k : Nat) (i : Ins) (hc : cl i.op = 2) : acall T (k + 5) 60 0 [.agg i.c] [] = some ⟨.v (.bool (right i)), [], 1⟩ := by
  rw [acall_go (body := b_il_Right) rfl rfl (Nat.zero_le _)]
  obtain ⟨s, h⟩ := ilof_a (k + 2) i.op
  rw [hc] at h
  unfold right
  rw [hc]
  simp only [Int.reduceEq, if_true, if_false]
  have hs := stands_a k i 2
  simp only [Ins.c] at hs
  cases c0 : (i.ar == 0) <;> cases c1 : (i.n == 0) <;> simp -implicitDefEqProofs only [eqs, eqd, eqe, lh_some, ↓reduceIte, reduceCtorEq, Nat.reduceEqDiff, Nat.reduceAdd, Nat.reduceSub, Nat.reduceMul, Nat.reduceLT, Nat.reduceLeDiff, Nat.reduceBEq, Nat.reduceBNe, Nat.reduceGT, Int.reduceEq, Int.reduceLT, Int.reduceLE, Int.reduceToNat, Int.reduceAdd, Int.reduceSub, Int.reduceMul, Int.reduceNeg, Int.reduceBEq, Int.reduceBNe, b_il_Right, gs_il_Right, h, Ins.c, hs, c0, c1]
theorem right_3 (k : Nat) (i : Ins) (hc : cl i.op = 3) : acall T (k + 5) 60 0 [.agg i.c] [] = some ⟨.v (.bool (right i)), [], 1⟩ := by
  rw [acall_go (body := b_il_Right) rfl rfl (Nat.zero_le _)]
  obtain ⟨s, h⟩ := ilof_a (k + 2) i.op
  rw [hc] at h
  unfold right
  rw [hc]
  simp only [Int.reduceEq, if_true, if_false]
  try simp -implicitDefEqProofs only [eqs, eqd, eqe, lh_some, ↓reduceIte, reduceCtorEq, Nat.reduceEqDiff, Nat.reduceAdd, Nat.reduceSub, Nat.reduceMul, Nat.reduceLT, Nat.reduceLeDiff, Nat.reduceBEq, Nat.reduceBNe, Nat.reduceGT, Int.reduceEq, Int.reduceLT, Int.reduceLE, Int.reduceToNat, Int.reduceAdd, Int.reduceSub, Int.reduceMul, Int.reduceNeg, Int.reduceBEq, Int.reduceBNe, b_il_Right, gs_il_Right, h, Ins.c]
  cases h0 : (i.ar == 0)
  · simp -implicitDefEqProofs only [eqs, eqd, eqe, lh_some, ↓reduceIte, reduceCtorEq, Nat.reduceEqDiff, Nat.reduceAdd, Nat.reduceSub, Nat.reduceMul, Nat.reduceLT, Nat.reduceLeDiff, Nat.reduceBEq, Nat.reduceBNe, Nat.reduceGT, Int.reduceEq, Int.reduceLT, Int.reduceLE, Int.reduceToNat, Int.reduceAdd, Int.reduceSub, Int.reduceMul, Int.reduceNeg, Int.reduceBEq, Int.reduceBNe, b_il_Right, gs_il_Right, h, Ins.c, h0]
  try simp -implicitDefEqProofs only [eqs, eqd, eqe, lh_some, ↓reduceIte, reduceCtorEq, Nat.reduceEqDiff, Nat.reduceAdd, Nat.reduceSub, Nat.reduceMul, Nat.reduceLT, Nat.reduceLeDiff, Nat.reduceBEq, Nat.reduceBNe, Nat.reduceGT, Int.reduceEq, Int.reduceLT, Int.reduceLE, Int.reduceToNat, Int.reduceAdd, Int.reduceSub, Int.reduceMul, Int.reduceNeg, Int.reduceBEq, Int.reduceBNe, b_il_Right, gs_il_Right, h, Ins.c, h0]
  cases h1 : (i.n == 0)
  · simp -implicitDefEqProofs only [eqs, eqd, eqe, lh_some, ↓reduceIte, reduceCtorEq, Nat.reduceEqDiff, Nat.reduceAdd, Nat.reduceSub, Nat.reduceMul, Nat.reduceLT, Nat.reduceLeDiff, Nat.reduceBEq, Nat.reduceBNe, Nat.reduceGT, Int.reduceEq, Int.reduceLT, Int.reduceLE, Int.reduceToNat, Int.reduceAdd, Int.reduceSub, Int.reduceMul, Int.reduceNeg, Int.reduceBEq, Int.reduceBNe, b_il_Right, gs_il_Right, h, Ins.c, h0, h1]
  try simp -implicitDefEqProofs only [eqs, eqd, eqe, lh_some, ↓reduceIte, reduceCtorEq, Nat.reduceEqDiff, Nat.reduceAdd, Nat.reduceSub, Nat.reduceMul, Nat.reduceLT, Nat.reduceLeDiff, Nat.reduceBEq, Nat.reduceBNe, Nat.reduceGT, Int.reduceEq, Int.reduceLT, Int.reduceLE, Int.reduceToNat, Int.reduceAdd, Int.reduceSub, Int.reduceMul, Int.reduceNeg, Int.reduceBEq, Int.reduceBNe, b_il_Right, gs_il_Right, h, Ins.c, h0, h1]
  cases h2 : (i.k == 0)
  · simp -implicitDefEqProofs only [eqs, eqd, eqe, lh_some, ↓reduceIte, reduceCtorEq, Nat.reduceEqDiff, Nat.reduceAdd, Nat.reduceSub, Nat.reduceMul, Nat.reduceLT, Nat.reduceLeDiff, Nat.reduceBEq, Nat.reduceBNe, Nat.reduceGT, Int.reduceEq, Int.reduceLT, Int.reduceLE, Int.reduceToNat, Int.reduceAdd, Int.reduceSub, Int.reduceMul, Int.reduceNeg, Int.reduceBEq, Int.reduceBNe, b_il_Right, gs_il_Right, h, Ins.c, h0, h1, h2]
  try simp -implicitDefEqProofs only [eqs, eqd, eqe, lh_some, ↓reduceIte, reduceCtorEq, Nat.reduceEqDiff, Nat.reduceAdd, Nat.reduceSub, Nat.reduceMul, Nat.reduceLT, Nat.reduceLeDiff, Nat.reduceBEq, Nat.reduceBNe, Nat.reduceGT, Int.reduceEq, Int.reduceLT, Int.reduceLE, Int.reduceToNat, Int.reduceAdd, Int.reduceSub, Int.reduceMul, Int.reduceNeg, Int.reduceBEq, Int.reduceBNe, b_il_Right, gs_il_Right, h, Ins.c, h0, h1, h2]
  cases h3 : decide (0 ≤ i.at_)
  · simp -implicitDefEqProofs only [eqs, eqd, eqe, lh_some, ↓reduceIte, reduceCtorEq, Nat.reduceEqDiff, Nat.reduceAdd, Nat.reduceSub, Nat.reduceMul, Nat.reduceLT, Nat.reduceLeDiff, Nat.reduceBEq, Nat.reduceBNe, Nat.reduceGT, Int.reduceEq, Int.reduceLT, Int.reduceLE, Int.reduceToNat, Int.reduceAdd, Int.reduceSub, Int.reduceMul, Int.reduceNeg, Int.reduceBEq, Int.reduceBNe, b_il_Right, gs_il_Right, h, Ins.c, h0, h1, h2, h3]
  simp -implicitDefEqProofs only [eqs, eqd, eqe, lh_some, ↓reduceIte, reduceCtorEq, Nat.reduceEqDiff, Nat.reduceAdd, Nat.reduceSub, Nat.reduceMul, Nat.reduceLT, Nat.reduceLeDiff, Nat.reduceBEq, Nat.reduceBNe, Nat.reduceGT, Int.reduceEq, Int.reduceLT, Int.reduceLE, Int.reduceToNat, Int.reduceAdd, Int.reduceSub, Int.reduceMul, Int.reduceNeg, Int.reduceBEq, Int.reduceBNe, b_il_Right, gs_il_Right, h, Ins.c, h0, h1, h2, h3]
theorem right_4 (k : Nat) (i : Ins) (hc : cl i.op = 4) : acall T (k + 5) 60 0 [.agg i.c] [] = some ⟨.v (.bool (right i)), [], 1⟩ := by
  rw [acall_go (body := b_il_Right) rfl rfl (Nat.zero_le _)]
  obtain ⟨s, h⟩ := ilof_a (k + 2) i.op
  rw [hc] at h
  unfold right
  rw [hc]
  simp only [Int.reduceEq, if_true, if_false]
  try simp -implicitDefEqProofs only [eqs, eqd, eqe, lh_some, ↓reduceIte, reduceCtorEq, Nat.reduceEqDiff, Nat.reduceAdd, Nat.reduceSub, Nat.reduceMul, Nat.reduceLT, Nat.reduceLeDiff, Nat.reduceBEq, Nat.reduceBNe, Nat.reduceGT, Int.reduceEq, Int.reduceLT, Int.reduceLE, Int.reduceToNat, Int.reduceAdd, Int.reduceSub, Int.reduceMul, Int.reduceNeg, Int.reduceBEq, Int.reduceBNe, b_il_Right, gs_il_Right, h, Ins.c]
  cases h0 : (i.ar == 0)
  · simp -implicitDefEqProofs only [eqs, eqd, eqe, lh_some, ↓reduceIte, reduceCtorEq, Nat.reduceEqDiff, Nat.reduceAdd, Nat.reduceSub, Nat.reduceMul, Nat.reduceLT, Nat.reduceLeDiff, Nat.reduceBEq, Nat.reduceBNe, Nat.reduceGT, Int.reduceEq, Int.reduceLT, Int.reduceLE, Int.reduceToNat, Int.reduceAdd, Int.reduceSub, Int.reduceMul, Int.reduceNeg, Int.reduceBEq, Int.reduceBNe, b_il_Right, gs_il_Right, h, Ins.c, h0]
  try simp -implicitDefEqProofs only [eqs, eqd, eqe, lh_some, ↓reduceIte, reduceCtorEq, Nat.reduceEqDiff, Nat.reduceAdd, Nat.reduceSub, Nat.reduceMul, Nat.reduceLT, Nat.reduceLeDiff, Nat.reduceBEq, Nat.reduceBNe, Nat.reduceGT, Int.reduceEq, Int.reduceLT, Int.reduceLE, Int.reduceToNat, Int.reduceAdd, Int.reduceSub, Int.reduceMul, Int.reduceNeg, Int.reduceBEq, Int.reduceBNe, b_il_Right, gs_il_Right, h, Ins.c, h0]
  cases h1 : (i.n == 0)
  · simp -implicitDefEqProofs only [eqs, eqd, eqe, lh_some, ↓reduceIte, reduceCtorEq, Nat.reduceEqDiff, Nat.reduceAdd, Nat.reduceSub, Nat.reduceMul, Nat.reduceLT, Nat.reduceLeDiff, Nat.reduceBEq, Nat.reduceBNe, Nat.reduceGT, Int.reduceEq, Int.reduceLT, Int.reduceLE, Int.reduceToNat, Int.reduceAdd, Int.reduceSub, Int.reduceMul, Int.reduceNeg, Int.reduceBEq, Int.reduceBNe, b_il_Right, gs_il_Right, h, Ins.c, h0, h1]
  try simp -implicitDefEqProofs only [eqs, eqd, eqe, lh_some, ↓reduceIte, reduceCtorEq, Nat.reduceEqDiff, Nat.reduceAdd, Nat.reduceSub, Nat.reduceMul, Nat.reduceLT, Nat.reduceLeDiff, Nat.reduceBEq, Nat.reduceBNe, Nat.reduceGT, Int.reduceEq, Int.reduceLT, Int.reduceLE, Int.reduceToNat, Int.reduceAdd, Int.reduceSub, Int.reduceMul, Int.reduceNeg, Int.reduceBEq, Int.reduceBNe, b_il_Right, gs_il_Right, h, Ins.c, h0, h1]
  cases h2 : (i.k == 0)
  · simp -implicitDefEqProofs only [eqs, eqd, eqe, lh_some, ↓reduceIte, reduceCtorEq, Nat.reduceEqDiff, Nat.reduceAdd, Nat.reduceSub, Nat.reduceMul, Nat.reduceLT, Nat.reduceLeDiff, Nat.reduceBEq, Nat.reduceBNe, Nat.reduceGT, Int.reduceEq, Int.reduceLT, Int.reduceLE, Int.reduceToNat, Int.reduceAdd, Int.reduceSub, Int.reduceMul, Int.reduceNeg, Int.reduceBEq, Int.reduceBNe, b_il_Right, gs_il_Right, h, Ins.c, h0, h1, h2]
  simp -implicitDefEqProofs only [eqs, eqd, eqe, lh_some, ↓reduceIte, reduceCtorEq, Nat.reduceEqDiff, Nat.reduceAdd, Nat.reduceSub, Nat.reduceMul, Nat.reduceLT, Nat.reduceLeDiff, Nat.reduceBEq, Nat.reduceBNe, Nat.reduceGT, Int.reduceEq, Int.reduceLT, Int.reduceLE, Int.reduceToNat, Int.reduceAdd, Int.reduceSub, Int.reduceMul, Int.reduceNeg, Int.reduceBEq, Int.reduceBNe, b_il_Right, gs_il_Right, h, Ins.c, h0, h1, h2]
theorem right_5 (k : Nat) (i : Ins) (hc : cl i.op = 5) : acall T (k + 5) 60 0 [.agg i.c] [] = some ⟨.v (.bool (right i)), [], 1⟩ := by
  rw [acall_go (body := b_il_Right) rfl rfl (Nat.zero_le _)]
  obtain ⟨s, h⟩ := ilof_a (k + 2) i.op
  rw [hc] at h
  unfold right
  rw [hc]
  simp only [Int.reduceEq, if_true, if_false]
  have hz := ksize_a (k + 1) i.k
  try simp -implicitDefEqProofs only [eqs, eqd, eqe, lh_some, ↓reduceIte, reduceCtorEq, Nat.reduceEqDiff, Nat.reduceAdd, Nat.reduceSub, Nat.reduceMul, Nat.reduceLT, Nat.reduceLeDiff, Nat.reduceBEq, Nat.reduceBNe, Nat.reduceGT, Int.reduceEq, Int.reduceLT, Int.reduceLE, Int.reduceToNat, Int.reduceAdd, Int.reduceSub, Int.reduceMul, Int.reduceNeg, Int.reduceBEq, Int.reduceBNe, b_il_Right, gs_il_Right, h, Ins.c, hz]
  cases h0 : (i.ar == 0)
  · simp -implicitDefEqProofs only [eqs, eqd, eqe, lh_some, ↓reduceIte, reduceCtorEq, Nat.reduceEqDiff, Nat.reduceAdd, Nat.reduceSub, Nat.reduceMul, Nat.reduceLT, Nat.reduceLeDiff, Nat.reduceBEq, Nat.reduceBNe, Nat.reduceGT, Int.reduceEq, Int.reduceLT, Int.reduceLE, Int.reduceToNat, Int.reduceAdd, Int.reduceSub, Int.reduceMul, Int.reduceNeg, Int.reduceBEq, Int.reduceBNe, b_il_Right, gs_il_Right, h, Ins.c, hz, h0]
  try simp -implicitDefEqProofs only [eqs, eqd, eqe, lh_some, ↓reduceIte, reduceCtorEq, Nat.reduceEqDiff, Nat.reduceAdd, Nat.reduceSub, Nat.reduceMul, Nat.reduceLT, Nat.reduceLeDiff, Nat.reduceBEq, Nat.reduceBNe, Nat.reduceGT, Int.reduceEq, Int.reduceLT, Int.reduceLE, Int.reduceToNat, Int.reduceAdd, Int.reduceSub, Int.reduceMul, Int.reduceNeg, Int.reduceBEq, Int.reduceBNe, b_il_Right, gs_il_Right, h, Ins.c, hz, h0]
  cases h1 : (i.n == 0)
  · simp -implicitDefEqProofs only [eqs, eqd, eqe, lh_some, ↓reduceIte, reduceCtorEq, Nat.reduceEqDiff, Nat.reduceAdd, Nat.reduceSub, Nat.reduceMul, Nat.reduceLT, Nat.reduceLeDiff, Nat.reduceBEq, Nat.reduceBNe, Nat.reduceGT, Int.reduceEq, Int.reduceLT, Int.reduceLE, Int.reduceToNat, Int.reduceAdd, Int.reduceSub, Int.reduceMul, Int.reduceNeg, Int.reduceBEq, Int.reduceBNe, b_il_Right, gs_il_Right, h, Ins.c, hz, h0, h1]
  try simp -implicitDefEqProofs only [eqs, eqd, eqe, lh_some, ↓reduceIte, reduceCtorEq, Nat.reduceEqDiff, Nat.reduceAdd, Nat.reduceSub, Nat.reduceMul, Nat.reduceLT, Nat.reduceLeDiff, Nat.reduceBEq, Nat.reduceBNe, Nat.reduceGT, Int.reduceEq, Int.reduceLT, Int.reduceLE, Int.reduceToNat, Int.reduceAdd, Int.reduceSub, Int.reduceMul, Int.reduceNeg, Int.reduceBEq, Int.reduceBNe, b_il_Right, gs_il_Right, h, Ins.c, hz, h0, h1]
  cases h2 : (i.at_ == 0)
  · simp -implicitDefEqProofs only [eqs, eqd, eqe, lh_some, ↓reduceIte, reduceCtorEq, Nat.reduceEqDiff, Nat.reduceAdd, Nat.reduceSub, Nat.reduceMul, Nat.reduceLT, Nat.reduceLeDiff, Nat.reduceBEq, Nat.reduceBNe, Nat.reduceGT, Int.reduceEq, Int.reduceLT, Int.reduceLE, Int.reduceToNat, Int.reduceAdd, Int.reduceSub, Int.reduceMul, Int.reduceNeg, Int.reduceBEq, Int.reduceBNe, b_il_Right, gs_il_Right, h, Ins.c, hz, h0, h1, h2]
  simp -implicitDefEqProofs only [eqs, eqd, eqe, lh_some, ↓reduceIte, reduceCtorEq, Nat.reduceEqDiff, Nat.reduceAdd, Nat.reduceSub, Nat.reduceMul, Nat.reduceLT, Nat.reduceLeDiff, Nat.reduceBEq, Nat.reduceBNe, Nat.reduceGT, Int.reduceEq, Int.reduceLT, Int.reduceLE, Int.reduceToNat, Int.reduceAdd, Int.reduceSub, Int.reduceMul, Int.reduceNeg, Int.reduceBEq, Int.reduceBNe, b_il_Right, gs_il_Right, h, Ins.c, hz, h0, h1, h2]
theorem right_6 (k : Nat) (i : Ins) (hc : cl i.op = 6) : acall T (k + 5) 60 0 [.agg i.c] [] = some ⟨.v (.bool (right i)), [], 1⟩ := by
  rw [acall_go (body := b_il_Right) rfl rfl (Nat.zero_le _)]
  obtain ⟨s, h⟩ := ilof_a (k + 2) i.op
  rw [hc] at h
  unfold right
  rw [hc]
  simp only [Int.reduceEq, if_true, if_false]
  have hz := within_a (k + 1) i.at_
  try simp -implicitDefEqProofs only [eqs, eqd, eqe, lh_some, ↓reduceIte, reduceCtorEq, Nat.reduceEqDiff, Nat.reduceAdd, Nat.reduceSub, Nat.reduceMul, Nat.reduceLT, Nat.reduceLeDiff, Nat.reduceBEq, Nat.reduceBNe, Nat.reduceGT, Int.reduceEq, Int.reduceLT, Int.reduceLE, Int.reduceToNat, Int.reduceAdd, Int.reduceSub, Int.reduceMul, Int.reduceNeg, Int.reduceBEq, Int.reduceBNe, b_il_Right, gs_il_Right, h, Ins.c, hz]
  cases h0 : (i.ar == 0)
  · simp -implicitDefEqProofs only [eqs, eqd, eqe, lh_some, ↓reduceIte, reduceCtorEq, Nat.reduceEqDiff, Nat.reduceAdd, Nat.reduceSub, Nat.reduceMul, Nat.reduceLT, Nat.reduceLeDiff, Nat.reduceBEq, Nat.reduceBNe, Nat.reduceGT, Int.reduceEq, Int.reduceLT, Int.reduceLE, Int.reduceToNat, Int.reduceAdd, Int.reduceSub, Int.reduceMul, Int.reduceNeg, Int.reduceBEq, Int.reduceBNe, b_il_Right, gs_il_Right, h, Ins.c, hz, h0]
  try simp -implicitDefEqProofs only [eqs, eqd, eqe, lh_some, ↓reduceIte, reduceCtorEq, Nat.reduceEqDiff, Nat.reduceAdd, Nat.reduceSub, Nat.reduceMul, Nat.reduceLT, Nat.reduceLeDiff, Nat.reduceBEq, Nat.reduceBNe, Nat.reduceGT, Int.reduceEq, Int.reduceLT, Int.reduceLE, Int.reduceToNat, Int.reduceAdd, Int.reduceSub, Int.reduceMul, Int.reduceNeg, Int.reduceBEq, Int.reduceBNe, b_il_Right, gs_il_Right, h, Ins.c, hz, h0]
  cases h1 : (i.n == 0)
  · simp -implicitDefEqProofs only [eqs, eqd, eqe, lh_some, ↓reduceIte, reduceCtorEq, Nat.reduceEqDiff, Nat.reduceAdd, Nat.reduceSub, Nat.reduceMul, Nat.reduceLT, Nat.reduceLeDiff, Nat.reduceBEq, Nat.reduceBNe, Nat.reduceGT, Int.reduceEq, Int.reduceLT, Int.reduceLE, Int.reduceToNat, Int.reduceAdd, Int.reduceSub, Int.reduceMul, Int.reduceNeg, Int.reduceBEq, Int.reduceBNe, b_il_Right, gs_il_Right, h, Ins.c, hz, h0, h1]
  try simp -implicitDefEqProofs only [eqs, eqd, eqe, lh_some, ↓reduceIte, reduceCtorEq, Nat.reduceEqDiff, Nat.reduceAdd, Nat.reduceSub, Nat.reduceMul, Nat.reduceLT, Nat.reduceLeDiff, Nat.reduceBEq, Nat.reduceBNe, Nat.reduceGT, Int.reduceEq, Int.reduceLT, Int.reduceLE, Int.reduceToNat, Int.reduceAdd, Int.reduceSub, Int.reduceMul, Int.reduceNeg, Int.reduceBEq, Int.reduceBNe, b_il_Right, gs_il_Right, h, Ins.c, hz, h0, h1]
  cases h2 : (i.k == 0)
  · simp -implicitDefEqProofs only [eqs, eqd, eqe, lh_some, ↓reduceIte, reduceCtorEq, Nat.reduceEqDiff, Nat.reduceAdd, Nat.reduceSub, Nat.reduceMul, Nat.reduceLT, Nat.reduceLeDiff, Nat.reduceBEq, Nat.reduceBNe, Nat.reduceGT, Int.reduceEq, Int.reduceLT, Int.reduceLE, Int.reduceToNat, Int.reduceAdd, Int.reduceSub, Int.reduceMul, Int.reduceNeg, Int.reduceBEq, Int.reduceBNe, b_il_Right, gs_il_Right, h, Ins.c, hz, h0, h1, h2]
  simp -implicitDefEqProofs only [eqs, eqd, eqe, lh_some, ↓reduceIte, reduceCtorEq, Nat.reduceEqDiff, Nat.reduceAdd, Nat.reduceSub, Nat.reduceMul, Nat.reduceLT, Nat.reduceLeDiff, Nat.reduceBEq, Nat.reduceBNe, Nat.reduceGT, Int.reduceEq, Int.reduceLT, Int.reduceLE, Int.reduceToNat, Int.reduceAdd, Int.reduceSub, Int.reduceMul, Int.reduceNeg, Int.reduceBEq, Int.reduceBNe, b_il_Right, gs_il_Right, h, Ins.c, hz, h0, h1, h2]
theorem right_7 (k : Nat) (i : Ins) (hc : cl i.op = 7) : acall T (k + 5) 60 0 [.agg i.c] [] = some ⟨.v (.bool (right i)), [], 1⟩ := by
  rw [acall_go (body := b_il_Right) rfl rfl (Nat.zero_le _)]
  obtain ⟨s, h⟩ := ilof_a (k + 2) i.op
  rw [hc] at h
  unfold right
  rw [hc]
  simp only [Int.reduceEq, if_true, if_false]
  have hz := keeps_a (k + 3) i.ar
  generalize (i.ar == 3 || i.ar == 4) = kp at *
  cases p0 : (i.ar == 0) <;> cases p1 : (i.n == 0) <;> (
    try simp -implicitDefEqProofs only [eqs, eqd, eqe, lh_some, ↓reduceIte, reduceCtorEq, Nat.reduceEqDiff, Nat.reduceAdd, Nat.reduceSub, Nat.reduceMul, Nat.reduceLT, Nat.reduceLeDiff, Nat.reduceBEq, Nat.reduceBNe, Nat.reduceGT, Int.reduceEq, Int.reduceLT, Int.reduceLE, Int.reduceToNat, Int.reduceAdd, Int.reduceSub, Int.reduceMul, Int.reduceNeg, Int.reduceBEq, Int.reduceBNe, b_il_Right, gs_il_Right, h, Ins.c, hz, p0, p1]
    cases h0 : (i.k == 0)
    · simp -implicitDefEqProofs only [eqs, eqd, eqe, lh_some, ↓reduceIte, reduceCtorEq, Nat.reduceEqDiff, Nat.reduceAdd, Nat.reduceSub, Nat.reduceMul, Nat.reduceLT, Nat.reduceLeDiff, Nat.reduceBEq, Nat.reduceBNe, Nat.reduceGT, Int.reduceEq, Int.reduceLT, Int.reduceLE, Int.reduceToNat, Int.reduceAdd, Int.reduceSub, Int.reduceMul, Int.reduceNeg, Int.reduceBEq, Int.reduceBNe, b_il_Right, gs_il_Right, h, Ins.c, hz, p0, p1, h0]
    try simp -implicitDefEqProofs only [eqs, eqd, eqe, lh_some, ↓reduceIte, reduceCtorEq, Nat.reduceEqDiff, Nat.reduceAdd, Nat.reduceSub, Nat.reduceMul, Nat.reduceLT, Nat.reduceLeDiff, Nat.reduceBEq, Nat.reduceBNe, Nat.reduceGT, Int.reduceEq, Int.reduceLT, Int.reduceLE, Int.reduceToNat, Int.reduceAdd, Int.reduceSub, Int.reduceMul, Int.reduceNeg, Int.reduceBEq, Int.reduceBNe, b_il_Right, gs_il_Right, h, Ins.c, hz, p0, p1, h0]
    cases kp
    · simp -implicitDefEqProofs only [eqs, eqd, eqe, lh_some, ↓reduceIte, reduceCtorEq, Nat.reduceEqDiff, Nat.reduceAdd, Nat.reduceSub, Nat.reduceMul, Nat.reduceLT, Nat.reduceLeDiff, Nat.reduceBEq, Nat.reduceBNe, Nat.reduceGT, Int.reduceEq, Int.reduceLT, Int.reduceLE, Int.reduceToNat, Int.reduceAdd, Int.reduceSub, Int.reduceMul, Int.reduceNeg, Int.reduceBEq, Int.reduceBNe, b_il_Right, gs_il_Right, h, Ins.c, hz, p0, p1, h0]
    try simp -implicitDefEqProofs only [eqs, eqd, eqe, lh_some, ↓reduceIte, reduceCtorEq, Nat.reduceEqDiff, Nat.reduceAdd, Nat.reduceSub, Nat.reduceMul, Nat.reduceLT, Nat.reduceLeDiff, Nat.reduceBEq, Nat.reduceBNe, Nat.reduceGT, Int.reduceEq, Int.reduceLT, Int.reduceLE, Int.reduceToNat, Int.reduceAdd, Int.reduceSub, Int.reduceMul, Int.reduceNeg, Int.reduceBEq, Int.reduceBNe, b_il_Right, gs_il_Right, h, Ins.c, hz, p0, p1, h0]
    cases h2 : decide (0 ≤ i.at_)
    · simp -implicitDefEqProofs only [eqs, eqd, eqe, lh_some, ↓reduceIte, reduceCtorEq, Nat.reduceEqDiff, Nat.reduceAdd, Nat.reduceSub, Nat.reduceMul, Nat.reduceLT, Nat.reduceLeDiff, Nat.reduceBEq, Nat.reduceBNe, Nat.reduceGT, Int.reduceEq, Int.reduceLT, Int.reduceLE, Int.reduceToNat, Int.reduceAdd, Int.reduceSub, Int.reduceMul, Int.reduceNeg, Int.reduceBEq, Int.reduceBNe, b_il_Right, gs_il_Right, h, Ins.c, hz, p0, p1, h0, h2]
    try simp -implicitDefEqProofs only [eqs, eqd, eqe, lh_some, ↓reduceIte, reduceCtorEq, Nat.reduceEqDiff, Nat.reduceAdd, Nat.reduceSub, Nat.reduceMul, Nat.reduceLT, Nat.reduceLeDiff, Nat.reduceBEq, Nat.reduceBNe, Nat.reduceGT, Int.reduceEq, Int.reduceLT, Int.reduceLE, Int.reduceToNat, Int.reduceAdd, Int.reduceSub, Int.reduceMul, Int.reduceNeg, Int.reduceBEq, Int.reduceBNe, b_il_Right, gs_il_Right, h, Ins.c, hz, p0, p1, h0, h2]
    cases h3 : decide (i.at_ ≤ 59)
    · simp -implicitDefEqProofs only [eqs, eqd, eqe, lh_some, ↓reduceIte, reduceCtorEq, Nat.reduceEqDiff, Nat.reduceAdd, Nat.reduceSub, Nat.reduceMul, Nat.reduceLT, Nat.reduceLeDiff, Nat.reduceBEq, Nat.reduceBNe, Nat.reduceGT, Int.reduceEq, Int.reduceLT, Int.reduceLE, Int.reduceToNat, Int.reduceAdd, Int.reduceSub, Int.reduceMul, Int.reduceNeg, Int.reduceBEq, Int.reduceBNe, b_il_Right, gs_il_Right, h, Ins.c, hz, p0, p1, h0, h2, h3]
    try simp -implicitDefEqProofs only [eqs, eqd, eqe, lh_some, ↓reduceIte, reduceCtorEq, Nat.reduceEqDiff, Nat.reduceAdd, Nat.reduceSub, Nat.reduceMul, Nat.reduceLT, Nat.reduceLeDiff, Nat.reduceBEq, Nat.reduceBNe, Nat.reduceGT, Int.reduceEq, Int.reduceLT, Int.reduceLE, Int.reduceToNat, Int.reduceAdd, Int.reduceSub, Int.reduceMul, Int.reduceNeg, Int.reduceBEq, Int.reduceBNe, b_il_Right, gs_il_Right, h, Ins.c, hz, p0, p1, h0, h2, h3]
    cases h4 : decide (1 ≤ i.n)
    · simp -implicitDefEqProofs only [eqs, eqd, eqe, lh_some, ↓reduceIte, reduceCtorEq, Nat.reduceEqDiff, Nat.reduceAdd, Nat.reduceSub, Nat.reduceMul, Nat.reduceLT, Nat.reduceLeDiff, Nat.reduceBEq, Nat.reduceBNe, Nat.reduceGT, Int.reduceEq, Int.reduceLT, Int.reduceLE, Int.reduceToNat, Int.reduceAdd, Int.reduceSub, Int.reduceMul, Int.reduceNeg, Int.reduceBEq, Int.reduceBNe, b_il_Right, gs_il_Right, h, Ins.c, hz, p0, p1, h0, h2, h3, h4]
    simp -implicitDefEqProofs only [eqs, eqd, eqe, lh_some, ↓reduceIte, reduceCtorEq, Nat.reduceEqDiff, Nat.reduceAdd, Nat.reduceSub, Nat.reduceMul, Nat.reduceLT, Nat.reduceLeDiff, Nat.reduceBEq, Nat.reduceBNe, Nat.reduceGT, Int.reduceEq, Int.reduceLT, Int.reduceLE, Int.reduceToNat, Int.reduceAdd, Int.reduceSub, Int.reduceMul, Int.reduceNeg, Int.reduceBEq, Int.reduceBNe, b_il_Right, gs_il_Right, h, Ins.c, hz, p0, p1, h0, h2, h3, h4])
theorem right_8 (k : Nat) (i : Ins) (hc : cl i.op = 8) : acall T (k + 5) 60 0 [.agg i.c] [] = some ⟨.v (.bool (right i)), [], 1⟩ := by
  rw [acall_go (body := b_il_Right) rfl rfl (Nat.zero_le _)]
  obtain ⟨s, h⟩ := ilof_a (k + 2) i.op
  rw [hc] at h
  unfold right
  rw [hc]
  simp only [Int.reduceEq, if_true, if_false]
  have hz := keeps_a (k + 3) i.ar
  generalize (i.ar == 3 || i.ar == 4) = kp at *
  cases p0 : (i.ar == 0) <;> cases p1 : (i.n == 0) <;> (
    try simp -implicitDefEqProofs only [eqs, eqd, eqe, lh_some, ↓reduceIte, reduceCtorEq, Nat.reduceEqDiff, Nat.reduceAdd, Nat.reduceSub, Nat.reduceMul, Nat.reduceLT, Nat.reduceLeDiff, Nat.reduceBEq, Nat.reduceBNe, Nat.reduceGT, Int.reduceEq, Int.reduceLT, Int.reduceLE, Int.reduceToNat, Int.reduceAdd, Int.reduceSub, Int.reduceMul, Int.reduceNeg, Int.reduceBEq, Int.reduceBNe, b_il_Right, gs_il_Right, h, Ins.c, hz, p0, p1]
    cases h0 : (i.k == 0)
    · simp -implicitDefEqProofs only [eqs, eqd, eqe, lh_some, ↓reduceIte, reduceCtorEq, Nat.reduceEqDiff, Nat.reduceAdd, Nat.reduceSub, Nat.reduceMul, Nat.reduceLT, Nat.reduceLeDiff, Nat.reduceBEq, Nat.reduceBNe, Nat.reduceGT, Int.reduceEq, Int.reduceLT, Int.reduceLE, Int.reduceToNat, Int.reduceAdd, Int.reduceSub, Int.reduceMul, Int.reduceNeg, Int.reduceBEq, Int.reduceBNe, b_il_Right, gs_il_Right, h, Ins.c, hz, p0, p1, h0]
    try simp -implicitDefEqProofs only [eqs, eqd, eqe, lh_some, ↓reduceIte, reduceCtorEq, Nat.reduceEqDiff, Nat.reduceAdd, Nat.reduceSub, Nat.reduceMul, Nat.reduceLT, Nat.reduceLeDiff, Nat.reduceBEq, Nat.reduceBNe, Nat.reduceGT, Int.reduceEq, Int.reduceLT, Int.reduceLE, Int.reduceToNat, Int.reduceAdd, Int.reduceSub, Int.reduceMul, Int.reduceNeg, Int.reduceBEq, Int.reduceBNe, b_il_Right, gs_il_Right, h, Ins.c, hz, p0, p1, h0]
    cases kp
    · simp -implicitDefEqProofs only [eqs, eqd, eqe, lh_some, ↓reduceIte, reduceCtorEq, Nat.reduceEqDiff, Nat.reduceAdd, Nat.reduceSub, Nat.reduceMul, Nat.reduceLT, Nat.reduceLeDiff, Nat.reduceBEq, Nat.reduceBNe, Nat.reduceGT, Int.reduceEq, Int.reduceLT, Int.reduceLE, Int.reduceToNat, Int.reduceAdd, Int.reduceSub, Int.reduceMul, Int.reduceNeg, Int.reduceBEq, Int.reduceBNe, b_il_Right, gs_il_Right, h, Ins.c, hz, p0, p1, h0]
    try simp -implicitDefEqProofs only [eqs, eqd, eqe, lh_some, ↓reduceIte, reduceCtorEq, Nat.reduceEqDiff, Nat.reduceAdd, Nat.reduceSub, Nat.reduceMul, Nat.reduceLT, Nat.reduceLeDiff, Nat.reduceBEq, Nat.reduceBNe, Nat.reduceGT, Int.reduceEq, Int.reduceLT, Int.reduceLE, Int.reduceToNat, Int.reduceAdd, Int.reduceSub, Int.reduceMul, Int.reduceNeg, Int.reduceBEq, Int.reduceBNe, b_il_Right, gs_il_Right, h, Ins.c, hz, p0, p1, h0]
    cases h2 : decide (0 ≤ i.at_)
    · simp -implicitDefEqProofs only [eqs, eqd, eqe, lh_some, ↓reduceIte, reduceCtorEq, Nat.reduceEqDiff, Nat.reduceAdd, Nat.reduceSub, Nat.reduceMul, Nat.reduceLT, Nat.reduceLeDiff, Nat.reduceBEq, Nat.reduceBNe, Nat.reduceGT, Int.reduceEq, Int.reduceLT, Int.reduceLE, Int.reduceToNat, Int.reduceAdd, Int.reduceSub, Int.reduceMul, Int.reduceNeg, Int.reduceBEq, Int.reduceBNe, b_il_Right, gs_il_Right, h, Ins.c, hz, p0, p1, h0, h2]
    try simp -implicitDefEqProofs only [eqs, eqd, eqe, lh_some, ↓reduceIte, reduceCtorEq, Nat.reduceEqDiff, Nat.reduceAdd, Nat.reduceSub, Nat.reduceMul, Nat.reduceLT, Nat.reduceLeDiff, Nat.reduceBEq, Nat.reduceBNe, Nat.reduceGT, Int.reduceEq, Int.reduceLT, Int.reduceLE, Int.reduceToNat, Int.reduceAdd, Int.reduceSub, Int.reduceMul, Int.reduceNeg, Int.reduceBEq, Int.reduceBNe, b_il_Right, gs_il_Right, h, Ins.c, hz, p0, p1, h0, h2]
    cases h3 : decide (i.at_ < 64)
    · simp -implicitDefEqProofs only [eqs, eqd, eqe, lh_some, ↓reduceIte, reduceCtorEq, Nat.reduceEqDiff, Nat.reduceAdd, Nat.reduceSub, Nat.reduceMul, Nat.reduceLT, Nat.reduceLeDiff, Nat.reduceBEq, Nat.reduceBNe, Nat.reduceGT, Int.reduceEq, Int.reduceLT, Int.reduceLE, Int.reduceToNat, Int.reduceAdd, Int.reduceSub, Int.reduceMul, Int.reduceNeg, Int.reduceBEq, Int.reduceBNe, b_il_Right, gs_il_Right, h, Ins.c, hz, p0, p1, h0, h2, h3]
    simp -implicitDefEqProofs only [eqs, eqd, eqe, lh_some, ↓reduceIte, reduceCtorEq, Nat.reduceEqDiff, Nat.reduceAdd, Nat.reduceSub, Nat.reduceMul, Nat.reduceLT, Nat.reduceLeDiff, Nat.reduceBEq, Nat.reduceBNe, Nat.reduceGT, Int.reduceEq, Int.reduceLT, Int.reduceLE, Int.reduceToNat, Int.reduceAdd, Int.reduceSub, Int.reduceMul, Int.reduceNeg, Int.reduceBEq, Int.reduceBNe, b_il_Right, gs_il_Right, h, Ins.c, hz, p0, p1, h0, h2, h3])
theorem right_0 (k : Nat) (i : Ins) (hc : cl i.op = 0) : acall T (k + 5) 60 0 [.agg i.c] [] = some ⟨.v (.bool (right i)), [], 1⟩ := by
  rw [acall_go (body := b_il_Right) rfl rfl (Nat.zero_le _)]
  obtain ⟨s, h⟩ := ilof_a (k + 2) i.op
  rw [hc] at h
  unfold right
  rw [hc]
  simp only [Int.reduceEq, if_true, if_false]
  cases p0 : (i.ar == 0) <;> cases p1 : (i.n == 0) <;> simp -implicitDefEqProofs only [eqs, eqd, eqe, lh_some, ↓reduceIte, reduceCtorEq, Nat.reduceEqDiff, Nat.reduceAdd, Nat.reduceSub, Nat.reduceMul, Nat.reduceLT, Nat.reduceLeDiff, Nat.reduceBEq, Nat.reduceBNe, Nat.reduceGT, Int.reduceEq, Int.reduceLT, Int.reduceLE, Int.reduceToNat, Int.reduceAdd, Int.reduceSub, Int.reduceMul, Int.reduceNeg, Int.reduceBEq, Int.reduceBNe, b_il_Right, gs_il_Right, h, Ins.c, p0, p1]
theorem right_a (k : Nat) (i : Ins) : acall T (k + 5) 60 0 [.agg i.c] [] = some ⟨.v (.bool (right i)), [], 1⟩ := by
  have h : cl i.op = 0 ∨ cl i.op = 1 ∨ cl i.op = 2 ∨ cl i.op = 3 ∨ cl i.op = 4 ∨ cl i.op = 5 ∨ cl i.op = 6 ∨ cl i.op = 7 ∨ cl i.op = 8 := by
    unfold cl
    repeat' split
    all_goals omega
  rcases h with h | h | h | h | h | h | h | h | h
  · exact right_0 k i h
  · exact right_1 k i h
  · exact right_2 k i h
  · exact right_3 k i h
  · exact right_4 k i h
  · exact right_5 k i h
  · exact right_6 k i h
  · exact right_7 k i h
  · exact right_8 k i h
end Go.Proofs.Ytcfokbhmchcgbaa.Ver

/- Instructions that may be: the document's answer. Written by a program for this claim. -/
namespace Go.Proofs.Ytcfokbhmchcgbaa.Ver
open Go Go.Proofs.Ytcfokbhmchcgbaa.Sym Go.Proofs.Ytcfokbhmchcgbaa.Tab
set_option linter.unusedVariables false
set_option linter.unusedSimpArgs false
set_option maxHeartbeats 4000000
set_option maxRecDepth 20000
def rd1 (op : Int) : Bool := op == 1 || (op == 2 || ((decide (7 ≤ op) && decide (op ≤ 12)) || (decide (14 ≤ op) && decide (op ≤ 24))))
theorem reads_a (k : Nat) (op : Int) : acall T (k + 1) 65 0 [.v (.int .i64 op)] [] = some ⟨.v (.bool (rd1 op)), [], 0⟩ := by
  rw [acall_go (body := b_fuglemanref12_reads) rfl rfl (Nat.zero_le _)]
  unfold rd1
  cases h1 : (op == 1)
  case true => simp -implicitDefEqProofs only [eqs, eqd, eqe, lh_some, ↓reduceIte, reduceCtorEq, Nat.reduceEqDiff, Nat.reduceAdd, Nat.reduceSub, Nat.reduceMul, Nat.reduceLT, Nat.reduceLeDiff, Nat.reduceBEq, Nat.reduceBNe, Nat.reduceGT, Int.reduceEq, Int.reduceLT, Int.reduceLE, Int.reduceToNat, Int.reduceAdd, Int.reduceSub, Int.reduceMul, Int.reduceNeg, Int.reduceBEq, Int.reduceBNe, b_fuglemanref12_reads, h1]
  cases h2 : (op == 2)
  case true => simp -implicitDefEqProofs only [eqs, eqd, eqe, lh_some, ↓reduceIte, reduceCtorEq, Nat.reduceEqDiff, Nat.reduceAdd, Nat.reduceSub, Nat.reduceMul, Nat.reduceLT, Nat.reduceLeDiff, Nat.reduceBEq, Nat.reduceBNe, Nat.reduceGT, Int.reduceEq, Int.reduceLT, Int.reduceLE, Int.reduceToNat, Int.reduceAdd, Int.reduceSub, Int.reduceMul, Int.reduceNeg, Int.reduceBEq, Int.reduceBNe, b_fuglemanref12_reads, h1, h2]
  cases h3 : decide (7 ≤ op) <;> cases h4 : decide (op ≤ 12) <;> cases h5 : decide (14 ≤ op) <;> cases h6 : decide (op ≤ 24) <;> simp -implicitDefEqProofs only [eqs, eqd, eqe, lh_some, ↓reduceIte, reduceCtorEq, Nat.reduceEqDiff, Nat.reduceAdd, Nat.reduceSub, Nat.reduceMul, Nat.reduceLT, Nat.reduceLeDiff, Nat.reduceBEq, Nat.reduceBNe, Nat.reduceGT, Int.reduceEq, Int.reduceLT, Int.reduceLE, Int.reduceToNat, Int.reduceAdd, Int.reduceSub, Int.reduceMul, Int.reduceNeg, Int.reduceBEq, Int.reduceBNe, b_fuglemanref12_reads, h1, h2, h3, h4, h5, h6]
theorem rd1_cl (op : Int) : rd1 op = (cl op == 1) := by
  have key : rd1 op = true ↔ cl op = 1 := by
    unfold rd1 cl
    simp only [Bool.or_eq_true, Bool.and_eq_true, beq_iff_eq, decide_eq_true_eq]
    repeat' split
    all_goals omega
  cases h : rd1 op
  · rw [eq_comm, beq_eq_false_iff_ne]; intro e; rw [key.2 e] at h; cases h
  · rw [eq_comm, beq_iff_eq]; exact key.1 h
theorem writes_a (k : Nat) (op : Int) : acall T (k + 1) 67 0 [.v (.int .i64 op)] [] = some ⟨.v (.bool (decide (3 ≤ op) && decide (op ≤ 6))), [], 0⟩ := by
  rw [acall_go (body := b_fuglemanref12_writes) rfl rfl (Nat.zero_le _)]
  try simp -implicitDefEqProofs only [eqs, eqd, eqe, lh_some, ↓reduceIte, reduceCtorEq, Nat.reduceEqDiff, Nat.reduceAdd, Nat.reduceSub, Nat.reduceMul, Nat.reduceLT, Nat.reduceLeDiff, Nat.reduceBEq, Nat.reduceBNe, Nat.reduceGT, Int.reduceEq, Int.reduceLT, Int.reduceLE, Int.reduceToNat, Int.reduceAdd, Int.reduceSub, Int.reduceMul, Int.reduceNeg, Int.reduceBEq, Int.reduceBNe, b_fuglemanref12_writes]
  cases h0 : decide (3 ≤ op)
  · simp -implicitDefEqProofs only [eqs, eqd, eqe, lh_some, ↓reduceIte, reduceCtorEq, Nat.reduceEqDiff, Nat.reduceAdd, Nat.reduceSub, Nat.reduceMul, Nat.reduceLT, Nat.reduceLeDiff, Nat.reduceBEq, Nat.reduceBNe, Nat.reduceGT, Int.reduceEq, Int.reduceLT, Int.reduceLE, Int.reduceToNat, Int.reduceAdd, Int.reduceSub, Int.reduceMul, Int.reduceNeg, Int.reduceBEq, Int.reduceBNe, b_fuglemanref12_writes, h0]
  simp -implicitDefEqProofs only [eqs, eqd, eqe, lh_some, ↓reduceIte, reduceCtorEq, Nat.reduceEqDiff, Nat.reduceAdd, Nat.reduceSub, Nat.reduceMul, Nat.reduceLT, Nat.reduceLeDiff, Nat.reduceBEq, Nat.reduceBNe, Nat.reduceGT, Int.reduceEq, Int.reduceLT, Int.reduceLE, Int.reduceToNat, Int.reduceAdd, Int.reduceSub, Int.reduceMul, Int.reduceNeg, Int.reduceBEq, Int.reduceBNe, b_fuglemanref12_writes, h0]
theorem there_a (k : Nat) (at_ n : Int) (hat : -9223372036854775808 ≤ at_ ∧ at_ ≤ 9223372036854775807) : acall T (k + 3) 68 0 [.v (.int .i64 64), .v (.int .i64 at_), .v (.int .i64 n)] [] = some ⟨.v (.bool (decide (0 < ksz n) && (decide (0 ≤ at_) && decide (at_ ≤ 64 - ksz n)))), [], 1⟩ := by
  rw [acall_go (body := b_fuglemanref11_There) rfl rfl (Nat.zero_le _)]
  have h := rsize_a k n
  have hk := ksz_in n
  by_cases h1 : 0 < ksz n
  · by_cases h2 : 0 ≤ at_
    · have e : IntKind.i64.wrap (64 - at_) = 64 - at_ := w64 (by omega) (by omega)
      by_cases h3 : at_ ≤ 64 - ksz n
      · have h4 : at_ ≤ 64 := by omega
        have h5 : ksz n ≤ 64 - at_ := by omega
        simp -implicitDefEqProofs only [eqs, eqd, eqe, lh_some, ↓reduceIte, reduceCtorEq, Nat.reduceEqDiff, Nat.reduceAdd, Nat.reduceSub, Nat.reduceMul, Nat.reduceLT, Nat.reduceLeDiff, Nat.reduceBEq, Nat.reduceBNe, Nat.reduceGT, Int.reduceEq, Int.reduceLT, Int.reduceLE, Int.reduceToNat, Int.reduceAdd, Int.reduceSub, Int.reduceMul, Int.reduceNeg, Int.reduceBEq, Int.reduceBNe, b_fuglemanref11_There, h, h1, h2, h3, h4, h5, e]
      · by_cases h4 : at_ ≤ 64
        · have h5 : ¬ ksz n ≤ 64 - at_ := by omega
          simp -implicitDefEqProofs only [eqs, eqd, eqe, lh_some, ↓reduceIte, reduceCtorEq, Nat.reduceEqDiff, Nat.reduceAdd, Nat.reduceSub, Nat.reduceMul, Nat.reduceLT, Nat.reduceLeDiff, Nat.reduceBEq, Nat.reduceBNe, Nat.reduceGT, Int.reduceEq, Int.reduceLT, Int.reduceLE, Int.reduceToNat, Int.reduceAdd, Int.reduceSub, Int.reduceMul, Int.reduceNeg, Int.reduceBEq, Int.reduceBNe, b_fuglemanref11_There, h, h1, h2, h3, h4, h5, e]
        · have h5 : ¬ ksz n ≤ 64 - at_ := by omega
          simp -implicitDefEqProofs only [eqs, eqd, eqe, lh_some, ↓reduceIte, reduceCtorEq, Nat.reduceEqDiff, Nat.reduceAdd, Nat.reduceSub, Nat.reduceMul, Nat.reduceLT, Nat.reduceLeDiff, Nat.reduceBEq, Nat.reduceBNe, Nat.reduceGT, Int.reduceEq, Int.reduceLT, Int.reduceLE, Int.reduceToNat, Int.reduceAdd, Int.reduceSub, Int.reduceMul, Int.reduceNeg, Int.reduceBEq, Int.reduceBNe, b_fuglemanref11_There, h, h1, h2, h3, h4, h5, e]
    · have e : IntKind.i64.wrap (64 - at_) = IntKind.i64.wrap (64 - at_) := rfl
      simp -implicitDefEqProofs only [eqs, eqd, eqe, lh_some, ↓reduceIte, reduceCtorEq, Nat.reduceEqDiff, Nat.reduceAdd, Nat.reduceSub, Nat.reduceMul, Nat.reduceLT, Nat.reduceLeDiff, Nat.reduceBEq, Nat.reduceBNe, Nat.reduceGT, Int.reduceEq, Int.reduceLT, Int.reduceLE, Int.reduceToNat, Int.reduceAdd, Int.reduceSub, Int.reduceMul, Int.reduceNeg, Int.reduceBEq, Int.reduceBNe, b_fuglemanref11_There, h, h1, h2]
  · simp -implicitDefEqProofs only [eqs, eqd, eqe, lh_some, ↓reduceIte, reduceCtorEq, Nat.reduceEqDiff, Nat.reduceAdd, Nat.reduceSub, Nat.reduceMul, Nat.reduceLT, Nat.reduceLeDiff, Nat.reduceBEq, Nat.reduceBNe, Nat.reduceGT, Int.reduceEq, Int.reduceLT, Int.reduceLE, Int.reduceToNat, Int.reduceAdd, Int.reduceSub, Int.reduceMul, Int.reduceNeg, Int.reduceBEq, Int.reduceBNe, b_fuglemanref11_There, h, h1]
structure Ins.In (i : Ins) : Prop where
  op : -9223372036854775808 ≤ i.op ∧ i.op ≤ 9223372036854775807
  k : -9223372036854775808 ≤ i.k ∧ i.k ≤ 9223372036854775807
  ar : -9223372036854775808 ≤ i.ar ∧ i.ar ≤ 9223372036854775807
  at_ : -9223372036854775808 ≤ i.at_ ∧ i.at_ ≤ 9223372036854775807
  n : -9223372036854775808 ≤ i.n ∧ i.n ≤ 9223372036854775807
theorem rright_1 (k : Nat) (i : Ins) (hi : i.In) (hcl : cl i.op = 1) : acall T (k + 11) 55 0 [.agg i.c] [] = some ⟨.v (.bool (right i)), [], 1⟩ := by
  rw [acall_go (body := b_fuglemanref12_Right) rfl rfl (Nat.zero_le _)]
  have hr := reads_a (k + 9) i.op
  have hw := writes_a (k + 9) i.op
  have w0 : (decide (3 ≤ i.op) && decide (i.op ≤ 6)) = false := by
    unfold cl at hcl
    by_cases c1 : 3 ≤ i.op <;> by_cases c2 : i.op ≤ 6 <;> simp [c1, c2]
    split at hcl
    · omega
    · split at hcl <;> omega
  rw [w0] at hw
  rw [rd1_cl, hcl, show ((1 : Int) == 1) = true from rfl] at hr
  unfold right stands
  rw [hcl, if_pos rfl]
  by_cases c0 : i.ar = 0
  · have hs := ris_a k i.k i.n
    rw [if_pos c0]
    have c0' : (i.ar == 0) = true := by rw [c0]; rfl
    cases h1 : isK i.k i.n <;> rw [h1] at hs <;> cases h2 : (i.at_ == 0) <;> simp -implicitDefEqProofs only [eqs, eqd, eqe, lh_some, ↓reduceIte, reduceCtorEq, Nat.reduceEqDiff, Nat.reduceAdd, Nat.reduceSub, Nat.reduceMul, Nat.reduceLT, Nat.reduceLeDiff, Nat.reduceBEq, Nat.reduceBNe, Nat.reduceGT, Int.reduceEq, Int.reduceLT, Int.reduceLE, Int.reduceToNat, Int.reduceAdd, Int.reduceSub, Int.reduceMul, Int.reduceNeg, Int.reduceBEq, Int.reduceBNe, b_fuglemanref12_Right, gs_fuglemanref12_Right, hr, hw, Ins.c, hs, c0', h2]
  · have c0' : (i.ar == 0) = false := by simpa using c0
    have hs := there_a (k + 7) i.at_ i.k hi.at_
    rw [if_neg c0]
    cases h1 : decide (0 < ksz i.k) <;> rw [h1] at hs
    case false => simp -implicitDefEqProofs only [eqs, eqd, eqe, lh_some, ↓reduceIte, reduceCtorEq, Nat.reduceEqDiff, Nat.reduceAdd, Nat.reduceSub, Nat.reduceMul, Nat.reduceLT, Nat.reduceLeDiff, Nat.reduceBEq, Nat.reduceBNe, Nat.reduceGT, Int.reduceEq, Int.reduceLT, Int.reduceLE, Int.reduceToNat, Int.reduceAdd, Int.reduceSub, Int.reduceMul, Int.reduceNeg, Int.reduceBEq, Int.reduceBNe, b_fuglemanref12_Right, gs_fuglemanref12_Right, hr, hw, Ins.c, hs, c0']
    cases h2 : decide (0 ≤ i.at_) <;> rw [h2] at hs
    case false => cases h3 : decide (1 ≤ i.ar) <;> cases h4 : decide (i.ar ≤ 4) <;> simp -implicitDefEqProofs only [eqs, eqd, eqe, lh_some, ↓reduceIte, reduceCtorEq, Nat.reduceEqDiff, Nat.reduceAdd, Nat.reduceSub, Nat.reduceMul, Nat.reduceLT, Nat.reduceLeDiff, Nat.reduceBEq, Nat.reduceBNe, Nat.reduceGT, Int.reduceEq, Int.reduceLT, Int.reduceLE, Int.reduceToNat, Int.reduceAdd, Int.reduceSub, Int.reduceMul, Int.reduceNeg, Int.reduceBEq, Int.reduceBNe, b_fuglemanref12_Right, gs_fuglemanref12_Right, hr, hw, Ins.c, hs, c0', h3, h4]
    cases h5 : decide (i.at_ ≤ 64 - ksz i.k) <;> rw [h5] at hs
    case false => cases h3 : decide (1 ≤ i.ar) <;> cases h4 : decide (i.ar ≤ 4) <;> simp -implicitDefEqProofs only [eqs, eqd, eqe, lh_some, ↓reduceIte, reduceCtorEq, Nat.reduceEqDiff, Nat.reduceAdd, Nat.reduceSub, Nat.reduceMul, Nat.reduceLT, Nat.reduceLeDiff, Nat.reduceBEq, Nat.reduceBNe, Nat.reduceGT, Int.reduceEq, Int.reduceLT, Int.reduceLE, Int.reduceToNat, Int.reduceAdd, Int.reduceSub, Int.reduceMul, Int.reduceNeg, Int.reduceBEq, Int.reduceBNe, b_fuglemanref12_Right, gs_fuglemanref12_Right, hr, hw, Ins.c, hs, c0', h3, h4]
    cases h3 : decide (1 ≤ i.ar)
    case false => simp -implicitDefEqProofs only [eqs, eqd, eqe, lh_some, ↓reduceIte, reduceCtorEq, Nat.reduceEqDiff, Nat.reduceAdd, Nat.reduceSub, Nat.reduceMul, Nat.reduceLT, Nat.reduceLeDiff, Nat.reduceBEq, Nat.reduceBNe, Nat.reduceGT, Int.reduceEq, Int.reduceLT, Int.reduceLE, Int.reduceToNat, Int.reduceAdd, Int.reduceSub, Int.reduceMul, Int.reduceNeg, Int.reduceBEq, Int.reduceBNe, b_fuglemanref12_Right, gs_fuglemanref12_Right, hr, hw, Ins.c, hs, c0', h3]
    cases h4 : decide (i.ar ≤ 4) <;> cases h6 : (i.n == 0) <;> simp -implicitDefEqProofs only [eqs, eqd, eqe, lh_some, ↓reduceIte, reduceCtorEq, Nat.reduceEqDiff, Nat.reduceAdd, Nat.reduceSub, Nat.reduceMul, Nat.reduceLT, Nat.reduceLeDiff, Nat.reduceBEq, Nat.reduceBNe, Nat.reduceGT, Int.reduceEq, Int.reduceLT, Int.reduceLE, Int.reduceToNat, Int.reduceAdd, Int.reduceSub, Int.reduceMul, Int.reduceNeg, Int.reduceBEq, Int.reduceBNe, b_fuglemanref12_Right, gs_fuglemanref12_Right, hr, hw, Ins.c, hs, c0', h3, h4, h6]
theorem rright_2 (k : Nat) (i : Ins) (hi : i.In) (hcl : cl i.op = 2) : acall T (k + 11) 55 0 [.agg i.c] [] = some ⟨.v (.bool (right i)), [], 1⟩ := by
  rw [acall_go (body := b_fuglemanref12_Right) rfl rfl (Nat.zero_le _)]
  have hr := reads_a (k + 9) i.op
  have hw := writes_a (k + 9) i.op
  have w0 : (decide (3 ≤ i.op) && decide (i.op ≤ 6)) = true := by
    unfold cl at hcl
    split at hcl
    · omega
    · split at hcl
      · rename_i h
        simp [h.1, h.2]
      · repeat' split at hcl
        all_goals omega
  rw [w0] at hw
  rw [rd1_cl, hcl, show ((2 : Int) == 1) = false from rfl] at hr
  unfold right stands
  rw [hcl, if_neg (by decide), if_pos rfl]
  have hs := there_a (k + 7) i.at_ i.k hi.at_
  cases h1 : decide (0 < ksz i.k) <;> rw [h1] at hs
  case false => simp -implicitDefEqProofs only [eqs, eqd, eqe, lh_some, ↓reduceIte, reduceCtorEq, Nat.reduceEqDiff, Nat.reduceAdd, Nat.reduceSub, Nat.reduceMul, Nat.reduceLT, Nat.reduceLeDiff, Nat.reduceBEq, Nat.reduceBNe, Nat.reduceGT, Int.reduceEq, Int.reduceLT, Int.reduceLE, Int.reduceToNat, Int.reduceAdd, Int.reduceSub, Int.reduceMul, Int.reduceNeg, Int.reduceBEq, Int.reduceBNe, b_fuglemanref12_Right, gs_fuglemanref12_Right, hr, hw, Ins.c, hs]
  by_cases a1 : 2 ≤ i.ar
  · have a2 : 1 ≤ i.ar := by omega
    have a3 : (i.ar == 1) = false := by rw [beq_eq_false_iff_ne]; omega
    cases h2 : decide (0 ≤ i.at_) <;> rw [h2] at hs
    case false => cases h4 : decide (i.ar ≤ 4) <;> simp -implicitDefEqProofs only [eqs, eqd, eqe, lh_some, ↓reduceIte, reduceCtorEq, Nat.reduceEqDiff, Nat.reduceAdd, Nat.reduceSub, Nat.reduceMul, Nat.reduceLT, Nat.reduceLeDiff, Nat.reduceBEq, Nat.reduceBNe, Nat.reduceGT, Int.reduceEq, Int.reduceLT, Int.reduceLE, Int.reduceToNat, Int.reduceAdd, Int.reduceSub, Int.reduceMul, Int.reduceNeg, Int.reduceBEq, Int.reduceBNe, b_fuglemanref12_Right, gs_fuglemanref12_Right, hr, hw, Ins.c, hs, a1, a2, a3, h4]
    cases h5 : decide (i.at_ ≤ 64 - ksz i.k) <;> rw [h5] at hs
    case false => cases h4 : decide (i.ar ≤ 4) <;> simp -implicitDefEqProofs only [eqs, eqd, eqe, lh_some, ↓reduceIte, reduceCtorEq, Nat.reduceEqDiff, Nat.reduceAdd, Nat.reduceSub, Nat.reduceMul, Nat.reduceLT, Nat.reduceLeDiff, Nat.reduceBEq, Nat.reduceBNe, Nat.reduceGT, Int.reduceEq, Int.reduceLT, Int.reduceLE, Int.reduceToNat, Int.reduceAdd, Int.reduceSub, Int.reduceMul, Int.reduceNeg, Int.reduceBEq, Int.reduceBNe, b_fuglemanref12_Right, gs_fuglemanref12_Right, hr, hw, Ins.c, hs, a1, a2, a3, h4]
    cases h4 : decide (i.ar ≤ 4) <;> cases h6 : (i.n == 0) <;> simp -implicitDefEqProofs only [eqs, eqd, eqe, lh_some, ↓reduceIte, reduceCtorEq, Nat.reduceEqDiff, Nat.reduceAdd, Nat.reduceSub, Nat.reduceMul, Nat.reduceLT, Nat.reduceLeDiff, Nat.reduceBEq, Nat.reduceBNe, Nat.reduceGT, Int.reduceEq, Int.reduceLT, Int.reduceLE, Int.reduceToNat, Int.reduceAdd, Int.reduceSub, Int.reduceMul, Int.reduceNeg, Int.reduceBEq, Int.reduceBNe, b_fuglemanref12_Right, gs_fuglemanref12_Right, hr, hw, Ins.c, hs, a1, a2, a3, h4, h6]
  · generalize hq : (decide (0 ≤ i.at_) && decide (i.at_ ≤ 64 - ksz i.k)) = q at hs
    by_cases a2 : 1 ≤ i.ar
    · have a3 : (i.ar == 1) = true := by rw [beq_iff_eq]; omega
      cases q <;> cases h4 : decide (i.ar ≤ 4) <;> simp -implicitDefEqProofs only [eqs, eqd, eqe, lh_some, ↓reduceIte, reduceCtorEq, Nat.reduceEqDiff, Nat.reduceAdd, Nat.reduceSub, Nat.reduceMul, Nat.reduceLT, Nat.reduceLeDiff, Nat.reduceBEq, Nat.reduceBNe, Nat.reduceGT, Int.reduceEq, Int.reduceLT, Int.reduceLE, Int.reduceToNat, Int.reduceAdd, Int.reduceSub, Int.reduceMul, Int.reduceNeg, Int.reduceBEq, Int.reduceBNe, b_fuglemanref12_Right, gs_fuglemanref12_Right, hr, hw, Ins.c, hs, a1, a2, a3, h4]
    · cases q <;> simp -implicitDefEqProofs only [eqs, eqd, eqe, lh_some, ↓reduceIte, reduceCtorEq, Nat.reduceEqDiff, Nat.reduceAdd, Nat.reduceSub, Nat.reduceMul, Nat.reduceLT, Nat.reduceLeDiff, Nat.reduceBEq, Nat.reduceBNe, Nat.reduceGT, Int.reduceEq, Int.reduceLT, Int.reduceLE, Int.reduceToNat, Int.reduceAdd, Int.reduceSub, Int.reduceMul, Int.reduceNeg, Int.reduceBEq, Int.reduceBNe, b_fuglemanref12_Right, gs_fuglemanref12_Right, hr, hw, Ins.c, hs, a1, a2]
theorem rright_3 (k : Nat) (i : Ins) (hi : i.In) (hcl : cl i.op = 3) (ho : 25 ≤ i.op ∧ i.op ≤ 27) : acall T (k + 11) 55 0 [.agg i.c] [] = some ⟨.v (.bool (right i)), [], 1⟩ := by
  rw [acall_go (body := b_fuglemanref12_Right) rfl rfl (Nat.zero_le _)]
  have hr := reads_a (k + 9) i.op
  have hw := writes_a (k + 9) i.op
  have w0 : (decide (3 ≤ i.op) && decide (i.op ≤ 6)) = false := by
    by_cases c1 : 3 ≤ i.op <;> by_cases c2 : i.op ≤ 6 <;> simp [c1, c2]
    omega
  rw [w0] at hw
  rw [rd1_cl, hcl, show ((3 : Int) == 1) = false from rfl] at hr
  unfold right
  rw [hcl]
  simp only [Int.reduceEq, if_true, if_false]
  have o1 : 25 ≤ i.op := by first | omega | (rw [beq_eq_false_iff_ne]; omega) | (rw [beq_iff_eq]; omega)
  have o2 : i.op ≤ 27 := by first | omega | (rw [beq_eq_false_iff_ne]; omega) | (rw [beq_iff_eq]; omega)
  try simp -implicitDefEqProofs only [eqs, eqd, eqe, lh_some, ↓reduceIte, reduceCtorEq, Nat.reduceEqDiff, Nat.reduceAdd, Nat.reduceSub, Nat.reduceMul, Nat.reduceLT, Nat.reduceLeDiff, Nat.reduceBEq, Nat.reduceBNe, Nat.reduceGT, Int.reduceEq, Int.reduceLT, Int.reduceLE, Int.reduceToNat, Int.reduceAdd, Int.reduceSub, Int.reduceMul, Int.reduceNeg, Int.reduceBEq, Int.reduceBNe, b_fuglemanref12_Right, gs_fuglemanref12_Right, hr, hw, Ins.c, o1, o2]
  cases t1 : decide (0 ≤ i.at_)
  · simp -implicitDefEqProofs only [eqs, eqd, eqe, lh_some, ↓reduceIte, reduceCtorEq, Nat.reduceEqDiff, Nat.reduceAdd, Nat.reduceSub, Nat.reduceMul, Nat.reduceLT, Nat.reduceLeDiff, Nat.reduceBEq, Nat.reduceBNe, Nat.reduceGT, Int.reduceEq, Int.reduceLT, Int.reduceLE, Int.reduceToNat, Int.reduceAdd, Int.reduceSub, Int.reduceMul, Int.reduceNeg, Int.reduceBEq, Int.reduceBNe, b_fuglemanref12_Right, gs_fuglemanref12_Right, hr, hw, Ins.c, o1, o2, t1]
  try simp -implicitDefEqProofs only [eqs, eqd, eqe, lh_some, ↓reduceIte, reduceCtorEq, Nat.reduceEqDiff, Nat.reduceAdd, Nat.reduceSub, Nat.reduceMul, Nat.reduceLT, Nat.reduceLeDiff, Nat.reduceBEq, Nat.reduceBNe, Nat.reduceGT, Int.reduceEq, Int.reduceLT, Int.reduceLE, Int.reduceToNat, Int.reduceAdd, Int.reduceSub, Int.reduceMul, Int.reduceNeg, Int.reduceBEq, Int.reduceBNe, b_fuglemanref12_Right, gs_fuglemanref12_Right, hr, hw, Ins.c, o1, o2, t1]
  cases t2 : decide (i.at_ ≤ 200)
  · simp -implicitDefEqProofs only [eqs, eqd, eqe, lh_some, ↓reduceIte, reduceCtorEq, Nat.reduceEqDiff, Nat.reduceAdd, Nat.reduceSub, Nat.reduceMul, Nat.reduceLT, Nat.reduceLeDiff, Nat.reduceBEq, Nat.reduceBNe, Nat.reduceGT, Int.reduceEq, Int.reduceLT, Int.reduceLE, Int.reduceToNat, Int.reduceAdd, Int.reduceSub, Int.reduceMul, Int.reduceNeg, Int.reduceBEq, Int.reduceBNe, b_fuglemanref12_Right, gs_fuglemanref12_Right, hr, hw, Ins.c, o1, o2, t1, t2]
  try simp -implicitDefEqProofs only [eqs, eqd, eqe, lh_some, ↓reduceIte, reduceCtorEq, Nat.reduceEqDiff, Nat.reduceAdd, Nat.reduceSub, Nat.reduceMul, Nat.reduceLT, Nat.reduceLeDiff, Nat.reduceBEq, Nat.reduceBNe, Nat.reduceGT, Int.reduceEq, Int.reduceLT, Int.reduceLE, Int.reduceToNat, Int.reduceAdd, Int.reduceSub, Int.reduceMul, Int.reduceNeg, Int.reduceBEq, Int.reduceBNe, b_fuglemanref12_Right, gs_fuglemanref12_Right, hr, hw, Ins.c, o1, o2, t1, t2]
  cases k0 : (i.k == 0)
  · simp -implicitDefEqProofs only [eqs, eqd, eqe, lh_some, ↓reduceIte, reduceCtorEq, Nat.reduceEqDiff, Nat.reduceAdd, Nat.reduceSub, Nat.reduceMul, Nat.reduceLT, Nat.reduceLeDiff, Nat.reduceBEq, Nat.reduceBNe, Nat.reduceGT, Int.reduceEq, Int.reduceLT, Int.reduceLE, Int.reduceToNat, Int.reduceAdd, Int.reduceSub, Int.reduceMul, Int.reduceNeg, Int.reduceBEq, Int.reduceBNe, b_fuglemanref12_Right, gs_fuglemanref12_Right, hr, hw, Ins.c, o1, o2, t1, t2, k0]
  try simp -implicitDefEqProofs only [eqs, eqd, eqe, lh_some, ↓reduceIte, reduceCtorEq, Nat.reduceEqDiff, Nat.reduceAdd, Nat.reduceSub, Nat.reduceMul, Nat.reduceLT, Nat.reduceLeDiff, Nat.reduceBEq, Nat.reduceBNe, Nat.reduceGT, Int.reduceEq, Int.reduceLT, Int.reduceLE, Int.reduceToNat, Int.reduceAdd, Int.reduceSub, Int.reduceMul, Int.reduceNeg, Int.reduceBEq, Int.reduceBNe, b_fuglemanref12_Right, gs_fuglemanref12_Right, hr, hw, Ins.c, o1, o2, t1, t2, k0]
  cases a0 : (i.ar == 0)
  · simp -implicitDefEqProofs only [eqs, eqd, eqe, lh_some, ↓reduceIte, reduceCtorEq, Nat.reduceEqDiff, Nat.reduceAdd, Nat.reduceSub, Nat.reduceMul, Nat.reduceLT, Nat.reduceLeDiff, Nat.reduceBEq, Nat.reduceBNe, Nat.reduceGT, Int.reduceEq, Int.reduceLT, Int.reduceLE, Int.reduceToNat, Int.reduceAdd, Int.reduceSub, Int.reduceMul, Int.reduceNeg, Int.reduceBEq, Int.reduceBNe, b_fuglemanref12_Right, gs_fuglemanref12_Right, hr, hw, Ins.c, o1, o2, t1, t2, k0, a0]
  try simp -implicitDefEqProofs only [eqs, eqd, eqe, lh_some, ↓reduceIte, reduceCtorEq, Nat.reduceEqDiff, Nat.reduceAdd, Nat.reduceSub, Nat.reduceMul, Nat.reduceLT, Nat.reduceLeDiff, Nat.reduceBEq, Nat.reduceBNe, Nat.reduceGT, Int.reduceEq, Int.reduceLT, Int.reduceLE, Int.reduceToNat, Int.reduceAdd, Int.reduceSub, Int.reduceMul, Int.reduceNeg, Int.reduceBEq, Int.reduceBNe, b_fuglemanref12_Right, gs_fuglemanref12_Right, hr, hw, Ins.c, o1, o2, t1, t2, k0, a0]
  cases n0 : (i.n == 0)
  · simp -implicitDefEqProofs only [eqs, eqd, eqe, lh_some, ↓reduceIte, reduceCtorEq, Nat.reduceEqDiff, Nat.reduceAdd, Nat.reduceSub, Nat.reduceMul, Nat.reduceLT, Nat.reduceLeDiff, Nat.reduceBEq, Nat.reduceBNe, Nat.reduceGT, Int.reduceEq, Int.reduceLT, Int.reduceLE, Int.reduceToNat, Int.reduceAdd, Int.reduceSub, Int.reduceMul, Int.reduceNeg, Int.reduceBEq, Int.reduceBNe, b_fuglemanref12_Right, gs_fuglemanref12_Right, hr, hw, Ins.c, o1, o2, t1, t2, k0, a0, n0]
  simp -implicitDefEqProofs only [eqs, eqd, eqe, lh_some, ↓reduceIte, reduceCtorEq, Nat.reduceEqDiff, Nat.reduceAdd, Nat.reduceSub, Nat.reduceMul, Nat.reduceLT, Nat.reduceLeDiff, Nat.reduceBEq, Nat.reduceBNe, Nat.reduceGT, Int.reduceEq, Int.reduceLT, Int.reduceLE, Int.reduceToNat, Int.reduceAdd, Int.reduceSub, Int.reduceMul, Int.reduceNeg, Int.reduceBEq, Int.reduceBNe, b_fuglemanref12_Right, gs_fuglemanref12_Right, hr, hw, Ins.c, o1, o2, t1, t2, k0, a0, n0]
theorem rright_4a (k : Nat) (i : Ins) (hi : i.In) (hcl : cl i.op = 4) (ho : i.op = 13) : acall T (k + 11) 55 0 [.agg i.c] [] = some ⟨.v (.bool (right i)), [], 1⟩ := by
  rw [acall_go (body := b_fuglemanref12_Right) rfl rfl (Nat.zero_le _)]
  have hr := reads_a (k + 9) i.op
  have hw := writes_a (k + 9) i.op
  have w0 : (decide (3 ≤ i.op) && decide (i.op ≤ 6)) = false := by
    by_cases c1 : 3 ≤ i.op <;> by_cases c2 : i.op ≤ 6 <;> simp [c1, c2]
    omega
  rw [w0] at hw
  rw [rd1_cl, hcl, show ((4 : Int) == 1) = false from rfl] at hr
  unfold right
  rw [hcl]
  simp only [Int.reduceEq, if_true, if_false]
  have o1 : ¬ 25 ≤ i.op := by first | omega | (rw [beq_eq_false_iff_ne]; omega) | (rw [beq_iff_eq]; omega)
  have o3 : (i.op == 13) = true := by first | omega | (rw [beq_eq_false_iff_ne]; omega) | (rw [beq_iff_eq]; omega)
  try simp -implicitDefEqProofs only [eqs, eqd, eqe, lh_some, ↓reduceIte, reduceCtorEq, Nat.reduceEqDiff, Nat.reduceAdd, Nat.reduceSub, Nat.reduceMul, Nat.reduceLT, Nat.reduceLeDiff, Nat.reduceBEq, Nat.reduceBNe, Nat.reduceGT, Int.reduceEq, Int.reduceLT, Int.reduceLE, Int.reduceToNat, Int.reduceAdd, Int.reduceSub, Int.reduceMul, Int.reduceNeg, Int.reduceBEq, Int.reduceBNe, b_fuglemanref12_Right, gs_fuglemanref12_Right, hr, hw, Ins.c, o1, o3]
  cases k0 : (i.k == 0)
  · simp -implicitDefEqProofs only [eqs, eqd, eqe, lh_some, ↓reduceIte, reduceCtorEq, Nat.reduceEqDiff, Nat.reduceAdd, Nat.reduceSub, Nat.reduceMul, Nat.reduceLT, Nat.reduceLeDiff, Nat.reduceBEq, Nat.reduceBNe, Nat.reduceGT, Int.reduceEq, Int.reduceLT, Int.reduceLE, Int.reduceToNat, Int.reduceAdd, Int.reduceSub, Int.reduceMul, Int.reduceNeg, Int.reduceBEq, Int.reduceBNe, b_fuglemanref12_Right, gs_fuglemanref12_Right, hr, hw, Ins.c, o1, o3, k0]
  try simp -implicitDefEqProofs only [eqs, eqd, eqe, lh_some, ↓reduceIte, reduceCtorEq, Nat.reduceEqDiff, Nat.reduceAdd, Nat.reduceSub, Nat.reduceMul, Nat.reduceLT, Nat.reduceLeDiff, Nat.reduceBEq, Nat.reduceBNe, Nat.reduceGT, Int.reduceEq, Int.reduceLT, Int.reduceLE, Int.reduceToNat, Int.reduceAdd, Int.reduceSub, Int.reduceMul, Int.reduceNeg, Int.reduceBEq, Int.reduceBNe, b_fuglemanref12_Right, gs_fuglemanref12_Right, hr, hw, Ins.c, o1, o3, k0]
  cases a0 : (i.ar == 0)
  · simp -implicitDefEqProofs only [eqs, eqd, eqe, lh_some, ↓reduceIte, reduceCtorEq, Nat.reduceEqDiff, Nat.reduceAdd, Nat.reduceSub, Nat.reduceMul, Nat.reduceLT, Nat.reduceLeDiff, Nat.reduceBEq, Nat.reduceBNe, Nat.reduceGT, Int.reduceEq, Int.reduceLT, Int.reduceLE, Int.reduceToNat, Int.reduceAdd, Int.reduceSub, Int.reduceMul, Int.reduceNeg, Int.reduceBEq, Int.reduceBNe, b_fuglemanref12_Right, gs_fuglemanref12_Right, hr, hw, Ins.c, o1, o3, k0, a0]
  try simp -implicitDefEqProofs only [eqs, eqd, eqe, lh_some, ↓reduceIte, reduceCtorEq, Nat.reduceEqDiff, Nat.reduceAdd, Nat.reduceSub, Nat.reduceMul, Nat.reduceLT, Nat.reduceLeDiff, Nat.reduceBEq, Nat.reduceBNe, Nat.reduceGT, Int.reduceEq, Int.reduceLT, Int.reduceLE, Int.reduceToNat, Int.reduceAdd, Int.reduceSub, Int.reduceMul, Int.reduceNeg, Int.reduceBEq, Int.reduceBNe, b_fuglemanref12_Right, gs_fuglemanref12_Right, hr, hw, Ins.c, o1, o3, k0, a0]
  cases n0 : (i.n == 0)
  · simp -implicitDefEqProofs only [eqs, eqd, eqe, lh_some, ↓reduceIte, reduceCtorEq, Nat.reduceEqDiff, Nat.reduceAdd, Nat.reduceSub, Nat.reduceMul, Nat.reduceLT, Nat.reduceLeDiff, Nat.reduceBEq, Nat.reduceBNe, Nat.reduceGT, Int.reduceEq, Int.reduceLT, Int.reduceLE, Int.reduceToNat, Int.reduceAdd, Int.reduceSub, Int.reduceMul, Int.reduceNeg, Int.reduceBEq, Int.reduceBNe, b_fuglemanref12_Right, gs_fuglemanref12_Right, hr, hw, Ins.c, o1, o3, k0, a0, n0]
  try simp -implicitDefEqProofs only [eqs, eqd, eqe, lh_some, ↓reduceIte, reduceCtorEq, Nat.reduceEqDiff, Nat.reduceAdd, Nat.reduceSub, Nat.reduceMul, Nat.reduceLT, Nat.reduceLeDiff, Nat.reduceBEq, Nat.reduceBNe, Nat.reduceGT, Int.reduceEq, Int.reduceLT, Int.reduceLE, Int.reduceToNat, Int.reduceAdd, Int.reduceSub, Int.reduceMul, Int.reduceNeg, Int.reduceBEq, Int.reduceBNe, b_fuglemanref12_Right, gs_fuglemanref12_Right, hr, hw, Ins.c, o1, o3, k0, a0, n0]
  cases t0 : (i.at_ == 0)
  · simp -implicitDefEqProofs only [eqs, eqd, eqe, lh_some, ↓reduceIte, reduceCtorEq, Nat.reduceEqDiff, Nat.reduceAdd, Nat.reduceSub, Nat.reduceMul, Nat.reduceLT, Nat.reduceLeDiff, Nat.reduceBEq, Nat.reduceBNe, Nat.reduceGT, Int.reduceEq, Int.reduceLT, Int.reduceLE, Int.reduceToNat, Int.reduceAdd, Int.reduceSub, Int.reduceMul, Int.reduceNeg, Int.reduceBEq, Int.reduceBNe, b_fuglemanref12_Right, gs_fuglemanref12_Right, hr, hw, Ins.c, o1, o3, k0, a0, n0, t0]
  simp -implicitDefEqProofs only [eqs, eqd, eqe, lh_some, ↓reduceIte, reduceCtorEq, Nat.reduceEqDiff, Nat.reduceAdd, Nat.reduceSub, Nat.reduceMul, Nat.reduceLT, Nat.reduceLeDiff, Nat.reduceBEq, Nat.reduceBNe, Nat.reduceGT, Int.reduceEq, Int.reduceLT, Int.reduceLE, Int.reduceToNat, Int.reduceAdd, Int.reduceSub, Int.reduceMul, Int.reduceNeg, Int.reduceBEq, Int.reduceBNe, b_fuglemanref12_Right, gs_fuglemanref12_Right, hr, hw, Ins.c, o1, o3, k0, a0, n0, t0]
theorem rright_4b (k : Nat) (i : Ins) (hi : i.In) (hcl : cl i.op = 4) (ho : 28 ≤ i.op ∧ i.op ≤ 30) : acall T (k + 11) 55 0 [.agg i.c] [] = some ⟨.v (.bool (right i)), [], 1⟩ := by
  rw [acall_go (body := b_fuglemanref12_Right) rfl rfl (Nat.zero_le _)]
  have hr := reads_a (k + 9) i.op
  have hw := writes_a (k + 9) i.op
  have w0 : (decide (3 ≤ i.op) && decide (i.op ≤ 6)) = false := by
    by_cases c1 : 3 ≤ i.op <;> by_cases c2 : i.op ≤ 6 <;> simp [c1, c2]
    omega
  rw [w0] at hw
  rw [rd1_cl, hcl, show ((4 : Int) == 1) = false from rfl] at hr
  unfold right
  rw [hcl]
  simp only [Int.reduceEq, if_true, if_false]
  have o1 : 25 ≤ i.op := by first | omega | (rw [beq_eq_false_iff_ne]; omega) | (rw [beq_iff_eq]; omega)
  have o2 : ¬ i.op ≤ 27 := by first | omega | (rw [beq_eq_false_iff_ne]; omega) | (rw [beq_iff_eq]; omega)
  have o3 : (i.op == 13) = false := by first | omega | (rw [beq_eq_false_iff_ne]; omega) | (rw [beq_iff_eq]; omega)
  have o4 : 28 ≤ i.op := by first | omega | (rw [beq_eq_false_iff_ne]; omega) | (rw [beq_iff_eq]; omega)
  have o5 : i.op ≤ 30 := by first | omega | (rw [beq_eq_false_iff_ne]; omega) | (rw [beq_iff_eq]; omega)
  try simp -implicitDefEqProofs only [eqs, eqd, eqe, lh_some, ↓reduceIte, reduceCtorEq, Nat.reduceEqDiff, Nat.reduceAdd, Nat.reduceSub, Nat.reduceMul, Nat.reduceLT, Nat.reduceLeDiff, Nat.reduceBEq, Nat.reduceBNe, Nat.reduceGT, Int.reduceEq, Int.reduceLT, Int.reduceLE, Int.reduceToNat, Int.reduceAdd, Int.reduceSub, Int.reduceMul, Int.reduceNeg, Int.reduceBEq, Int.reduceBNe, b_fuglemanref12_Right, gs_fuglemanref12_Right, hr, hw, Ins.c, o1, o2, o3, o4, o5]
  cases k0 : (i.k == 0)
  · simp -implicitDefEqProofs only [eqs, eqd, eqe, lh_some, ↓reduceIte, reduceCtorEq, Nat.reduceEqDiff, Nat.reduceAdd, Nat.reduceSub, Nat.reduceMul, Nat.reduceLT, Nat.reduceLeDiff, Nat.reduceBEq, Nat.reduceBNe, Nat.reduceGT, Int.reduceEq, Int.reduceLT, Int.reduceLE, Int.reduceToNat, Int.reduceAdd, Int.reduceSub, Int.reduceMul, Int.reduceNeg, Int.reduceBEq, Int.reduceBNe, b_fuglemanref12_Right, gs_fuglemanref12_Right, hr, hw, Ins.c, o1, o2, o3, o4, o5, k0]
  try simp -implicitDefEqProofs only [eqs, eqd, eqe, lh_some, ↓reduceIte, reduceCtorEq, Nat.reduceEqDiff, Nat.reduceAdd, Nat.reduceSub, Nat.reduceMul, Nat.reduceLT, Nat.reduceLeDiff, Nat.reduceBEq, Nat.reduceBNe, Nat.reduceGT, Int.reduceEq, Int.reduceLT, Int.reduceLE, Int.reduceToNat, Int.reduceAdd, Int.reduceSub, Int.reduceMul, Int.reduceNeg, Int.reduceBEq, Int.reduceBNe, b_fuglemanref12_Right, gs_fuglemanref12_Right, hr, hw, Ins.c, o1, o2, o3, o4, o5, k0]
  cases a0 : (i.ar == 0)
  · simp -implicitDefEqProofs only [eqs, eqd, eqe, lh_some, ↓reduceIte, reduceCtorEq, Nat.reduceEqDiff, Nat.reduceAdd, Nat.reduceSub, Nat.reduceMul, Nat.reduceLT, Nat.reduceLeDiff, Nat.reduceBEq, Nat.reduceBNe, Nat.reduceGT, Int.reduceEq, Int.reduceLT, Int.reduceLE, Int.reduceToNat, Int.reduceAdd, Int.reduceSub, Int.reduceMul, Int.reduceNeg, Int.reduceBEq, Int.reduceBNe, b_fuglemanref12_Right, gs_fuglemanref12_Right, hr, hw, Ins.c, o1, o2, o3, o4, o5, k0, a0]
  try simp -implicitDefEqProofs only [eqs, eqd, eqe, lh_some, ↓reduceIte, reduceCtorEq, Nat.reduceEqDiff, Nat.reduceAdd, Nat.reduceSub, Nat.reduceMul, Nat.reduceLT, Nat.reduceLeDiff, Nat.reduceBEq, Nat.reduceBNe, Nat.reduceGT, Int.reduceEq, Int.reduceLT, Int.reduceLE, Int.reduceToNat, Int.reduceAdd, Int.reduceSub, Int.reduceMul, Int.reduceNeg, Int.reduceBEq, Int.reduceBNe, b_fuglemanref12_Right, gs_fuglemanref12_Right, hr, hw, Ins.c, o1, o2, o3, o4, o5, k0, a0]
  cases n0 : (i.n == 0)
  · simp -implicitDefEqProofs only [eqs, eqd, eqe, lh_some, ↓reduceIte, reduceCtorEq, Nat.reduceEqDiff, Nat.reduceAdd, Nat.reduceSub, Nat.reduceMul, Nat.reduceLT, Nat.reduceLeDiff, Nat.reduceBEq, Nat.reduceBNe, Nat.reduceGT, Int.reduceEq, Int.reduceLT, Int.reduceLE, Int.reduceToNat, Int.reduceAdd, Int.reduceSub, Int.reduceMul, Int.reduceNeg, Int.reduceBEq, Int.reduceBNe, b_fuglemanref12_Right, gs_fuglemanref12_Right, hr, hw, Ins.c, o1, o2, o3, o4, o5, k0, a0, n0]
  try simp -implicitDefEqProofs only [eqs, eqd, eqe, lh_some, ↓reduceIte, reduceCtorEq, Nat.reduceEqDiff, Nat.reduceAdd, Nat.reduceSub, Nat.reduceMul, Nat.reduceLT, Nat.reduceLeDiff, Nat.reduceBEq, Nat.reduceBNe, Nat.reduceGT, Int.reduceEq, Int.reduceLT, Int.reduceLE, Int.reduceToNat, Int.reduceAdd, Int.reduceSub, Int.reduceMul, Int.reduceNeg, Int.reduceBEq, Int.reduceBNe, b_fuglemanref12_Right, gs_fuglemanref12_Right, hr, hw, Ins.c, o1, o2, o3, o4, o5, k0, a0, n0]
  cases t0 : (i.at_ == 0)
  · simp -implicitDefEqProofs only [eqs, eqd, eqe, lh_some, ↓reduceIte, reduceCtorEq, Nat.reduceEqDiff, Nat.reduceAdd, Nat.reduceSub, Nat.reduceMul, Nat.reduceLT, Nat.reduceLeDiff, Nat.reduceBEq, Nat.reduceBNe, Nat.reduceGT, Int.reduceEq, Int.reduceLT, Int.reduceLE, Int.reduceToNat, Int.reduceAdd, Int.reduceSub, Int.reduceMul, Int.reduceNeg, Int.reduceBEq, Int.reduceBNe, b_fuglemanref12_Right, gs_fuglemanref12_Right, hr, hw, Ins.c, o1, o2, o3, o4, o5, k0, a0, n0, t0]
  simp -implicitDefEqProofs only [eqs, eqd, eqe, lh_some, ↓reduceIte, reduceCtorEq, Nat.reduceEqDiff, Nat.reduceAdd, Nat.reduceSub, Nat.reduceMul, Nat.reduceLT, Nat.reduceLeDiff, Nat.reduceBEq, Nat.reduceBNe, Nat.reduceGT, Int.reduceEq, Int.reduceLT, Int.reduceLE, Int.reduceToNat, Int.reduceAdd, Int.reduceSub, Int.reduceMul, Int.reduceNeg, Int.reduceBEq, Int.reduceBNe, b_fuglemanref12_Right, gs_fuglemanref12_Right, hr, hw, Ins.c, o1, o2, o3, o4, o5, k0, a0, n0, t0]
theorem rright_4c (k : Nat) (i : Ins) (hi : i.In) (hcl : cl i.op = 4) (ho : i.op = 33) : acall T (k + 11) 55 0 [.agg i.c] [] = some ⟨.v (.bool (right i)), [], 1⟩ := by
  rw [acall_go (body := b_fuglemanref12_Right) rfl rfl (Nat.zero_le _)]
  have hr := reads_a (k + 9) i.op
  have hw := writes_a (k + 9) i.op
  have w0 : (decide (3 ≤ i.op) && decide (i.op ≤ 6)) = false := by
    by_cases c1 : 3 ≤ i.op <;> by_cases c2 : i.op ≤ 6 <;> simp [c1, c2]
    omega
  rw [w0] at hw
  rw [rd1_cl, hcl, show ((4 : Int) == 1) = false from rfl] at hr
  unfold right
  rw [hcl]
  simp only [Int.reduceEq, if_true, if_false]
  have o1 : 25 ≤ i.op := by first | omega | (rw [beq_eq_false_iff_ne]; omega) | (rw [beq_iff_eq]; omega)
  have o2 : ¬ i.op ≤ 27 := by first | omega | (rw [beq_eq_false_iff_ne]; omega) | (rw [beq_iff_eq]; omega)
  have o3 : (i.op == 13) = false := by first | omega | (rw [beq_eq_false_iff_ne]; omega) | (rw [beq_iff_eq]; omega)
  have o4 : 28 ≤ i.op := by first | omega | (rw [beq_eq_false_iff_ne]; omega) | (rw [beq_iff_eq]; omega)
  have o5 : ¬ i.op ≤ 30 := by first | omega | (rw [beq_eq_false_iff_ne]; omega) | (rw [beq_iff_eq]; omega)
  have o6 : (i.op == 33) = true := by first | omega | (rw [beq_eq_false_iff_ne]; omega) | (rw [beq_iff_eq]; omega)
  try simp -implicitDefEqProofs only [eqs, eqd, eqe, lh_some, ↓reduceIte, reduceCtorEq, Nat.reduceEqDiff, Nat.reduceAdd, Nat.reduceSub, Nat.reduceMul, Nat.reduceLT, Nat.reduceLeDiff, Nat.reduceBEq, Nat.reduceBNe, Nat.reduceGT, Int.reduceEq, Int.reduceLT, Int.reduceLE, Int.reduceToNat, Int.reduceAdd, Int.reduceSub, Int.reduceMul, Int.reduceNeg, Int.reduceBEq, Int.reduceBNe, b_fuglemanref12_Right, gs_fuglemanref12_Right, hr, hw, Ins.c, o1, o2, o3, o4, o5, o6]
  cases k0 : (i.k == 0)
  · simp -implicitDefEqProofs only [eqs, eqd, eqe, lh_some, ↓reduceIte, reduceCtorEq, Nat.reduceEqDiff, Nat.reduceAdd, Nat.reduceSub, Nat.reduceMul, Nat.reduceLT, Nat.reduceLeDiff, Nat.reduceBEq, Nat.reduceBNe, Nat.reduceGT, Int.reduceEq, Int.reduceLT, Int.reduceLE, Int.reduceToNat, Int.reduceAdd, Int.reduceSub, Int.reduceMul, Int.reduceNeg, Int.reduceBEq, Int.reduceBNe, b_fuglemanref12_Right, gs_fuglemanref12_Right, hr, hw, Ins.c, o1, o2, o3, o4, o5, o6, k0]
  try simp -implicitDefEqProofs only [eqs, eqd, eqe, lh_some, ↓reduceIte, reduceCtorEq, Nat.reduceEqDiff, Nat.reduceAdd, Nat.reduceSub, Nat.reduceMul, Nat.reduceLT, Nat.reduceLeDiff, Nat.reduceBEq, Nat.reduceBNe, Nat.reduceGT, Int.reduceEq, Int.reduceLT, Int.reduceLE, Int.reduceToNat, Int.reduceAdd, Int.reduceSub, Int.reduceMul, Int.reduceNeg, Int.reduceBEq, Int.reduceBNe, b_fuglemanref12_Right, gs_fuglemanref12_Right, hr, hw, Ins.c, o1, o2, o3, o4, o5, o6, k0]
  cases a0 : (i.ar == 0)
  · simp -implicitDefEqProofs only [eqs, eqd, eqe, lh_some, ↓reduceIte, reduceCtorEq, Nat.reduceEqDiff, Nat.reduceAdd, Nat.reduceSub, Nat.reduceMul, Nat.reduceLT, Nat.reduceLeDiff, Nat.reduceBEq, Nat.reduceBNe, Nat.reduceGT, Int.reduceEq, Int.reduceLT, Int.reduceLE, Int.reduceToNat, Int.reduceAdd, Int.reduceSub, Int.reduceMul, Int.reduceNeg, Int.reduceBEq, Int.reduceBNe, b_fuglemanref12_Right, gs_fuglemanref12_Right, hr, hw, Ins.c, o1, o2, o3, o4, o5, o6, k0, a0]
  try simp -implicitDefEqProofs only [eqs, eqd, eqe, lh_some, ↓reduceIte, reduceCtorEq, Nat.reduceEqDiff, Nat.reduceAdd, Nat.reduceSub, Nat.reduceMul, Nat.reduceLT, Nat.reduceLeDiff, Nat.reduceBEq, Nat.reduceBNe, Nat.reduceGT, Int.reduceEq, Int.reduceLT, Int.reduceLE, Int.reduceToNat, Int.reduceAdd, Int.reduceSub, Int.reduceMul, Int.reduceNeg, Int.reduceBEq, Int.reduceBNe, b_fuglemanref12_Right, gs_fuglemanref12_Right, hr, hw, Ins.c, o1, o2, o3, o4, o5, o6, k0, a0]
  cases n0 : (i.n == 0)
  · simp -implicitDefEqProofs only [eqs, eqd, eqe, lh_some, ↓reduceIte, reduceCtorEq, Nat.reduceEqDiff, Nat.reduceAdd, Nat.reduceSub, Nat.reduceMul, Nat.reduceLT, Nat.reduceLeDiff, Nat.reduceBEq, Nat.reduceBNe, Nat.reduceGT, Int.reduceEq, Int.reduceLT, Int.reduceLE, Int.reduceToNat, Int.reduceAdd, Int.reduceSub, Int.reduceMul, Int.reduceNeg, Int.reduceBEq, Int.reduceBNe, b_fuglemanref12_Right, gs_fuglemanref12_Right, hr, hw, Ins.c, o1, o2, o3, o4, o5, o6, k0, a0, n0]
  try simp -implicitDefEqProofs only [eqs, eqd, eqe, lh_some, ↓reduceIte, reduceCtorEq, Nat.reduceEqDiff, Nat.reduceAdd, Nat.reduceSub, Nat.reduceMul, Nat.reduceLT, Nat.reduceLeDiff, Nat.reduceBEq, Nat.reduceBNe, Nat.reduceGT, Int.reduceEq, Int.reduceLT, Int.reduceLE, Int.reduceToNat, Int.reduceAdd, Int.reduceSub, Int.reduceMul, Int.reduceNeg, Int.reduceBEq, Int.reduceBNe, b_fuglemanref12_Right, gs_fuglemanref12_Right, hr, hw, Ins.c, o1, o2, o3, o4, o5, o6, k0, a0, n0]
  cases t0 : (i.at_ == 0)
  · simp -implicitDefEqProofs only [eqs, eqd, eqe, lh_some, ↓reduceIte, reduceCtorEq, Nat.reduceEqDiff, Nat.reduceAdd, Nat.reduceSub, Nat.reduceMul, Nat.reduceLT, Nat.reduceLeDiff, Nat.reduceBEq, Nat.reduceBNe, Nat.reduceGT, Int.reduceEq, Int.reduceLT, Int.reduceLE, Int.reduceToNat, Int.reduceAdd, Int.reduceSub, Int.reduceMul, Int.reduceNeg, Int.reduceBEq, Int.reduceBNe, b_fuglemanref12_Right, gs_fuglemanref12_Right, hr, hw, Ins.c, o1, o2, o3, o4, o5, o6, k0, a0, n0, t0]
  simp -implicitDefEqProofs only [eqs, eqd, eqe, lh_some, ↓reduceIte, reduceCtorEq, Nat.reduceEqDiff, Nat.reduceAdd, Nat.reduceSub, Nat.reduceMul, Nat.reduceLT, Nat.reduceLeDiff, Nat.reduceBEq, Nat.reduceBNe, Nat.reduceGT, Int.reduceEq, Int.reduceLT, Int.reduceLE, Int.reduceToNat, Int.reduceAdd, Int.reduceSub, Int.reduceMul, Int.reduceNeg, Int.reduceBEq, Int.reduceBNe, b_fuglemanref12_Right, gs_fuglemanref12_Right, hr, hw, Ins.c, o1, o2, o3, o4, o5, o6, k0, a0, n0, t0]
theorem rright_5 (k : Nat) (i : Ins) (hi : i.In) (hcl : cl i.op = 5) (ho : i.op = 31) : acall T (k + 11) 55 0 [.agg i.c] [] = some ⟨.v (.bool (right i)), [], 1⟩ := by
  rw [acall_go (body := b_fuglemanref12_Right) rfl rfl (Nat.zero_le _)]
  have hr := reads_a (k + 9) i.op
  have hw := writes_a (k + 9) i.op
  have w0 : (decide (3 ≤ i.op) && decide (i.op ≤ 6)) = false := by
    by_cases c1 : 3 ≤ i.op <;> by_cases c2 : i.op ≤ 6 <;> simp [c1, c2]
    omega
  rw [w0] at hw
  rw [rd1_cl, hcl, show ((5 : Int) == 1) = false from rfl] at hr
  unfold right
  rw [hcl]
  simp only [Int.reduceEq, if_true, if_false]
  have o1 : 25 ≤ i.op := by first | omega | (rw [beq_eq_false_iff_ne]; omega) | (rw [beq_iff_eq]; omega)
  have o2 : ¬ i.op ≤ 27 := by first | omega | (rw [beq_eq_false_iff_ne]; omega) | (rw [beq_iff_eq]; omega)
  have o3 : (i.op == 13) = false := by first | omega | (rw [beq_eq_false_iff_ne]; omega) | (rw [beq_iff_eq]; omega)
  have o4 : 28 ≤ i.op := by first | omega | (rw [beq_eq_false_iff_ne]; omega) | (rw [beq_iff_eq]; omega)
  have o5 : ¬ i.op ≤ 30 := by first | omega | (rw [beq_eq_false_iff_ne]; omega) | (rw [beq_iff_eq]; omega)
  have o6 : (i.op == 33) = false := by first | omega | (rw [beq_eq_false_iff_ne]; omega) | (rw [beq_iff_eq]; omega)
  have o7 : (i.op == 31) = true := by first | omega | (rw [beq_eq_false_iff_ne]; omega) | (rw [beq_iff_eq]; omega)
  have hz := rsize_a (k + 8) i.k
  try simp -implicitDefEqProofs only [eqs, eqd, eqe, lh_some, ↓reduceIte, reduceCtorEq, Nat.reduceEqDiff, Nat.reduceAdd, Nat.reduceSub, Nat.reduceMul, Nat.reduceLT, Nat.reduceLeDiff, Nat.reduceBEq, Nat.reduceBNe, Nat.reduceGT, Int.reduceEq, Int.reduceLT, Int.reduceLE, Int.reduceToNat, Int.reduceAdd, Int.reduceSub, Int.reduceMul, Int.reduceNeg, Int.reduceBEq, Int.reduceBNe, b_fuglemanref12_Right, gs_fuglemanref12_Right, hr, hw, Ins.c, o1, o2, o3, o4, o5, o6, o7, hz]
  cases z0 : decide (0 < ksz i.k)
  · simp -implicitDefEqProofs only [eqs, eqd, eqe, lh_some, ↓reduceIte, reduceCtorEq, Nat.reduceEqDiff, Nat.reduceAdd, Nat.reduceSub, Nat.reduceMul, Nat.reduceLT, Nat.reduceLeDiff, Nat.reduceBEq, Nat.reduceBNe, Nat.reduceGT, Int.reduceEq, Int.reduceLT, Int.reduceLE, Int.reduceToNat, Int.reduceAdd, Int.reduceSub, Int.reduceMul, Int.reduceNeg, Int.reduceBEq, Int.reduceBNe, b_fuglemanref12_Right, gs_fuglemanref12_Right, hr, hw, Ins.c, o1, o2, o3, o4, o5, o6, o7, hz, z0]
  try simp -implicitDefEqProofs only [eqs, eqd, eqe, lh_some, ↓reduceIte, reduceCtorEq, Nat.reduceEqDiff, Nat.reduceAdd, Nat.reduceSub, Nat.reduceMul, Nat.reduceLT, Nat.reduceLeDiff, Nat.reduceBEq, Nat.reduceBNe, Nat.reduceGT, Int.reduceEq, Int.reduceLT, Int.reduceLE, Int.reduceToNat, Int.reduceAdd, Int.reduceSub, Int.reduceMul, Int.reduceNeg, Int.reduceBEq, Int.reduceBNe, b_fuglemanref12_Right, gs_fuglemanref12_Right, hr, hw, Ins.c, o1, o2, o3, o4, o5, o6, o7, hz, z0]
  cases a0 : (i.ar == 0)
  · simp -implicitDefEqProofs only [eqs, eqd, eqe, lh_some, ↓reduceIte, reduceCtorEq, Nat.reduceEqDiff, Nat.reduceAdd, Nat.reduceSub, Nat.reduceMul, Nat.reduceLT, Nat.reduceLeDiff, Nat.reduceBEq, Nat.reduceBNe, Nat.reduceGT, Int.reduceEq, Int.reduceLT, Int.reduceLE, Int.reduceToNat, Int.reduceAdd, Int.reduceSub, Int.reduceMul, Int.reduceNeg, Int.reduceBEq, Int.reduceBNe, b_fuglemanref12_Right, gs_fuglemanref12_Right, hr, hw, Ins.c, o1, o2, o3, o4, o5, o6, o7, hz, z0, a0]
  try simp -implicitDefEqProofs only [eqs, eqd, eqe, lh_some, ↓reduceIte, reduceCtorEq, Nat.reduceEqDiff, Nat.reduceAdd, Nat.reduceSub, Nat.reduceMul, Nat.reduceLT, Nat.reduceLeDiff, Nat.reduceBEq, Nat.reduceBNe, Nat.reduceGT, Int.reduceEq, Int.reduceLT, Int.reduceLE, Int.reduceToNat, Int.reduceAdd, Int.reduceSub, Int.reduceMul, Int.reduceNeg, Int.reduceBEq, Int.reduceBNe, b_fuglemanref12_Right, gs_fuglemanref12_Right, hr, hw, Ins.c, o1, o2, o3, o4, o5, o6, o7, hz, z0, a0]
  cases n0 : (i.n == 0)
  · simp -implicitDefEqProofs only [eqs, eqd, eqe, lh_some, ↓reduceIte, reduceCtorEq, Nat.reduceEqDiff, Nat.reduceAdd, Nat.reduceSub, Nat.reduceMul, Nat.reduceLT, Nat.reduceLeDiff, Nat.reduceBEq, Nat.reduceBNe, Nat.reduceGT, Int.reduceEq, Int.reduceLT, Int.reduceLE, Int.reduceToNat, Int.reduceAdd, Int.reduceSub, Int.reduceMul, Int.reduceNeg, Int.reduceBEq, Int.reduceBNe, b_fuglemanref12_Right, gs_fuglemanref12_Right, hr, hw, Ins.c, o1, o2, o3, o4, o5, o6, o7, hz, z0, a0, n0]
  try simp -implicitDefEqProofs only [eqs, eqd, eqe, lh_some, ↓reduceIte, reduceCtorEq, Nat.reduceEqDiff, Nat.reduceAdd, Nat.reduceSub, Nat.reduceMul, Nat.reduceLT, Nat.reduceLeDiff, Nat.reduceBEq, Nat.reduceBNe, Nat.reduceGT, Int.reduceEq, Int.reduceLT, Int.reduceLE, Int.reduceToNat, Int.reduceAdd, Int.reduceSub, Int.reduceMul, Int.reduceNeg, Int.reduceBEq, Int.reduceBNe, b_fuglemanref12_Right, gs_fuglemanref12_Right, hr, hw, Ins.c, o1, o2, o3, o4, o5, o6, o7, hz, z0, a0, n0]
  cases t0 : (i.at_ == 0)
  · simp -implicitDefEqProofs only [eqs, eqd, eqe, lh_some, ↓reduceIte, reduceCtorEq, Nat.reduceEqDiff, Nat.reduceAdd, Nat.reduceSub, Nat.reduceMul, Nat.reduceLT, Nat.reduceLeDiff, Nat.reduceBEq, Nat.reduceBNe, Nat.reduceGT, Int.reduceEq, Int.reduceLT, Int.reduceLE, Int.reduceToNat, Int.reduceAdd, Int.reduceSub, Int.reduceMul, Int.reduceNeg, Int.reduceBEq, Int.reduceBNe, b_fuglemanref12_Right, gs_fuglemanref12_Right, hr, hw, Ins.c, o1, o2, o3, o4, o5, o6, o7, hz, z0, a0, n0, t0]
  simp -implicitDefEqProofs only [eqs, eqd, eqe, lh_some, ↓reduceIte, reduceCtorEq, Nat.reduceEqDiff, Nat.reduceAdd, Nat.reduceSub, Nat.reduceMul, Nat.reduceLT, Nat.reduceLeDiff, Nat.reduceBEq, Nat.reduceBNe, Nat.reduceGT, Int.reduceEq, Int.reduceLT, Int.reduceLE, Int.reduceToNat, Int.reduceAdd, Int.reduceSub, Int.reduceMul, Int.reduceNeg, Int.reduceBEq, Int.reduceBNe, b_fuglemanref12_Right, gs_fuglemanref12_Right, hr, hw, Ins.c, o1, o2, o3, o4, o5, o6, o7, hz, z0, a0, n0, t0]
theorem rright_6 (k : Nat) (i : Ins) (hi : i.In) (hcl : cl i.op = 6) (ho : i.op = 32) : acall T (k + 11) 55 0 [.agg i.c] [] = some ⟨.v (.bool (right i)), [], 1⟩ := by
  rw [acall_go (body := b_fuglemanref12_Right) rfl rfl (Nat.zero_le _)]
  have hr := reads_a (k + 9) i.op
  have hw := writes_a (k + 9) i.op
  have w0 : (decide (3 ≤ i.op) && decide (i.op ≤ 6)) = false := by
    by_cases c1 : 3 ≤ i.op <;> by_cases c2 : i.op ≤ 6 <;> simp [c1, c2]
    omega
  rw [w0] at hw
  rw [rd1_cl, hcl, show ((6 : Int) == 1) = false from rfl] at hr
  unfold right
  rw [hcl]
  simp only [Int.reduceEq, if_true, if_false]
  have o1 : 25 ≤ i.op := by first | omega | (rw [beq_eq_false_iff_ne]; omega) | (rw [beq_iff_eq]; omega)
  have o2 : ¬ i.op ≤ 27 := by first | omega | (rw [beq_eq_false_iff_ne]; omega) | (rw [beq_iff_eq]; omega)
  have o3 : (i.op == 13) = false := by first | omega | (rw [beq_eq_false_iff_ne]; omega) | (rw [beq_iff_eq]; omega)
  have o4 : 28 ≤ i.op := by first | omega | (rw [beq_eq_false_iff_ne]; omega) | (rw [beq_iff_eq]; omega)
  have o5 : ¬ i.op ≤ 30 := by first | omega | (rw [beq_eq_false_iff_ne]; omega) | (rw [beq_iff_eq]; omega)
  have o6 : (i.op == 33) = false := by first | omega | (rw [beq_eq_false_iff_ne]; omega) | (rw [beq_iff_eq]; omega)
  have o7 : (i.op == 31) = false := by first | omega | (rw [beq_eq_false_iff_ne]; omega) | (rw [beq_iff_eq]; omega)
  have o8 : (i.op == 32) = true := by first | omega | (rw [beq_eq_false_iff_ne]; omega) | (rw [beq_iff_eq]; omega)
  have hz := reads_a (k + 9) i.at_
  rw [rd1_cl] at hz
  have hq : (cl i.at_ == 1 && decide (7 ≤ i.at_)) = (cl i.at_ == 1 && decide (2 < i.at_)) := by
    cases e : (cl i.at_ == 1)
    · rfl
    · have e' : cl i.at_ = 1 := by simpa using e
      rw [Bool.true_and, Bool.true_and, decide_eq_decide]
      unfold cl at e'
      split at e'
      · omega
      · exfalso
        repeat' split at e'
        all_goals omega
  rw [hq]
  try simp -implicitDefEqProofs only [eqs, eqd, eqe, lh_some, ↓reduceIte, reduceCtorEq, Nat.reduceEqDiff, Nat.reduceAdd, Nat.reduceSub, Nat.reduceMul, Nat.reduceLT, Nat.reduceLeDiff, Nat.reduceBEq, Nat.reduceBNe, Nat.reduceGT, Int.reduceEq, Int.reduceLT, Int.reduceLE, Int.reduceToNat, Int.reduceAdd, Int.reduceSub, Int.reduceMul, Int.reduceNeg, Int.reduceBEq, Int.reduceBNe, b_fuglemanref12_Right, gs_fuglemanref12_Right, hr, hw, Ins.c, o1, o2, o3, o4, o5, o6, o7, o8, hz]
  cases r1 : (cl i.at_ == 1)
  · simp -implicitDefEqProofs only [eqs, eqd, eqe, lh_some, ↓reduceIte, reduceCtorEq, Nat.reduceEqDiff, Nat.reduceAdd, Nat.reduceSub, Nat.reduceMul, Nat.reduceLT, Nat.reduceLeDiff, Nat.reduceBEq, Nat.reduceBNe, Nat.reduceGT, Int.reduceEq, Int.reduceLT, Int.reduceLE, Int.reduceToNat, Int.reduceAdd, Int.reduceSub, Int.reduceMul, Int.reduceNeg, Int.reduceBEq, Int.reduceBNe, b_fuglemanref12_Right, gs_fuglemanref12_Right, hr, hw, Ins.c, o1, o2, o3, o4, o5, o6, o7, o8, hz, r1]
  try simp -implicitDefEqProofs only [eqs, eqd, eqe, lh_some, ↓reduceIte, reduceCtorEq, Nat.reduceEqDiff, Nat.reduceAdd, Nat.reduceSub, Nat.reduceMul, Nat.reduceLT, Nat.reduceLeDiff, Nat.reduceBEq, Nat.reduceBNe, Nat.reduceGT, Int.reduceEq, Int.reduceLT, Int.reduceLE, Int.reduceToNat, Int.reduceAdd, Int.reduceSub, Int.reduceMul, Int.reduceNeg, Int.reduceBEq, Int.reduceBNe, b_fuglemanref12_Right, gs_fuglemanref12_Right, hr, hw, Ins.c, o1, o2, o3, o4, o5, o6, o7, o8, hz, r1]
  cases t1 : decide (2 < i.at_)
  · simp -implicitDefEqProofs only [eqs, eqd, eqe, lh_some, ↓reduceIte, reduceCtorEq, Nat.reduceEqDiff, Nat.reduceAdd, Nat.reduceSub, Nat.reduceMul, Nat.reduceLT, Nat.reduceLeDiff, Nat.reduceBEq, Nat.reduceBNe, Nat.reduceGT, Int.reduceEq, Int.reduceLT, Int.reduceLE, Int.reduceToNat, Int.reduceAdd, Int.reduceSub, Int.reduceMul, Int.reduceNeg, Int.reduceBEq, Int.reduceBNe, b_fuglemanref12_Right, gs_fuglemanref12_Right, hr, hw, Ins.c, o1, o2, o3, o4, o5, o6, o7, o8, hz, r1, t1]
  try simp -implicitDefEqProofs only [eqs, eqd, eqe, lh_some, ↓reduceIte, reduceCtorEq, Nat.reduceEqDiff, Nat.reduceAdd, Nat.reduceSub, Nat.reduceMul, Nat.reduceLT, Nat.reduceLeDiff, Nat.reduceBEq, Nat.reduceBNe, Nat.reduceGT, Int.reduceEq, Int.reduceLT, Int.reduceLE, Int.reduceToNat, Int.reduceAdd, Int.reduceSub, Int.reduceMul, Int.reduceNeg, Int.reduceBEq, Int.reduceBNe, b_fuglemanref12_Right, gs_fuglemanref12_Right, hr, hw, Ins.c, o1, o2, o3, o4, o5, o6, o7, o8, hz, r1, t1]
  cases k0 : (i.k == 0)
  · simp -implicitDefEqProofs only [eqs, eqd, eqe, lh_some, ↓reduceIte, reduceCtorEq, Nat.reduceEqDiff, Nat.reduceAdd, Nat.reduceSub, Nat.reduceMul, Nat.reduceLT, Nat.reduceLeDiff, Nat.reduceBEq, Nat.reduceBNe, Nat.reduceGT, Int.reduceEq, Int.reduceLT, Int.reduceLE, Int.reduceToNat, Int.reduceAdd, Int.reduceSub, Int.reduceMul, Int.reduceNeg, Int.reduceBEq, Int.reduceBNe, b_fuglemanref12_Right, gs_fuglemanref12_Right, hr, hw, Ins.c, o1, o2, o3, o4, o5, o6, o7, o8, hz, r1, t1, k0]
  try simp -implicitDefEqProofs only [eqs, eqd, eqe, lh_some, ↓reduceIte, reduceCtorEq, Nat.reduceEqDiff, Nat.reduceAdd, Nat.reduceSub, Nat.reduceMul, Nat.reduceLT, Nat.reduceLeDiff, Nat.reduceBEq, Nat.reduceBNe, Nat.reduceGT, Int.reduceEq, Int.reduceLT, Int.reduceLE, Int.reduceToNat, Int.reduceAdd, Int.reduceSub, Int.reduceMul, Int.reduceNeg, Int.reduceBEq, Int.reduceBNe, b_fuglemanref12_Right, gs_fuglemanref12_Right, hr, hw, Ins.c, o1, o2, o3, o4, o5, o6, o7, o8, hz, r1, t1, k0]
  cases a0 : (i.ar == 0)
  · simp -implicitDefEqProofs only [eqs, eqd, eqe, lh_some, ↓reduceIte, reduceCtorEq, Nat.reduceEqDiff, Nat.reduceAdd, Nat.reduceSub, Nat.reduceMul, Nat.reduceLT, Nat.reduceLeDiff, Nat.reduceBEq, Nat.reduceBNe, Nat.reduceGT, Int.reduceEq, Int.reduceLT, Int.reduceLE, Int.reduceToNat, Int.reduceAdd, Int.reduceSub, Int.reduceMul, Int.reduceNeg, Int.reduceBEq, Int.reduceBNe, b_fuglemanref12_Right, gs_fuglemanref12_Right, hr, hw, Ins.c, o1, o2, o3, o4, o5, o6, o7, o8, hz, r1, t1, k0, a0]
  try simp -implicitDefEqProofs only [eqs, eqd, eqe, lh_some, ↓reduceIte, reduceCtorEq, Nat.reduceEqDiff, Nat.reduceAdd, Nat.reduceSub, Nat.reduceMul, Nat.reduceLT, Nat.reduceLeDiff, Nat.reduceBEq, Nat.reduceBNe, Nat.reduceGT, Int.reduceEq, Int.reduceLT, Int.reduceLE, Int.reduceToNat, Int.reduceAdd, Int.reduceSub, Int.reduceMul, Int.reduceNeg, Int.reduceBEq, Int.reduceBNe, b_fuglemanref12_Right, gs_fuglemanref12_Right, hr, hw, Ins.c, o1, o2, o3, o4, o5, o6, o7, o8, hz, r1, t1, k0, a0]
  cases n0 : (i.n == 0)
  · simp -implicitDefEqProofs only [eqs, eqd, eqe, lh_some, ↓reduceIte, reduceCtorEq, Nat.reduceEqDiff, Nat.reduceAdd, Nat.reduceSub, Nat.reduceMul, Nat.reduceLT, Nat.reduceLeDiff, Nat.reduceBEq, Nat.reduceBNe, Nat.reduceGT, Int.reduceEq, Int.reduceLT, Int.reduceLE, Int.reduceToNat, Int.reduceAdd, Int.reduceSub, Int.reduceMul, Int.reduceNeg, Int.reduceBEq, Int.reduceBNe, b_fuglemanref12_Right, gs_fuglemanref12_Right, hr, hw, Ins.c, o1, o2, o3, o4, o5, o6, o7, o8, hz, r1, t1, k0, a0, n0]
  simp -implicitDefEqProofs only [eqs, eqd, eqe, lh_some, ↓reduceIte, reduceCtorEq, Nat.reduceEqDiff, Nat.reduceAdd, Nat.reduceSub, Nat.reduceMul, Nat.reduceLT, Nat.reduceLeDiff, Nat.reduceBEq, Nat.reduceBNe, Nat.reduceGT, Int.reduceEq, Int.reduceLT, Int.reduceLE, Int.reduceToNat, Int.reduceAdd, Int.reduceSub, Int.reduceMul, Int.reduceNeg, Int.reduceBEq, Int.reduceBNe, b_fuglemanref12_Right, gs_fuglemanref12_Right, hr, hw, Ins.c, o1, o2, o3, o4, o5, o6, o7, o8, hz, r1, t1, k0, a0, n0]
theorem rright_8x (k : Nat) (i : Ins) (hi : i.In) (hcl : cl i.op = 8) (ho : i.op = 36) (p3 : (i.ar == 3) = true) : acall T (k + 11) 55 0 [.agg i.c] [] = some ⟨.v (.bool (right i)), [], 1⟩ := by
  rw [acall_go (body := b_fuglemanref12_Right) rfl rfl (Nat.zero_le _)]
  have hr := reads_a (k + 9) i.op
  have hw := writes_a (k + 9) i.op
  have w0 : (decide (3 ≤ i.op) && decide (i.op ≤ 6)) = false := by
    by_cases c1 : 3 ≤ i.op <;> by_cases c2 : i.op ≤ 6 <;> simp [c1, c2]
    omega
  rw [w0] at hw
  rw [rd1_cl, hcl, show ((8 : Int) == 1) = false from rfl] at hr
  unfold right
  rw [hcl]
  simp only [Int.reduceEq, if_true, if_false]
  have o1 : 25 ≤ i.op := by first | omega | (rw [beq_eq_false_iff_ne]; omega) | (rw [beq_iff_eq]; omega)
  have o2 : ¬ i.op ≤ 27 := by first | omega | (rw [beq_eq_false_iff_ne]; omega) | (rw [beq_iff_eq]; omega)
  have o3 : (i.op == 13) = false := by first | omega | (rw [beq_eq_false_iff_ne]; omega) | (rw [beq_iff_eq]; omega)
  have o4 : 28 ≤ i.op := by first | omega | (rw [beq_eq_false_iff_ne]; omega) | (rw [beq_iff_eq]; omega)
  have o5 : ¬ i.op ≤ 30 := by first | omega | (rw [beq_eq_false_iff_ne]; omega) | (rw [beq_iff_eq]; omega)
  have o6 : (i.op == 33) = false := by first | omega | (rw [beq_eq_false_iff_ne]; omega) | (rw [beq_iff_eq]; omega)
  have o7 : (i.op == 31) = false := by first | omega | (rw [beq_eq_false_iff_ne]; omega) | (rw [beq_iff_eq]; omega)
  have o8 : (i.op == 32) = false := by first | omega | (rw [beq_eq_false_iff_ne]; omega) | (rw [beq_iff_eq]; omega)
  have o9 : (i.op == 34) = false := by first | omega | (rw [beq_eq_false_iff_ne]; omega) | (rw [beq_iff_eq]; omega)
  have oa : (i.op == 35) = false := by first | omega | (rw [beq_eq_false_iff_ne]; omega) | (rw [beq_iff_eq]; omega)
  have ob : (i.op == 36) = true := by first | omega | (rw [beq_eq_false_iff_ne]; omega) | (rw [beq_iff_eq]; omega)
  have hlt : decide (i.at_ < 64) = decide (i.at_ ≤ 63) := by rw [decide_eq_decide]; omega
  rw [hlt]
  try simp -implicitDefEqProofs only [eqs, eqd, eqe, lh_some, ↓reduceIte, reduceCtorEq, Nat.reduceEqDiff, Nat.reduceAdd, Nat.reduceSub, Nat.reduceMul, Nat.reduceLT, Nat.reduceLeDiff, Nat.reduceBEq, Nat.reduceBNe, Nat.reduceGT, Int.reduceEq, Int.reduceLT, Int.reduceLE, Int.reduceToNat, Int.reduceAdd, Int.reduceSub, Int.reduceMul, Int.reduceNeg, Int.reduceBEq, Int.reduceBNe, b_fuglemanref12_Right, gs_fuglemanref12_Right, hr, hw, Ins.c, o1, o2, o3, o4, o5, o6, o7, o8, o9, oa, ob, p3]
  cases t1 : decide (0 ≤ i.at_)
  · simp -implicitDefEqProofs only [eqs, eqd, eqe, lh_some, ↓reduceIte, reduceCtorEq, Nat.reduceEqDiff, Nat.reduceAdd, Nat.reduceSub, Nat.reduceMul, Nat.reduceLT, Nat.reduceLeDiff, Nat.reduceBEq, Nat.reduceBNe, Nat.reduceGT, Int.reduceEq, Int.reduceLT, Int.reduceLE, Int.reduceToNat, Int.reduceAdd, Int.reduceSub, Int.reduceMul, Int.reduceNeg, Int.reduceBEq, Int.reduceBNe, b_fuglemanref12_Right, gs_fuglemanref12_Right, hr, hw, Ins.c, o1, o2, o3, o4, o5, o6, o7, o8, o9, oa, ob, p3, t1]
  try simp -implicitDefEqProofs only [eqs, eqd, eqe, lh_some, ↓reduceIte, reduceCtorEq, Nat.reduceEqDiff, Nat.reduceAdd, Nat.reduceSub, Nat.reduceMul, Nat.reduceLT, Nat.reduceLeDiff, Nat.reduceBEq, Nat.reduceBNe, Nat.reduceGT, Int.reduceEq, Int.reduceLT, Int.reduceLE, Int.reduceToNat, Int.reduceAdd, Int.reduceSub, Int.reduceMul, Int.reduceNeg, Int.reduceBEq, Int.reduceBNe, b_fuglemanref12_Right, gs_fuglemanref12_Right, hr, hw, Ins.c, o1, o2, o3, o4, o5, o6, o7, o8, o9, oa, ob, p3, t1]
  cases t2 : decide (i.at_ ≤ 63)
  · simp -implicitDefEqProofs only [eqs, eqd, eqe, lh_some, ↓reduceIte, reduceCtorEq, Nat.reduceEqDiff, Nat.reduceAdd, Nat.reduceSub, Nat.reduceMul, Nat.reduceLT, Nat.reduceLeDiff, Nat.reduceBEq, Nat.reduceBNe, Nat.reduceGT, Int.reduceEq, Int.reduceLT, Int.reduceLE, Int.reduceToNat, Int.reduceAdd, Int.reduceSub, Int.reduceMul, Int.reduceNeg, Int.reduceBEq, Int.reduceBNe, b_fuglemanref12_Right, gs_fuglemanref12_Right, hr, hw, Ins.c, o1, o2, o3, o4, o5, o6, o7, o8, o9, oa, ob, p3, t1, t2]
  try simp -implicitDefEqProofs only [eqs, eqd, eqe, lh_some, ↓reduceIte, reduceCtorEq, Nat.reduceEqDiff, Nat.reduceAdd, Nat.reduceSub, Nat.reduceMul, Nat.reduceLT, Nat.reduceLeDiff, Nat.reduceBEq, Nat.reduceBNe, Nat.reduceGT, Int.reduceEq, Int.reduceLT, Int.reduceLE, Int.reduceToNat, Int.reduceAdd, Int.reduceSub, Int.reduceMul, Int.reduceNeg, Int.reduceBEq, Int.reduceBNe, b_fuglemanref12_Right, gs_fuglemanref12_Right, hr, hw, Ins.c, o1, o2, o3, o4, o5, o6, o7, o8, o9, oa, ob, p3, t1, t2]
  cases k0 : (i.k == 0)
  · simp -implicitDefEqProofs only [eqs, eqd, eqe, lh_some, ↓reduceIte, reduceCtorEq, Nat.reduceEqDiff, Nat.reduceAdd, Nat.reduceSub, Nat.reduceMul, Nat.reduceLT, Nat.reduceLeDiff, Nat.reduceBEq, Nat.reduceBNe, Nat.reduceGT, Int.reduceEq, Int.reduceLT, Int.reduceLE, Int.reduceToNat, Int.reduceAdd, Int.reduceSub, Int.reduceMul, Int.reduceNeg, Int.reduceBEq, Int.reduceBNe, b_fuglemanref12_Right, gs_fuglemanref12_Right, hr, hw, Ins.c, o1, o2, o3, o4, o5, o6, o7, o8, o9, oa, ob, p3, t1, t2, k0]
  try simp -implicitDefEqProofs only [eqs, eqd, eqe, lh_some, ↓reduceIte, reduceCtorEq, Nat.reduceEqDiff, Nat.reduceAdd, Nat.reduceSub, Nat.reduceMul, Nat.reduceLT, Nat.reduceLeDiff, Nat.reduceBEq, Nat.reduceBNe, Nat.reduceGT, Int.reduceEq, Int.reduceLT, Int.reduceLE, Int.reduceToNat, Int.reduceAdd, Int.reduceSub, Int.reduceMul, Int.reduceNeg, Int.reduceBEq, Int.reduceBNe, b_fuglemanref12_Right, gs_fuglemanref12_Right, hr, hw, Ins.c, o1, o2, o3, o4, o5, o6, o7, o8, o9, oa, ob, p3, t1, t2, k0]
  cases n0 : (i.n == 0)
  · simp -implicitDefEqProofs only [eqs, eqd, eqe, lh_some, ↓reduceIte, reduceCtorEq, Nat.reduceEqDiff, Nat.reduceAdd, Nat.reduceSub, Nat.reduceMul, Nat.reduceLT, Nat.reduceLeDiff, Nat.reduceBEq, Nat.reduceBNe, Nat.reduceGT, Int.reduceEq, Int.reduceLT, Int.reduceLE, Int.reduceToNat, Int.reduceAdd, Int.reduceSub, Int.reduceMul, Int.reduceNeg, Int.reduceBEq, Int.reduceBNe, b_fuglemanref12_Right, gs_fuglemanref12_Right, hr, hw, Ins.c, o1, o2, o3, o4, o5, o6, o7, o8, o9, oa, ob, p3, t1, t2, k0, n0]
  simp -implicitDefEqProofs only [eqs, eqd, eqe, lh_some, ↓reduceIte, reduceCtorEq, Nat.reduceEqDiff, Nat.reduceAdd, Nat.reduceSub, Nat.reduceMul, Nat.reduceLT, Nat.reduceLeDiff, Nat.reduceBEq, Nat.reduceBNe, Nat.reduceGT, Int.reduceEq, Int.reduceLT, Int.reduceLE, Int.reduceToNat, Int.reduceAdd, Int.reduceSub, Int.reduceMul, Int.reduceNeg, Int.reduceBEq, Int.reduceBNe, b_fuglemanref12_Right, gs_fuglemanref12_Right, hr, hw, Ins.c, o1, o2, o3, o4, o5, o6, o7, o8, o9, oa, ob, p3, t1, t2, k0, n0]
theorem rright_8y (k : Nat) (i : Ins) (hi : i.In) (hcl : cl i.op = 8) (ho : i.op = 36) (p3 : (i.ar == 3) = false) (p4 : (i.ar == 4) = true) : acall T (k + 11) 55 0 [.agg i.c] [] = some ⟨.v (.bool (right i)), [], 1⟩ := by
  rw [acall_go (body := b_fuglemanref12_Right) rfl rfl (Nat.zero_le _)]
  have hr := reads_a (k + 9) i.op
  have hw := writes_a (k + 9) i.op
  have w0 : (decide (3 ≤ i.op) && decide (i.op ≤ 6)) = false := by
    by_cases c1 : 3 ≤ i.op <;> by_cases c2 : i.op ≤ 6 <;> simp [c1, c2]
    omega
  rw [w0] at hw
  rw [rd1_cl, hcl, show ((8 : Int) == 1) = false from rfl] at hr
  unfold right
  rw [hcl]
  simp only [Int.reduceEq, if_true, if_false]
  have o1 : 25 ≤ i.op := by first | omega | (rw [beq_eq_false_iff_ne]; omega) | (rw [beq_iff_eq]; omega)
  have o2 : ¬ i.op ≤ 27 := by first | omega | (rw [beq_eq_false_iff_ne]; omega) | (rw [beq_iff_eq]; omega)
  have o3 : (i.op == 13) = false := by first | omega | (rw [beq_eq_false_iff_ne]; omega) | (rw [beq_iff_eq]; omega)
  have o4 : 28 ≤ i.op := by first | omega | (rw [beq_eq_false_iff_ne]; omega) | (rw [beq_iff_eq]; omega)
  have o5 : ¬ i.op ≤ 30 := by first | omega | (rw [beq_eq_false_iff_ne]; omega) | (rw [beq_iff_eq]; omega)
  have o6 : (i.op == 33) = false := by first | omega | (rw [beq_eq_false_iff_ne]; omega) | (rw [beq_iff_eq]; omega)
  have o7 : (i.op == 31) = false := by first | omega | (rw [beq_eq_false_iff_ne]; omega) | (rw [beq_iff_eq]; omega)
  have o8 : (i.op == 32) = false := by first | omega | (rw [beq_eq_false_iff_ne]; omega) | (rw [beq_iff_eq]; omega)
  have o9 : (i.op == 34) = false := by first | omega | (rw [beq_eq_false_iff_ne]; omega) | (rw [beq_iff_eq]; omega)
  have oa : (i.op == 35) = false := by first | omega | (rw [beq_eq_false_iff_ne]; omega) | (rw [beq_iff_eq]; omega)
  have ob : (i.op == 36) = true := by first | omega | (rw [beq_eq_false_iff_ne]; omega) | (rw [beq_iff_eq]; omega)
  have hlt : decide (i.at_ < 64) = decide (i.at_ ≤ 63) := by rw [decide_eq_decide]; omega
  rw [hlt]
  try simp -implicitDefEqProofs only [eqs, eqd, eqe, lh_some, ↓reduceIte, reduceCtorEq, Nat.reduceEqDiff, Nat.reduceAdd, Nat.reduceSub, Nat.reduceMul, Nat.reduceLT, Nat.reduceLeDiff, Nat.reduceBEq, Nat.reduceBNe, Nat.reduceGT, Int.reduceEq, Int.reduceLT, Int.reduceLE, Int.reduceToNat, Int.reduceAdd, Int.reduceSub, Int.reduceMul, Int.reduceNeg, Int.reduceBEq, Int.reduceBNe, b_fuglemanref12_Right, gs_fuglemanref12_Right, hr, hw, Ins.c, o1, o2, o3, o4, o5, o6, o7, o8, o9, oa, ob, p3, p4]
  cases t1 : decide (0 ≤ i.at_)
  · simp -implicitDefEqProofs only [eqs, eqd, eqe, lh_some, ↓reduceIte, reduceCtorEq, Nat.reduceEqDiff, Nat.reduceAdd, Nat.reduceSub, Nat.reduceMul, Nat.reduceLT, Nat.reduceLeDiff, Nat.reduceBEq, Nat.reduceBNe, Nat.reduceGT, Int.reduceEq, Int.reduceLT, Int.reduceLE, Int.reduceToNat, Int.reduceAdd, Int.reduceSub, Int.reduceMul, Int.reduceNeg, Int.reduceBEq, Int.reduceBNe, b_fuglemanref12_Right, gs_fuglemanref12_Right, hr, hw, Ins.c, o1, o2, o3, o4, o5, o6, o7, o8, o9, oa, ob, p3, p4, t1]
  try simp -implicitDefEqProofs only [eqs, eqd, eqe, lh_some, ↓reduceIte, reduceCtorEq, Nat.reduceEqDiff, Nat.reduceAdd, Nat.reduceSub, Nat.reduceMul, Nat.reduceLT, Nat.reduceLeDiff, Nat.reduceBEq, Nat.reduceBNe, Nat.reduceGT, Int.reduceEq, Int.reduceLT, Int.reduceLE, Int.reduceToNat, Int.reduceAdd, Int.reduceSub, Int.reduceMul, Int.reduceNeg, Int.reduceBEq, Int.reduceBNe, b_fuglemanref12_Right, gs_fuglemanref12_Right, hr, hw, Ins.c, o1, o2, o3, o4, o5, o6, o7, o8, o9, oa, ob, p3, p4, t1]
  cases t2 : decide (i.at_ ≤ 63)
  · simp -implicitDefEqProofs only [eqs, eqd, eqe, lh_some, ↓reduceIte, reduceCtorEq, Nat.reduceEqDiff, Nat.reduceAdd, Nat.reduceSub, Nat.reduceMul, Nat.reduceLT, Nat.reduceLeDiff, Nat.reduceBEq, Nat.reduceBNe, Nat.reduceGT, Int.reduceEq, Int.reduceLT, Int.reduceLE, Int.reduceToNat, Int.reduceAdd, Int.reduceSub, Int.reduceMul, Int.reduceNeg, Int.reduceBEq, Int.reduceBNe, b_fuglemanref12_Right, gs_fuglemanref12_Right, hr, hw, Ins.c, o1, o2, o3, o4, o5, o6, o7, o8, o9, oa, ob, p3, p4, t1, t2]
  try simp -implicitDefEqProofs only [eqs, eqd, eqe, lh_some, ↓reduceIte, reduceCtorEq, Nat.reduceEqDiff, Nat.reduceAdd, Nat.reduceSub, Nat.reduceMul, Nat.reduceLT, Nat.reduceLeDiff, Nat.reduceBEq, Nat.reduceBNe, Nat.reduceGT, Int.reduceEq, Int.reduceLT, Int.reduceLE, Int.reduceToNat, Int.reduceAdd, Int.reduceSub, Int.reduceMul, Int.reduceNeg, Int.reduceBEq, Int.reduceBNe, b_fuglemanref12_Right, gs_fuglemanref12_Right, hr, hw, Ins.c, o1, o2, o3, o4, o5, o6, o7, o8, o9, oa, ob, p3, p4, t1, t2]
  cases k0 : (i.k == 0)
  · simp -implicitDefEqProofs only [eqs, eqd, eqe, lh_some, ↓reduceIte, reduceCtorEq, Nat.reduceEqDiff, Nat.reduceAdd, Nat.reduceSub, Nat.reduceMul, Nat.reduceLT, Nat.reduceLeDiff, Nat.reduceBEq, Nat.reduceBNe, Nat.reduceGT, Int.reduceEq, Int.reduceLT, Int.reduceLE, Int.reduceToNat, Int.reduceAdd, Int.reduceSub, Int.reduceMul, Int.reduceNeg, Int.reduceBEq, Int.reduceBNe, b_fuglemanref12_Right, gs_fuglemanref12_Right, hr, hw, Ins.c, o1, o2, o3, o4, o5, o6, o7, o8, o9, oa, ob, p3, p4, t1, t2, k0]
  try simp -implicitDefEqProofs only [eqs, eqd, eqe, lh_some, ↓reduceIte, reduceCtorEq, Nat.reduceEqDiff, Nat.reduceAdd, Nat.reduceSub, Nat.reduceMul, Nat.reduceLT, Nat.reduceLeDiff, Nat.reduceBEq, Nat.reduceBNe, Nat.reduceGT, Int.reduceEq, Int.reduceLT, Int.reduceLE, Int.reduceToNat, Int.reduceAdd, Int.reduceSub, Int.reduceMul, Int.reduceNeg, Int.reduceBEq, Int.reduceBNe, b_fuglemanref12_Right, gs_fuglemanref12_Right, hr, hw, Ins.c, o1, o2, o3, o4, o5, o6, o7, o8, o9, oa, ob, p3, p4, t1, t2, k0]
  cases n0 : (i.n == 0)
  · simp -implicitDefEqProofs only [eqs, eqd, eqe, lh_some, ↓reduceIte, reduceCtorEq, Nat.reduceEqDiff, Nat.reduceAdd, Nat.reduceSub, Nat.reduceMul, Nat.reduceLT, Nat.reduceLeDiff, Nat.reduceBEq, Nat.reduceBNe, Nat.reduceGT, Int.reduceEq, Int.reduceLT, Int.reduceLE, Int.reduceToNat, Int.reduceAdd, Int.reduceSub, Int.reduceMul, Int.reduceNeg, Int.reduceBEq, Int.reduceBNe, b_fuglemanref12_Right, gs_fuglemanref12_Right, hr, hw, Ins.c, o1, o2, o3, o4, o5, o6, o7, o8, o9, oa, ob, p3, p4, t1, t2, k0, n0]
  simp -implicitDefEqProofs only [eqs, eqd, eqe, lh_some, ↓reduceIte, reduceCtorEq, Nat.reduceEqDiff, Nat.reduceAdd, Nat.reduceSub, Nat.reduceMul, Nat.reduceLT, Nat.reduceLeDiff, Nat.reduceBEq, Nat.reduceBNe, Nat.reduceGT, Int.reduceEq, Int.reduceLT, Int.reduceLE, Int.reduceToNat, Int.reduceAdd, Int.reduceSub, Int.reduceMul, Int.reduceNeg, Int.reduceBEq, Int.reduceBNe, b_fuglemanref12_Right, gs_fuglemanref12_Right, hr, hw, Ins.c, o1, o2, o3, o4, o5, o6, o7, o8, o9, oa, ob, p3, p4, t1, t2, k0, n0]
theorem rright_8z (k : Nat) (i : Ins) (hi : i.In) (hcl : cl i.op = 8) (ho : i.op = 36) (p3 : (i.ar == 3) = false) (p4 : (i.ar == 4) = false) : acall T (k + 11) 55 0 [.agg i.c] [] = some ⟨.v (.bool (right i)), [], 1⟩ := by
  rw [acall_go (body := b_fuglemanref12_Right) rfl rfl (Nat.zero_le _)]
  have hr := reads_a (k + 9) i.op
  have hw := writes_a (k + 9) i.op
  have w0 : (decide (3 ≤ i.op) && decide (i.op ≤ 6)) = false := by
    by_cases c1 : 3 ≤ i.op <;> by_cases c2 : i.op ≤ 6 <;> simp [c1, c2]
    omega
  rw [w0] at hw
  rw [rd1_cl, hcl, show ((8 : Int) == 1) = false from rfl] at hr
  unfold right
  rw [hcl]
  simp only [Int.reduceEq, if_true, if_false]
  have o1 : 25 ≤ i.op := by first | omega | (rw [beq_eq_false_iff_ne]; omega) | (rw [beq_iff_eq]; omega)
  have o2 : ¬ i.op ≤ 27 := by first | omega | (rw [beq_eq_false_iff_ne]; omega) | (rw [beq_iff_eq]; omega)
  have o3 : (i.op == 13) = false := by first | omega | (rw [beq_eq_false_iff_ne]; omega) | (rw [beq_iff_eq]; omega)
  have o4 : 28 ≤ i.op := by first | omega | (rw [beq_eq_false_iff_ne]; omega) | (rw [beq_iff_eq]; omega)
  have o5 : ¬ i.op ≤ 30 := by first | omega | (rw [beq_eq_false_iff_ne]; omega) | (rw [beq_iff_eq]; omega)
  have o6 : (i.op == 33) = false := by first | omega | (rw [beq_eq_false_iff_ne]; omega) | (rw [beq_iff_eq]; omega)
  have o7 : (i.op == 31) = false := by first | omega | (rw [beq_eq_false_iff_ne]; omega) | (rw [beq_iff_eq]; omega)
  have o8 : (i.op == 32) = false := by first | omega | (rw [beq_eq_false_iff_ne]; omega) | (rw [beq_iff_eq]; omega)
  have o9 : (i.op == 34) = false := by first | omega | (rw [beq_eq_false_iff_ne]; omega) | (rw [beq_iff_eq]; omega)
  have oa : (i.op == 35) = false := by first | omega | (rw [beq_eq_false_iff_ne]; omega) | (rw [beq_iff_eq]; omega)
  have ob : (i.op == 36) = true := by first | omega | (rw [beq_eq_false_iff_ne]; omega) | (rw [beq_iff_eq]; omega)
  have hlt : decide (i.at_ < 64) = decide (i.at_ ≤ 63) := by rw [decide_eq_decide]; omega
  rw [hlt]
  simp -implicitDefEqProofs only [eqs, eqd, eqe, lh_some, ↓reduceIte, reduceCtorEq, Nat.reduceEqDiff, Nat.reduceAdd, Nat.reduceSub, Nat.reduceMul, Nat.reduceLT, Nat.reduceLeDiff, Nat.reduceBEq, Nat.reduceBNe, Nat.reduceGT, Int.reduceEq, Int.reduceLT, Int.reduceLE, Int.reduceToNat, Int.reduceAdd, Int.reduceSub, Int.reduceMul, Int.reduceNeg, Int.reduceBEq, Int.reduceBNe, b_fuglemanref12_Right, gs_fuglemanref12_Right, hr, hw, Ins.c, o1, o2, o3, o4, o5, o6, o7, o8, o9, oa, ob, p3, p4]
theorem rright_7ax (k : Nat) (i : Ins) (hi : i.In) (hcl : cl i.op = 7) (ho : i.op = 34) (p3 : (i.ar == 3) = true) : acall T (k + 11) 55 0 [.agg i.c] [] = some ⟨.v (.bool (right i)), [], 1⟩ := by
  rw [acall_go (body := b_fuglemanref12_Right) rfl rfl (Nat.zero_le _)]
  have hr := reads_a (k + 9) i.op
  have hw := writes_a (k + 9) i.op
  have w0 : (decide (3 ≤ i.op) && decide (i.op ≤ 6)) = false := by
    by_cases c1 : 3 ≤ i.op <;> by_cases c2 : i.op ≤ 6 <;> simp [c1, c2]
    omega
  rw [w0] at hw
  rw [rd1_cl, hcl, show ((7 : Int) == 1) = false from rfl] at hr
  unfold right
  rw [hcl]
  simp only [Int.reduceEq, if_true, if_false]
  have o1 : 25 ≤ i.op := by first | omega | (rw [beq_eq_false_iff_ne]; omega) | (rw [beq_iff_eq]; omega)
  have o2 : ¬ i.op ≤ 27 := by first | omega | (rw [beq_eq_false_iff_ne]; omega) | (rw [beq_iff_eq]; omega)
  have o3 : (i.op == 13) = false := by first | omega | (rw [beq_eq_false_iff_ne]; omega) | (rw [beq_iff_eq]; omega)
  have o4 : 28 ≤ i.op := by first | omega | (rw [beq_eq_false_iff_ne]; omega) | (rw [beq_iff_eq]; omega)
  have o5 : ¬ i.op ≤ 30 := by first | omega | (rw [beq_eq_false_iff_ne]; omega) | (rw [beq_iff_eq]; omega)
  have o6 : (i.op == 33) = false := by first | omega | (rw [beq_eq_false_iff_ne]; omega) | (rw [beq_iff_eq]; omega)
  have o7 : (i.op == 31) = false := by first | omega | (rw [beq_eq_false_iff_ne]; omega) | (rw [beq_iff_eq]; omega)
  have o8 : (i.op == 32) = false := by first | omega | (rw [beq_eq_false_iff_ne]; omega) | (rw [beq_iff_eq]; omega)
  have o9 : (i.op == 34) = true := by first | omega | (rw [beq_eq_false_iff_ne]; omega) | (rw [beq_iff_eq]; omega)
  try simp -implicitDefEqProofs only [eqs, eqd, eqe, lh_some, ↓reduceIte, reduceCtorEq, Nat.reduceEqDiff, Nat.reduceAdd, Nat.reduceSub, Nat.reduceMul, Nat.reduceLT, Nat.reduceLeDiff, Nat.reduceBEq, Nat.reduceBNe, Nat.reduceGT, Int.reduceEq, Int.reduceLT, Int.reduceLE, Int.reduceToNat, Int.reduceAdd, Int.reduceSub, Int.reduceMul, Int.reduceNeg, Int.reduceBEq, Int.reduceBNe, b_fuglemanref12_Right, gs_fuglemanref12_Right, hr, hw, Ins.c, o1, o2, o3, o4, o5, o6, o7, o8, o9, p3]
  cases t1 : decide (0 ≤ i.at_)
  · simp -implicitDefEqProofs only [eqs, eqd, eqe, lh_some, ↓reduceIte, reduceCtorEq, Nat.reduceEqDiff, Nat.reduceAdd, Nat.reduceSub, Nat.reduceMul, Nat.reduceLT, Nat.reduceLeDiff, Nat.reduceBEq, Nat.reduceBNe, Nat.reduceGT, Int.reduceEq, Int.reduceLT, Int.reduceLE, Int.reduceToNat, Int.reduceAdd, Int.reduceSub, Int.reduceMul, Int.reduceNeg, Int.reduceBEq, Int.reduceBNe, b_fuglemanref12_Right, gs_fuglemanref12_Right, hr, hw, Ins.c, o1, o2, o3, o4, o5, o6, o7, o8, o9, p3, t1]
  try simp -implicitDefEqProofs only [eqs, eqd, eqe, lh_some, ↓reduceIte, reduceCtorEq, Nat.reduceEqDiff, Nat.reduceAdd, Nat.reduceSub, Nat.reduceMul, Nat.reduceLT, Nat.reduceLeDiff, Nat.reduceBEq, Nat.reduceBNe, Nat.reduceGT, Int.reduceEq, Int.reduceLT, Int.reduceLE, Int.reduceToNat, Int.reduceAdd, Int.reduceSub, Int.reduceMul, Int.reduceNeg, Int.reduceBEq, Int.reduceBNe, b_fuglemanref12_Right, gs_fuglemanref12_Right, hr, hw, Ins.c, o1, o2, o3, o4, o5, o6, o7, o8, o9, p3, t1]
  cases t2 : decide (i.at_ ≤ 59)
  · simp -implicitDefEqProofs only [eqs, eqd, eqe, lh_some, ↓reduceIte, reduceCtorEq, Nat.reduceEqDiff, Nat.reduceAdd, Nat.reduceSub, Nat.reduceMul, Nat.reduceLT, Nat.reduceLeDiff, Nat.reduceBEq, Nat.reduceBNe, Nat.reduceGT, Int.reduceEq, Int.reduceLT, Int.reduceLE, Int.reduceToNat, Int.reduceAdd, Int.reduceSub, Int.reduceMul, Int.reduceNeg, Int.reduceBEq, Int.reduceBNe, b_fuglemanref12_Right, gs_fuglemanref12_Right, hr, hw, Ins.c, o1, o2, o3, o4, o5, o6, o7, o8, o9, p3, t1, t2]
  try simp -implicitDefEqProofs only [eqs, eqd, eqe, lh_some, ↓reduceIte, reduceCtorEq, Nat.reduceEqDiff, Nat.reduceAdd, Nat.reduceSub, Nat.reduceMul, Nat.reduceLT, Nat.reduceLeDiff, Nat.reduceBEq, Nat.reduceBNe, Nat.reduceGT, Int.reduceEq, Int.reduceLT, Int.reduceLE, Int.reduceToNat, Int.reduceAdd, Int.reduceSub, Int.reduceMul, Int.reduceNeg, Int.reduceBEq, Int.reduceBNe, b_fuglemanref12_Right, gs_fuglemanref12_Right, hr, hw, Ins.c, o1, o2, o3, o4, o5, o6, o7, o8, o9, p3, t1, t2]
  cases n1 : decide (1 ≤ i.n)
  · simp -implicitDefEqProofs only [eqs, eqd, eqe, lh_some, ↓reduceIte, reduceCtorEq, Nat.reduceEqDiff, Nat.reduceAdd, Nat.reduceSub, Nat.reduceMul, Nat.reduceLT, Nat.reduceLeDiff, Nat.reduceBEq, Nat.reduceBNe, Nat.reduceGT, Int.reduceEq, Int.reduceLT, Int.reduceLE, Int.reduceToNat, Int.reduceAdd, Int.reduceSub, Int.reduceMul, Int.reduceNeg, Int.reduceBEq, Int.reduceBNe, b_fuglemanref12_Right, gs_fuglemanref12_Right, hr, hw, Ins.c, o1, o2, o3, o4, o5, o6, o7, o8, o9, p3, t1, t2, n1]
  try simp -implicitDefEqProofs only [eqs, eqd, eqe, lh_some, ↓reduceIte, reduceCtorEq, Nat.reduceEqDiff, Nat.reduceAdd, Nat.reduceSub, Nat.reduceMul, Nat.reduceLT, Nat.reduceLeDiff, Nat.reduceBEq, Nat.reduceBNe, Nat.reduceGT, Int.reduceEq, Int.reduceLT, Int.reduceLE, Int.reduceToNat, Int.reduceAdd, Int.reduceSub, Int.reduceMul, Int.reduceNeg, Int.reduceBEq, Int.reduceBNe, b_fuglemanref12_Right, gs_fuglemanref12_Right, hr, hw, Ins.c, o1, o2, o3, o4, o5, o6, o7, o8, o9, p3, t1, t2, n1]
  cases n2 : decide (i.n ≤ 9999)
  · simp -implicitDefEqProofs only [eqs, eqd, eqe, lh_some, ↓reduceIte, reduceCtorEq, Nat.reduceEqDiff, Nat.reduceAdd, Nat.reduceSub, Nat.reduceMul, Nat.reduceLT, Nat.reduceLeDiff, Nat.reduceBEq, Nat.reduceBNe, Nat.reduceGT, Int.reduceEq, Int.reduceLT, Int.reduceLE, Int.reduceToNat, Int.reduceAdd, Int.reduceSub, Int.reduceMul, Int.reduceNeg, Int.reduceBEq, Int.reduceBNe, b_fuglemanref12_Right, gs_fuglemanref12_Right, hr, hw, Ins.c, o1, o2, o3, o4, o5, o6, o7, o8, o9, p3, t1, t2, n1, n2]
  try simp -implicitDefEqProofs only [eqs, eqd, eqe, lh_some, ↓reduceIte, reduceCtorEq, Nat.reduceEqDiff, Nat.reduceAdd, Nat.reduceSub, Nat.reduceMul, Nat.reduceLT, Nat.reduceLeDiff, Nat.reduceBEq, Nat.reduceBNe, Nat.reduceGT, Int.reduceEq, Int.reduceLT, Int.reduceLE, Int.reduceToNat, Int.reduceAdd, Int.reduceSub, Int.reduceMul, Int.reduceNeg, Int.reduceBEq, Int.reduceBNe, b_fuglemanref12_Right, gs_fuglemanref12_Right, hr, hw, Ins.c, o1, o2, o3, o4, o5, o6, o7, o8, o9, p3, t1, t2, n1, n2]
  cases k0 : (i.k == 0)
  · simp -implicitDefEqProofs only [eqs, eqd, eqe, lh_some, ↓reduceIte, reduceCtorEq, Nat.reduceEqDiff, Nat.reduceAdd, Nat.reduceSub, Nat.reduceMul, Nat.reduceLT, Nat.reduceLeDiff, Nat.reduceBEq, Nat.reduceBNe, Nat.reduceGT, Int.reduceEq, Int.reduceLT, Int.reduceLE, Int.reduceToNat, Int.reduceAdd, Int.reduceSub, Int.reduceMul, Int.reduceNeg, Int.reduceBEq, Int.reduceBNe, b_fuglemanref12_Right, gs_fuglemanref12_Right, hr, hw, Ins.c, o1, o2, o3, o4, o5, o6, o7, o8, o9, p3, t1, t2, n1, n2, k0]
  simp -implicitDefEqProofs only [eqs, eqd, eqe, lh_some, ↓reduceIte, reduceCtorEq, Nat.reduceEqDiff, Nat.reduceAdd, Nat.reduceSub, Nat.reduceMul, Nat.reduceLT, Nat.reduceLeDiff, Nat.reduceBEq, Nat.reduceBNe, Nat.reduceGT, Int.reduceEq, Int.reduceLT, Int.reduceLE, Int.reduceToNat, Int.reduceAdd, Int.reduceSub, Int.reduceMul, Int.reduceNeg, Int.reduceBEq, Int.reduceBNe, b_fuglemanref12_Right, gs_fuglemanref12_Right, hr, hw, Ins.c, o1, o2, o3, o4, o5, o6, o7, o8, o9, p3, t1, t2, n1, n2, k0]
theorem rright_7ay (k : Nat) (i : Ins) (hi : i.In) (hcl : cl i.op = 7) (ho : i.op = 34) (p3 : (i.ar == 3) = false) (p4 : (i.ar == 4) = true) : acall T (k + 11) 55 0 [.agg i.c] [] = some ⟨.v (.bool (right i)), [], 1⟩ := by
  rw [acall_go (body := b_fuglemanref12_Right) rfl rfl (Nat.zero_le _)]
  have hr := reads_a (k + 9) i.op
  have hw := writes_a (k + 9) i.op
  have w0 : (decide (3 ≤ i.op) && decide (i.op ≤ 6)) = false := by
    by_cases c1 : 3 ≤ i.op <;> by_cases c2 : i.op ≤ 6 <;> simp [c1, c2]
    omega
  rw [w0] at hw
  rw [rd1_cl, hcl, show ((7 : Int) == 1) = false from rfl] at hr
  unfold right
  rw [hcl]
  simp only [Int.reduceEq, if_true, if_false]
  have o1 : 25 ≤ i.op := by first | omega | (rw [beq_eq_false_iff_ne]; omega) | (rw [beq_iff_eq]; omega)
  have o2 : ¬ i.op ≤ 27 := by first | omega | (rw [beq_eq_false_iff_ne]; omega) | (rw [beq_iff_eq]; omega)
  have o3 : (i.op == 13) = false := by first | omega | (rw [beq_eq_false_iff_ne]; omega) | (rw [beq_iff_eq]; omega)
  have o4 : 28 ≤ i.op := by first | omega | (rw [beq_eq_false_iff_ne]; omega) | (rw [beq_iff_eq]; omega)
  have o5 : ¬ i.op ≤ 30 := by first | omega | (rw [beq_eq_false_iff_ne]; omega) | (rw [beq_iff_eq]; omega)
  have o6 : (i.op == 33) = false := by first | omega | (rw [beq_eq_false_iff_ne]; omega) | (rw [beq_iff_eq]; omega)
  have o7 : (i.op == 31) = false := by first | omega | (rw [beq_eq_false_iff_ne]; omega) | (rw [beq_iff_eq]; omega)
  have o8 : (i.op == 32) = false := by first | omega | (rw [beq_eq_false_iff_ne]; omega) | (rw [beq_iff_eq]; omega)
  have o9 : (i.op == 34) = true := by first | omega | (rw [beq_eq_false_iff_ne]; omega) | (rw [beq_iff_eq]; omega)
  try simp -implicitDefEqProofs only [eqs, eqd, eqe, lh_some, ↓reduceIte, reduceCtorEq, Nat.reduceEqDiff, Nat.reduceAdd, Nat.reduceSub, Nat.reduceMul, Nat.reduceLT, Nat.reduceLeDiff, Nat.reduceBEq, Nat.reduceBNe, Nat.reduceGT, Int.reduceEq, Int.reduceLT, Int.reduceLE, Int.reduceToNat, Int.reduceAdd, Int.reduceSub, Int.reduceMul, Int.reduceNeg, Int.reduceBEq, Int.reduceBNe, b_fuglemanref12_Right, gs_fuglemanref12_Right, hr, hw, Ins.c, o1, o2, o3, o4, o5, o6, o7, o8, o9, p3, p4]
  cases t1 : decide (0 ≤ i.at_)
  · simp -implicitDefEqProofs only [eqs, eqd, eqe, lh_some, ↓reduceIte, reduceCtorEq, Nat.reduceEqDiff, Nat.reduceAdd, Nat.reduceSub, Nat.reduceMul, Nat.reduceLT, Nat.reduceLeDiff, Nat.reduceBEq, Nat.reduceBNe, Nat.reduceGT, Int.reduceEq, Int.reduceLT, Int.reduceLE, Int.reduceToNat, Int.reduceAdd, Int.reduceSub, Int.reduceMul, Int.reduceNeg, Int.reduceBEq, Int.reduceBNe, b_fuglemanref12_Right, gs_fuglemanref12_Right, hr, hw, Ins.c, o1, o2, o3, o4, o5, o6, o7, o8, o9, p3, p4, t1]
  try simp -implicitDefEqProofs only [eqs, eqd, eqe, lh_some, ↓reduceIte, reduceCtorEq, Nat.reduceEqDiff, Nat.reduceAdd, Nat.reduceSub, Nat.reduceMul, Nat.reduceLT, Nat.reduceLeDiff, Nat.reduceBEq, Nat.reduceBNe, Nat.reduceGT, Int.reduceEq, Int.reduceLT, Int.reduceLE, Int.reduceToNat, Int.reduceAdd, Int.reduceSub, Int.reduceMul, Int.reduceNeg, Int.reduceBEq, Int.reduceBNe, b_fuglemanref12_Right, gs_fuglemanref12_Right, hr, hw, Ins.c, o1, o2, o3, o4, o5, o6, o7, o8, o9, p3, p4, t1]
  cases t2 : decide (i.at_ ≤ 59)
  · simp -implicitDefEqProofs only [eqs, eqd, eqe, lh_some, ↓reduceIte, reduceCtorEq, Nat.reduceEqDiff, Nat.reduceAdd, Nat.reduceSub, Nat.reduceMul, Nat.reduceLT, Nat.reduceLeDiff, Nat.reduceBEq, Nat.reduceBNe, Nat.reduceGT, Int.reduceEq, Int.reduceLT, Int.reduceLE, Int.reduceToNat, Int.reduceAdd, Int.reduceSub, Int.reduceMul, Int.reduceNeg, Int.reduceBEq, Int.reduceBNe, b_fuglemanref12_Right, gs_fuglemanref12_Right, hr, hw, Ins.c, o1, o2, o3, o4, o5, o6, o7, o8, o9, p3, p4, t1, t2]
  try simp -implicitDefEqProofs only [eqs, eqd, eqe, lh_some, ↓reduceIte, reduceCtorEq, Nat.reduceEqDiff, Nat.reduceAdd, Nat.reduceSub, Nat.reduceMul, Nat.reduceLT, Nat.reduceLeDiff, Nat.reduceBEq, Nat.reduceBNe, Nat.reduceGT, Int.reduceEq, Int.reduceLT, Int.reduceLE, Int.reduceToNat, Int.reduceAdd, Int.reduceSub, Int.reduceMul, Int.reduceNeg, Int.reduceBEq, Int.reduceBNe, b_fuglemanref12_Right, gs_fuglemanref12_Right, hr, hw, Ins.c, o1, o2, o3, o4, o5, o6, o7, o8, o9, p3, p4, t1, t2]
  cases n1 : decide (1 ≤ i.n)
  · simp -implicitDefEqProofs only [eqs, eqd, eqe, lh_some, ↓reduceIte, reduceCtorEq, Nat.reduceEqDiff, Nat.reduceAdd, Nat.reduceSub, Nat.reduceMul, Nat.reduceLT, Nat.reduceLeDiff, Nat.reduceBEq, Nat.reduceBNe, Nat.reduceGT, Int.reduceEq, Int.reduceLT, Int.reduceLE, Int.reduceToNat, Int.reduceAdd, Int.reduceSub, Int.reduceMul, Int.reduceNeg, Int.reduceBEq, Int.reduceBNe, b_fuglemanref12_Right, gs_fuglemanref12_Right, hr, hw, Ins.c, o1, o2, o3, o4, o5, o6, o7, o8, o9, p3, p4, t1, t2, n1]
  try simp -implicitDefEqProofs only [eqs, eqd, eqe, lh_some, ↓reduceIte, reduceCtorEq, Nat.reduceEqDiff, Nat.reduceAdd, Nat.reduceSub, Nat.reduceMul, Nat.reduceLT, Nat.reduceLeDiff, Nat.reduceBEq, Nat.reduceBNe, Nat.reduceGT, Int.reduceEq, Int.reduceLT, Int.reduceLE, Int.reduceToNat, Int.reduceAdd, Int.reduceSub, Int.reduceMul, Int.reduceNeg, Int.reduceBEq, Int.reduceBNe, b_fuglemanref12_Right, gs_fuglemanref12_Right, hr, hw, Ins.c, o1, o2, o3, o4, o5, o6, o7, o8, o9, p3, p4, t1, t2, n1]
  cases n2 : decide (i.n ≤ 9999)
  · simp -implicitDefEqProofs only [eqs, eqd, eqe, lh_some, ↓reduceIte, reduceCtorEq, Nat.reduceEqDiff, Nat.reduceAdd, Nat.reduceSub, Nat.reduceMul, Nat.reduceLT, Nat.reduceLeDiff, Nat.reduceBEq, Nat.reduceBNe, Nat.reduceGT, Int.reduceEq, Int.reduceLT, Int.reduceLE, Int.reduceToNat, Int.reduceAdd, Int.reduceSub, Int.reduceMul, Int.reduceNeg, Int.reduceBEq, Int.reduceBNe, b_fuglemanref12_Right, gs_fuglemanref12_Right, hr, hw, Ins.c, o1, o2, o3, o4, o5, o6, o7, o8, o9, p3, p4, t1, t2, n1, n2]
  try simp -implicitDefEqProofs only [eqs, eqd, eqe, lh_some, ↓reduceIte, reduceCtorEq, Nat.reduceEqDiff, Nat.reduceAdd, Nat.reduceSub, Nat.reduceMul, Nat.reduceLT, Nat.reduceLeDiff, Nat.reduceBEq, Nat.reduceBNe, Nat.reduceGT, Int.reduceEq, Int.reduceLT, Int.reduceLE, Int.reduceToNat, Int.reduceAdd, Int.reduceSub, Int.reduceMul, Int.reduceNeg, Int.reduceBEq, Int.reduceBNe, b_fuglemanref12_Right, gs_fuglemanref12_Right, hr, hw, Ins.c, o1, o2, o3, o4, o5, o6, o7, o8, o9, p3, p4, t1, t2, n1, n2]
  cases k0 : (i.k == 0)
  · simp -implicitDefEqProofs only [eqs, eqd, eqe, lh_some, ↓reduceIte, reduceCtorEq, Nat.reduceEqDiff, Nat.reduceAdd, Nat.reduceSub, Nat.reduceMul, Nat.reduceLT, Nat.reduceLeDiff, Nat.reduceBEq, Nat.reduceBNe, Nat.reduceGT, Int.reduceEq, Int.reduceLT, Int.reduceLE, Int.reduceToNat, Int.reduceAdd, Int.reduceSub, Int.reduceMul, Int.reduceNeg, Int.reduceBEq, Int.reduceBNe, b_fuglemanref12_Right, gs_fuglemanref12_Right, hr, hw, Ins.c, o1, o2, o3, o4, o5, o6, o7, o8, o9, p3, p4, t1, t2, n1, n2, k0]
  simp -implicitDefEqProofs only [eqs, eqd, eqe, lh_some, ↓reduceIte, reduceCtorEq, Nat.reduceEqDiff, Nat.reduceAdd, Nat.reduceSub, Nat.reduceMul, Nat.reduceLT, Nat.reduceLeDiff, Nat.reduceBEq, Nat.reduceBNe, Nat.reduceGT, Int.reduceEq, Int.reduceLT, Int.reduceLE, Int.reduceToNat, Int.reduceAdd, Int.reduceSub, Int.reduceMul, Int.reduceNeg, Int.reduceBEq, Int.reduceBNe, b_fuglemanref12_Right, gs_fuglemanref12_Right, hr, hw, Ins.c, o1, o2, o3, o4, o5, o6, o7, o8, o9, p3, p4, t1, t2, n1, n2, k0]
theorem rright_7az (k : Nat) (i : Ins) (hi : i.In) (hcl : cl i.op = 7) (ho : i.op = 34) (p3 : (i.ar == 3) = false) (p4 : (i.ar == 4) = false) : acall T (k + 11) 55 0 [.agg i.c] [] = some ⟨.v (.bool (right i)), [], 1⟩ := by
  rw [acall_go (body := b_fuglemanref12_Right) rfl rfl (Nat.zero_le _)]
  have hr := reads_a (k + 9) i.op
  have hw := writes_a (k + 9) i.op
  have w0 : (decide (3 ≤ i.op) && decide (i.op ≤ 6)) = false := by
    by_cases c1 : 3 ≤ i.op <;> by_cases c2 : i.op ≤ 6 <;> simp [c1, c2]
    omega
  rw [w0] at hw
  rw [rd1_cl, hcl, show ((7 : Int) == 1) = false from rfl] at hr
  unfold right
  rw [hcl]
  simp only [Int.reduceEq, if_true, if_false]
  have o1 : 25 ≤ i.op := by first | omega | (rw [beq_eq_false_iff_ne]; omega) | (rw [beq_iff_eq]; omega)
  have o2 : ¬ i.op ≤ 27 := by first | omega | (rw [beq_eq_false_iff_ne]; omega) | (rw [beq_iff_eq]; omega)
  have o3 : (i.op == 13) = false := by first | omega | (rw [beq_eq_false_iff_ne]; omega) | (rw [beq_iff_eq]; omega)
  have o4 : 28 ≤ i.op := by first | omega | (rw [beq_eq_false_iff_ne]; omega) | (rw [beq_iff_eq]; omega)
  have o5 : ¬ i.op ≤ 30 := by first | omega | (rw [beq_eq_false_iff_ne]; omega) | (rw [beq_iff_eq]; omega)
  have o6 : (i.op == 33) = false := by first | omega | (rw [beq_eq_false_iff_ne]; omega) | (rw [beq_iff_eq]; omega)
  have o7 : (i.op == 31) = false := by first | omega | (rw [beq_eq_false_iff_ne]; omega) | (rw [beq_iff_eq]; omega)
  have o8 : (i.op == 32) = false := by first | omega | (rw [beq_eq_false_iff_ne]; omega) | (rw [beq_iff_eq]; omega)
  have o9 : (i.op == 34) = true := by first | omega | (rw [beq_eq_false_iff_ne]; omega) | (rw [beq_iff_eq]; omega)
  simp -implicitDefEqProofs only [eqs, eqd, eqe, lh_some, ↓reduceIte, reduceCtorEq, Nat.reduceEqDiff, Nat.reduceAdd, Nat.reduceSub, Nat.reduceMul, Nat.reduceLT, Nat.reduceLeDiff, Nat.reduceBEq, Nat.reduceBNe, Nat.reduceGT, Int.reduceEq, Int.reduceLT, Int.reduceLE, Int.reduceToNat, Int.reduceAdd, Int.reduceSub, Int.reduceMul, Int.reduceNeg, Int.reduceBEq, Int.reduceBNe, b_fuglemanref12_Right, gs_fuglemanref12_Right, hr, hw, Ins.c, o1, o2, o3, o4, o5, o6, o7, o8, o9, p3, p4]
theorem rright_7bx (k : Nat) (i : Ins) (hi : i.In) (hcl : cl i.op = 7) (ho : i.op = 35) (p3 : (i.ar == 3) = true) : acall T (k + 11) 55 0 [.agg i.c] [] = some ⟨.v (.bool (right i)), [], 1⟩ := by
  rw [acall_go (body := b_fuglemanref12_Right) rfl rfl (Nat.zero_le _)]
  have hr := reads_a (k + 9) i.op
  have hw := writes_a (k + 9) i.op
  have w0 : (decide (3 ≤ i.op) && decide (i.op ≤ 6)) = false := by
    by_cases c1 : 3 ≤ i.op <;> by_cases c2 : i.op ≤ 6 <;> simp [c1, c2]
    omega
  rw [w0] at hw
  rw [rd1_cl, hcl, show ((7 : Int) == 1) = false from rfl] at hr
  unfold right
  rw [hcl]
  simp only [Int.reduceEq, if_true, if_false]
  have o1 : 25 ≤ i.op := by first | omega | (rw [beq_eq_false_iff_ne]; omega) | (rw [beq_iff_eq]; omega)
  have o2 : ¬ i.op ≤ 27 := by first | omega | (rw [beq_eq_false_iff_ne]; omega) | (rw [beq_iff_eq]; omega)
  have o3 : (i.op == 13) = false := by first | omega | (rw [beq_eq_false_iff_ne]; omega) | (rw [beq_iff_eq]; omega)
  have o4 : 28 ≤ i.op := by first | omega | (rw [beq_eq_false_iff_ne]; omega) | (rw [beq_iff_eq]; omega)
  have o5 : ¬ i.op ≤ 30 := by first | omega | (rw [beq_eq_false_iff_ne]; omega) | (rw [beq_iff_eq]; omega)
  have o6 : (i.op == 33) = false := by first | omega | (rw [beq_eq_false_iff_ne]; omega) | (rw [beq_iff_eq]; omega)
  have o7 : (i.op == 31) = false := by first | omega | (rw [beq_eq_false_iff_ne]; omega) | (rw [beq_iff_eq]; omega)
  have o8 : (i.op == 32) = false := by first | omega | (rw [beq_eq_false_iff_ne]; omega) | (rw [beq_iff_eq]; omega)
  have o9 : (i.op == 34) = false := by first | omega | (rw [beq_eq_false_iff_ne]; omega) | (rw [beq_iff_eq]; omega)
  have oa : (i.op == 35) = true := by first | omega | (rw [beq_eq_false_iff_ne]; omega) | (rw [beq_iff_eq]; omega)
  try simp -implicitDefEqProofs only [eqs, eqd, eqe, lh_some, ↓reduceIte, reduceCtorEq, Nat.reduceEqDiff, Nat.reduceAdd, Nat.reduceSub, Nat.reduceMul, Nat.reduceLT, Nat.reduceLeDiff, Nat.reduceBEq, Nat.reduceBNe, Nat.reduceGT, Int.reduceEq, Int.reduceLT, Int.reduceLE, Int.reduceToNat, Int.reduceAdd, Int.reduceSub, Int.reduceMul, Int.reduceNeg, Int.reduceBEq, Int.reduceBNe, b_fuglemanref12_Right, gs_fuglemanref12_Right, hr, hw, Ins.c, o1, o2, o3, o4, o5, o6, o7, o8, o9, oa, p3]
  cases t1 : decide (0 ≤ i.at_)
  · simp -implicitDefEqProofs only [eqs, eqd, eqe, lh_some, ↓reduceIte, reduceCtorEq, Nat.reduceEqDiff, Nat.reduceAdd, Nat.reduceSub, Nat.reduceMul, Nat.reduceLT, Nat.reduceLeDiff, Nat.reduceBEq, Nat.reduceBNe, Nat.reduceGT, Int.reduceEq, Int.reduceLT, Int.reduceLE, Int.reduceToNat, Int.reduceAdd, Int.reduceSub, Int.reduceMul, Int.reduceNeg, Int.reduceBEq, Int.reduceBNe, b_fuglemanref12_Right, gs_fuglemanref12_Right, hr, hw, Ins.c, o1, o2, o3, o4, o5, o6, o7, o8, o9, oa, p3, t1]
  try simp -implicitDefEqProofs only [eqs, eqd, eqe, lh_some, ↓reduceIte, reduceCtorEq, Nat.reduceEqDiff, Nat.reduceAdd, Nat.reduceSub, Nat.reduceMul, Nat.reduceLT, Nat.reduceLeDiff, Nat.reduceBEq, Nat.reduceBNe, Nat.reduceGT, Int.reduceEq, Int.reduceLT, Int.reduceLE, Int.reduceToNat, Int.reduceAdd, Int.reduceSub, Int.reduceMul, Int.reduceNeg, Int.reduceBEq, Int.reduceBNe, b_fuglemanref12_Right, gs_fuglemanref12_Right, hr, hw, Ins.c, o1, o2, o3, o4, o5, o6, o7, o8, o9, oa, p3, t1]
  cases t2 : decide (i.at_ ≤ 59)
  · simp -implicitDefEqProofs only [eqs, eqd, eqe, lh_some, ↓reduceIte, reduceCtorEq, Nat.reduceEqDiff, Nat.reduceAdd, Nat.reduceSub, Nat.reduceMul, Nat.reduceLT, Nat.reduceLeDiff, Nat.reduceBEq, Nat.reduceBNe, Nat.reduceGT, Int.reduceEq, Int.reduceLT, Int.reduceLE, Int.reduceToNat, Int.reduceAdd, Int.reduceSub, Int.reduceMul, Int.reduceNeg, Int.reduceBEq, Int.reduceBNe, b_fuglemanref12_Right, gs_fuglemanref12_Right, hr, hw, Ins.c, o1, o2, o3, o4, o5, o6, o7, o8, o9, oa, p3, t1, t2]
  try simp -implicitDefEqProofs only [eqs, eqd, eqe, lh_some, ↓reduceIte, reduceCtorEq, Nat.reduceEqDiff, Nat.reduceAdd, Nat.reduceSub, Nat.reduceMul, Nat.reduceLT, Nat.reduceLeDiff, Nat.reduceBEq, Nat.reduceBNe, Nat.reduceGT, Int.reduceEq, Int.reduceLT, Int.reduceLE, Int.reduceToNat, Int.reduceAdd, Int.reduceSub, Int.reduceMul, Int.reduceNeg, Int.reduceBEq, Int.reduceBNe, b_fuglemanref12_Right, gs_fuglemanref12_Right, hr, hw, Ins.c, o1, o2, o3, o4, o5, o6, o7, o8, o9, oa, p3, t1, t2]
  cases n1 : decide (1 ≤ i.n)
  · simp -implicitDefEqProofs only [eqs, eqd, eqe, lh_some, ↓reduceIte, reduceCtorEq, Nat.reduceEqDiff, Nat.reduceAdd, Nat.reduceSub, Nat.reduceMul, Nat.reduceLT, Nat.reduceLeDiff, Nat.reduceBEq, Nat.reduceBNe, Nat.reduceGT, Int.reduceEq, Int.reduceLT, Int.reduceLE, Int.reduceToNat, Int.reduceAdd, Int.reduceSub, Int.reduceMul, Int.reduceNeg, Int.reduceBEq, Int.reduceBNe, b_fuglemanref12_Right, gs_fuglemanref12_Right, hr, hw, Ins.c, o1, o2, o3, o4, o5, o6, o7, o8, o9, oa, p3, t1, t2, n1]
  try simp -implicitDefEqProofs only [eqs, eqd, eqe, lh_some, ↓reduceIte, reduceCtorEq, Nat.reduceEqDiff, Nat.reduceAdd, Nat.reduceSub, Nat.reduceMul, Nat.reduceLT, Nat.reduceLeDiff, Nat.reduceBEq, Nat.reduceBNe, Nat.reduceGT, Int.reduceEq, Int.reduceLT, Int.reduceLE, Int.reduceToNat, Int.reduceAdd, Int.reduceSub, Int.reduceMul, Int.reduceNeg, Int.reduceBEq, Int.reduceBNe, b_fuglemanref12_Right, gs_fuglemanref12_Right, hr, hw, Ins.c, o1, o2, o3, o4, o5, o6, o7, o8, o9, oa, p3, t1, t2, n1]
  cases n2 : decide (i.n ≤ 9999)
  · simp -implicitDefEqProofs only [eqs, eqd, eqe, lh_some, ↓reduceIte, reduceCtorEq, Nat.reduceEqDiff, Nat.reduceAdd, Nat.reduceSub, Nat.reduceMul, Nat.reduceLT, Nat.reduceLeDiff, Nat.reduceBEq, Nat.reduceBNe, Nat.reduceGT, Int.reduceEq, Int.reduceLT, Int.reduceLE, Int.reduceToNat, Int.reduceAdd, Int.reduceSub, Int.reduceMul, Int.reduceNeg, Int.reduceBEq, Int.reduceBNe, b_fuglemanref12_Right, gs_fuglemanref12_Right, hr, hw, Ins.c, o1, o2, o3, o4, o5, o6, o7, o8, o9, oa, p3, t1, t2, n1, n2]
  try simp -implicitDefEqProofs only [eqs, eqd, eqe, lh_some, ↓reduceIte, reduceCtorEq, Nat.reduceEqDiff, Nat.reduceAdd, Nat.reduceSub, Nat.reduceMul, Nat.reduceLT, Nat.reduceLeDiff, Nat.reduceBEq, Nat.reduceBNe, Nat.reduceGT, Int.reduceEq, Int.reduceLT, Int.reduceLE, Int.reduceToNat, Int.reduceAdd, Int.reduceSub, Int.reduceMul, Int.reduceNeg, Int.reduceBEq, Int.reduceBNe, b_fuglemanref12_Right, gs_fuglemanref12_Right, hr, hw, Ins.c, o1, o2, o3, o4, o5, o6, o7, o8, o9, oa, p3, t1, t2, n1, n2]
  cases k0 : (i.k == 0)
  · simp -implicitDefEqProofs only [eqs, eqd, eqe, lh_some, ↓reduceIte, reduceCtorEq, Nat.reduceEqDiff, Nat.reduceAdd, Nat.reduceSub, Nat.reduceMul, Nat.reduceLT, Nat.reduceLeDiff, Nat.reduceBEq, Nat.reduceBNe, Nat.reduceGT, Int.reduceEq, Int.reduceLT, Int.reduceLE, Int.reduceToNat, Int.reduceAdd, Int.reduceSub, Int.reduceMul, Int.reduceNeg, Int.reduceBEq, Int.reduceBNe, b_fuglemanref12_Right, gs_fuglemanref12_Right, hr, hw, Ins.c, o1, o2, o3, o4, o5, o6, o7, o8, o9, oa, p3, t1, t2, n1, n2, k0]
  simp -implicitDefEqProofs only [eqs, eqd, eqe, lh_some, ↓reduceIte, reduceCtorEq, Nat.reduceEqDiff, Nat.reduceAdd, Nat.reduceSub, Nat.reduceMul, Nat.reduceLT, Nat.reduceLeDiff, Nat.reduceBEq, Nat.reduceBNe, Nat.reduceGT, Int.reduceEq, Int.reduceLT, Int.reduceLE, Int.reduceToNat, Int.reduceAdd, Int.reduceSub, Int.reduceMul, Int.reduceNeg, Int.reduceBEq, Int.reduceBNe, b_fuglemanref12_Right, gs_fuglemanref12_Right, hr, hw, Ins.c, o1, o2, o3, o4, o5, o6, o7, o8, o9, oa, p3, t1, t2, n1, n2, k0]
theorem rright_7by (k : Nat) (i : Ins) (hi : i.In) (hcl : cl i.op = 7) (ho : i.op = 35) (p3 : (i.ar == 3) = false) (p4 : (i.ar == 4) = true) : acall T (k + 11) 55 0 [.agg i.c] [] = some ⟨.v (.bool (right i)), [], 1⟩ := by
  rw [acall_go (body := b_fuglemanref12_Right) rfl rfl (Nat.zero_le _)]
  have hr := reads_a (k + 9) i.op
  have hw := writes_a (k + 9) i.op
  have w0 : (decide (3 ≤ i.op) && decide (i.op ≤ 6)) = false := by
    by_cases c1 : 3 ≤ i.op <;> by_cases c2 : i.op ≤ 6 <;> simp [c1, c2]
    omega
  rw [w0] at hw
  rw [rd1_cl, hcl, show ((7 : Int) == 1) = false from rfl] at hr
  unfold right
  rw [hcl]
  simp only [Int.reduceEq, if_true, if_false]
  have o1 : 25 ≤ i.op := by first | omega | (rw [beq_eq_false_iff_ne]; omega) | (rw [beq_iff_eq]; omega)
  have o2 : ¬ i.op ≤ 27 := by first | omega | (rw [beq_eq_false_iff_ne]; omega) | (rw [beq_iff_eq]; omega)
  have o3 : (i.op == 13) = false := by first | omega | (rw [beq_eq_false_iff_ne]; omega) | (rw [beq_iff_eq]; omega)
  have o4 : 28 ≤ i.op := by first | omega | (rw [beq_eq_false_iff_ne]; omega) | (rw [beq_iff_eq]; omega)
  have o5 : ¬ i.op ≤ 30 := by first | omega | (rw [beq_eq_false_iff_ne]; omega) | (rw [beq_iff_eq]; omega)
  have o6 : (i.op == 33) = false := by first | omega | (rw [beq_eq_false_iff_ne]; omega) | (rw [beq_iff_eq]; omega)
  have o7 : (i.op == 31) = false := by first | omega | (rw [beq_eq_false_iff_ne]; omega) | (rw [beq_iff_eq]; omega)
  have o8 : (i.op == 32) = false := by first | omega | (rw [beq_eq_false_iff_ne]; omega) | (rw [beq_iff_eq]; omega)
  have o9 : (i.op == 34) = false := by first | omega | (rw [beq_eq_false_iff_ne]; omega) | (rw [beq_iff_eq]; omega)
  have oa : (i.op == 35) = true := by first | omega | (rw [beq_eq_false_iff_ne]; omega) | (rw [beq_iff_eq]; omega)
  try simp -implicitDefEqProofs only [eqs, eqd, eqe, lh_some, ↓reduceIte, reduceCtorEq, Nat.reduceEqDiff, Nat.reduceAdd, Nat.reduceSub, Nat.reduceMul, Nat.reduceLT, Nat.reduceLeDiff, Nat.reduceBEq, Nat.reduceBNe, Nat.reduceGT, Int.reduceEq, Int.reduceLT, Int.reduceLE, Int.reduceToNat, Int.reduceAdd, Int.reduceSub, Int.reduceMul, Int.reduceNeg, Int.reduceBEq, Int.reduceBNe, b_fuglemanref12_Right, gs_fuglemanref12_Right, hr, hw, Ins.c, o1, o2, o3, o4, o5, o6, o7, o8, o9, oa, p3, p4]
  cases t1 : decide (0 ≤ i.at_)
  · simp -implicitDefEqProofs only [eqs, eqd, eqe, lh_some, ↓reduceIte, reduceCtorEq, Nat.reduceEqDiff, Nat.reduceAdd, Nat.reduceSub, Nat.reduceMul, Nat.reduceLT, Nat.reduceLeDiff, Nat.reduceBEq, Nat.reduceBNe, Nat.reduceGT, Int.reduceEq, Int.reduceLT, Int.reduceLE, Int.reduceToNat, Int.reduceAdd, Int.reduceSub, Int.reduceMul, Int.reduceNeg, Int.reduceBEq, Int.reduceBNe, b_fuglemanref12_Right, gs_fuglemanref12_Right, hr, hw, Ins.c, o1, o2, o3, o4, o5, o6, o7, o8, o9, oa, p3, p4, t1]
  try simp -implicitDefEqProofs only [eqs, eqd, eqe, lh_some, ↓reduceIte, reduceCtorEq, Nat.reduceEqDiff, Nat.reduceAdd, Nat.reduceSub, Nat.reduceMul, Nat.reduceLT, Nat.reduceLeDiff, Nat.reduceBEq, Nat.reduceBNe, Nat.reduceGT, Int.reduceEq, Int.reduceLT, Int.reduceLE, Int.reduceToNat, Int.reduceAdd, Int.reduceSub, Int.reduceMul, Int.reduceNeg, Int.reduceBEq, Int.reduceBNe, b_fuglemanref12_Right, gs_fuglemanref12_Right, hr, hw, Ins.c, o1, o2, o3, o4, o5, o6, o7, o8, o9, oa, p3, p4, t1]
  cases t2 : decide (i.at_ ≤ 59)
  · simp -implicitDefEqProofs only [eqs, eqd, eqe, lh_some, ↓reduceIte, reduceCtorEq, Nat.reduceEqDiff, Nat.reduceAdd, Nat.reduceSub, Nat.reduceMul, Nat.reduceLT, Nat.reduceLeDiff, Nat.reduceBEq, Nat.reduceBNe, Nat.reduceGT, Int.reduceEq, Int.reduceLT, Int.reduceLE, Int.reduceToNat, Int.reduceAdd, Int.reduceSub, Int.reduceMul, Int.reduceNeg, Int.reduceBEq, Int.reduceBNe, b_fuglemanref12_Right, gs_fuglemanref12_Right, hr, hw, Ins.c, o1, o2, o3, o4, o5, o6, o7, o8, o9, oa, p3, p4, t1, t2]
  try simp -implicitDefEqProofs only [eqs, eqd, eqe, lh_some, ↓reduceIte, reduceCtorEq, Nat.reduceEqDiff, Nat.reduceAdd, Nat.reduceSub, Nat.reduceMul, Nat.reduceLT, Nat.reduceLeDiff, Nat.reduceBEq, Nat.reduceBNe, Nat.reduceGT, Int.reduceEq, Int.reduceLT, Int.reduceLE, Int.reduceToNat, Int.reduceAdd, Int.reduceSub, Int.reduceMul, Int.reduceNeg, Int.reduceBEq, Int.reduceBNe, b_fuglemanref12_Right, gs_fuglemanref12_Right, hr, hw, Ins.c, o1, o2, o3, o4, o5, o6, o7, o8, o9, oa, p3, p4, t1, t2]
  cases n1 : decide (1 ≤ i.n)
  · simp -implicitDefEqProofs only [eqs, eqd, eqe, lh_some, ↓reduceIte, reduceCtorEq, Nat.reduceEqDiff, Nat.reduceAdd, Nat.reduceSub, Nat.reduceMul, Nat.reduceLT, Nat.reduceLeDiff, Nat.reduceBEq, Nat.reduceBNe, Nat.reduceGT, Int.reduceEq, Int.reduceLT, Int.reduceLE, Int.reduceToNat, Int.reduceAdd, Int.reduceSub, Int.reduceMul, Int.reduceNeg, Int.reduceBEq, Int.reduceBNe, b_fuglemanref12_Right, gs_fuglemanref12_Right, hr, hw, Ins.c, o1, o2, o3, o4, o5, o6, o7, o8, o9, oa, p3, p4, t1, t2, n1]
  try simp -implicitDefEqProofs only [eqs, eqd, eqe, lh_some, ↓reduceIte, reduceCtorEq, Nat.reduceEqDiff, Nat.reduceAdd, Nat.reduceSub, Nat.reduceMul, Nat.reduceLT, Nat.reduceLeDiff, Nat.reduceBEq, Nat.reduceBNe, Nat.reduceGT, Int.reduceEq, Int.reduceLT, Int.reduceLE, Int.reduceToNat, Int.reduceAdd, Int.reduceSub, Int.reduceMul, Int.reduceNeg, Int.reduceBEq, Int.reduceBNe, b_fuglemanref12_Right, gs_fuglemanref12_Right, hr, hw, Ins.c, o1, o2, o3, o4, o5, o6, o7, o8, o9, oa, p3, p4, t1, t2, n1]
  cases n2 : decide (i.n ≤ 9999)
  · simp -implicitDefEqProofs only [eqs, eqd, eqe, lh_some, ↓reduceIte, reduceCtorEq, Nat.reduceEqDiff, Nat.reduceAdd, Nat.reduceSub, Nat.reduceMul, Nat.reduceLT, Nat.reduceLeDiff, Nat.reduceBEq, Nat.reduceBNe, Nat.reduceGT, Int.reduceEq, Int.reduceLT, Int.reduceLE, Int.reduceToNat, Int.reduceAdd, Int.reduceSub, Int.reduceMul, Int.reduceNeg, Int.reduceBEq, Int.reduceBNe, b_fuglemanref12_Right, gs_fuglemanref12_Right, hr, hw, Ins.c, o1, o2, o3, o4, o5, o6, o7, o8, o9, oa, p3, p4, t1, t2, n1, n2]
  try simp -implicitDefEqProofs only [eqs, eqd, eqe, lh_some, ↓reduceIte, reduceCtorEq, Nat.reduceEqDiff, Nat.reduceAdd, Nat.reduceSub, Nat.reduceMul, Nat.reduceLT, Nat.reduceLeDiff, Nat.reduceBEq, Nat.reduceBNe, Nat.reduceGT, Int.reduceEq, Int.reduceLT, Int.reduceLE, Int.reduceToNat, Int.reduceAdd, Int.reduceSub, Int.reduceMul, Int.reduceNeg, Int.reduceBEq, Int.reduceBNe, b_fuglemanref12_Right, gs_fuglemanref12_Right, hr, hw, Ins.c, o1, o2, o3, o4, o5, o6, o7, o8, o9, oa, p3, p4, t1, t2, n1, n2]
  cases k0 : (i.k == 0)
  · simp -implicitDefEqProofs only [eqs, eqd, eqe, lh_some, ↓reduceIte, reduceCtorEq, Nat.reduceEqDiff, Nat.reduceAdd, Nat.reduceSub, Nat.reduceMul, Nat.reduceLT, Nat.reduceLeDiff, Nat.reduceBEq, Nat.reduceBNe, Nat.reduceGT, Int.reduceEq, Int.reduceLT, Int.reduceLE, Int.reduceToNat, Int.reduceAdd, Int.reduceSub, Int.reduceMul, Int.reduceNeg, Int.reduceBEq, Int.reduceBNe, b_fuglemanref12_Right, gs_fuglemanref12_Right, hr, hw, Ins.c, o1, o2, o3, o4, o5, o6, o7, o8, o9, oa, p3, p4, t1, t2, n1, n2, k0]
  simp -implicitDefEqProofs only [eqs, eqd, eqe, lh_some, ↓reduceIte, reduceCtorEq, Nat.reduceEqDiff, Nat.reduceAdd, Nat.reduceSub, Nat.reduceMul, Nat.reduceLT, Nat.reduceLeDiff, Nat.reduceBEq, Nat.reduceBNe, Nat.reduceGT, Int.reduceEq, Int.reduceLT, Int.reduceLE, Int.reduceToNat, Int.reduceAdd, Int.reduceSub, Int.reduceMul, Int.reduceNeg, Int.reduceBEq, Int.reduceBNe, b_fuglemanref12_Right, gs_fuglemanref12_Right, hr, hw, Ins.c, o1, o2, o3, o4, o5, o6, o7, o8, o9, oa, p3, p4, t1, t2, n1, n2, k0]
theorem rright_7bz (k : Nat) (i : Ins) (hi : i.In) (hcl : cl i.op = 7) (ho : i.op = 35) (p3 : (i.ar == 3) = false) (p4 : (i.ar == 4) = false) : acall T (k + 11) 55 0 [.agg i.c] [] = some ⟨.v (.bool (right i)), [], 1⟩ := by
  rw [acall_go (body := b_fuglemanref12_Right) rfl rfl (Nat.zero_le _)]
  have hr := reads_a (k + 9) i.op
  have hw := writes_a (k + 9) i.op
  have w0 : (decide (3 ≤ i.op) && decide (i.op ≤ 6)) = false := by
    by_cases c1 : 3 ≤ i.op <;> by_cases c2 : i.op ≤ 6 <;> simp [c1, c2]
    omega
  rw [w0] at hw
  rw [rd1_cl, hcl, show ((7 : Int) == 1) = false from rfl] at hr
  unfold right
  rw [hcl]
  simp only [Int.reduceEq, if_true, if_false]
  have o1 : 25 ≤ i.op := by first | omega | (rw [beq_eq_false_iff_ne]; omega) | (rw [beq_iff_eq]; omega)
  have o2 : ¬ i.op ≤ 27 := by first | omega | (rw [beq_eq_false_iff_ne]; omega) | (rw [beq_iff_eq]; omega)
  have o3 : (i.op == 13) = false := by first | omega | (rw [beq_eq_false_iff_ne]; omega) | (rw [beq_iff_eq]; omega)
  have o4 : 28 ≤ i.op := by first | omega | (rw [beq_eq_false_iff_ne]; omega) | (rw [beq_iff_eq]; omega)
  have o5 : ¬ i.op ≤ 30 := by first | omega | (rw [beq_eq_false_iff_ne]; omega) | (rw [beq_iff_eq]; omega)
  have o6 : (i.op == 33) = false := by first | omega | (rw [beq_eq_false_iff_ne]; omega) | (rw [beq_iff_eq]; omega)
  have o7 : (i.op == 31) = false := by first | omega | (rw [beq_eq_false_iff_ne]; omega) | (rw [beq_iff_eq]; omega)
  have o8 : (i.op == 32) = false := by first | omega | (rw [beq_eq_false_iff_ne]; omega) | (rw [beq_iff_eq]; omega)
  have o9 : (i.op == 34) = false := by first | omega | (rw [beq_eq_false_iff_ne]; omega) | (rw [beq_iff_eq]; omega)
  have oa : (i.op == 35) = true := by first | omega | (rw [beq_eq_false_iff_ne]; omega) | (rw [beq_iff_eq]; omega)
  simp -implicitDefEqProofs only [eqs, eqd, eqe, lh_some, ↓reduceIte, reduceCtorEq, Nat.reduceEqDiff, Nat.reduceAdd, Nat.reduceSub, Nat.reduceMul, Nat.reduceLT, Nat.reduceLeDiff, Nat.reduceBEq, Nat.reduceBNe, Nat.reduceGT, Int.reduceEq, Int.reduceLT, Int.reduceLE, Int.reduceToNat, Int.reduceAdd, Int.reduceSub, Int.reduceMul, Int.reduceNeg, Int.reduceBEq, Int.reduceBNe, b_fuglemanref12_Right, gs_fuglemanref12_Right, hr, hw, Ins.c, o1, o2, o3, o4, o5, o6, o7, o8, o9, oa, p3, p4]
theorem rright_0a (k : Nat) (i : Ins) (hi : i.In) (hcl : cl i.op = 0) (ho : 36 < i.op) : acall T (k + 11) 55 0 [.agg i.c] [] = some ⟨.v (.bool (right i)), [], 1⟩ := by
  rw [acall_go (body := b_fuglemanref12_Right) rfl rfl (Nat.zero_le _)]
  have hr := reads_a (k + 9) i.op
  have hw := writes_a (k + 9) i.op
  have w0 : (decide (3 ≤ i.op) && decide (i.op ≤ 6)) = false := by
    by_cases c1 : 3 ≤ i.op <;> by_cases c2 : i.op ≤ 6 <;> simp [c1, c2]
    omega
  rw [w0] at hw
  rw [rd1_cl, hcl, show ((0 : Int) == 1) = false from rfl] at hr
  unfold right
  rw [hcl]
  simp only [Int.reduceEq, if_true, if_false]
  have o1 : 25 ≤ i.op := by first | omega | (rw [beq_eq_false_iff_ne]; omega) | (rw [beq_iff_eq]; omega)
  have o2 : ¬ i.op ≤ 27 := by first | omega | (rw [beq_eq_false_iff_ne]; omega) | (rw [beq_iff_eq]; omega)
  have o3 : (i.op == 13) = false := by first | omega | (rw [beq_eq_false_iff_ne]; omega) | (rw [beq_iff_eq]; omega)
  have o4 : 28 ≤ i.op := by first | omega | (rw [beq_eq_false_iff_ne]; omega) | (rw [beq_iff_eq]; omega)
  have o5 : ¬ i.op ≤ 30 := by first | omega | (rw [beq_eq_false_iff_ne]; omega) | (rw [beq_iff_eq]; omega)
  have o6 : (i.op == 33) = false := by first | omega | (rw [beq_eq_false_iff_ne]; omega) | (rw [beq_iff_eq]; omega)
  have o7 : (i.op == 31) = false := by first | omega | (rw [beq_eq_false_iff_ne]; omega) | (rw [beq_iff_eq]; omega)
  have o8 : (i.op == 32) = false := by first | omega | (rw [beq_eq_false_iff_ne]; omega) | (rw [beq_iff_eq]; omega)
  have o9 : (i.op == 34) = false := by first | omega | (rw [beq_eq_false_iff_ne]; omega) | (rw [beq_iff_eq]; omega)
  have oa : (i.op == 35) = false := by first | omega | (rw [beq_eq_false_iff_ne]; omega) | (rw [beq_iff_eq]; omega)
  have ob : (i.op == 36) = false := by first | omega | (rw [beq_eq_false_iff_ne]; omega) | (rw [beq_iff_eq]; omega)
  simp -implicitDefEqProofs only [eqs, eqd, eqe, lh_some, ↓reduceIte, reduceCtorEq, Nat.reduceEqDiff, Nat.reduceAdd, Nat.reduceSub, Nat.reduceMul, Nat.reduceLT, Nat.reduceLeDiff, Nat.reduceBEq, Nat.reduceBNe, Nat.reduceGT, Int.reduceEq, Int.reduceLT, Int.reduceLE, Int.reduceToNat, Int.reduceAdd, Int.reduceSub, Int.reduceMul, Int.reduceNeg, Int.reduceBEq, Int.reduceBNe, b_fuglemanref12_Right, gs_fuglemanref12_Right, hr, hw, Ins.c, o1, o2, o3, o4, o5, o6, o7, o8, o9, oa, ob]
theorem rright_0b (k : Nat) (i : Ins) (hi : i.In) (hcl : cl i.op = 0) (ho : i.op < 1) : acall T (k + 11) 55 0 [.agg i.c] [] = some ⟨.v (.bool (right i)), [], 1⟩ := by
  rw [acall_go (body := b_fuglemanref12_Right) rfl rfl (Nat.zero_le _)]
  have hr := reads_a (k + 9) i.op
  have hw := writes_a (k + 9) i.op
  have w0 : (decide (3 ≤ i.op) && decide (i.op ≤ 6)) = false := by
    by_cases c1 : 3 ≤ i.op <;> by_cases c2 : i.op ≤ 6 <;> simp [c1, c2]
    omega
  rw [w0] at hw
  rw [rd1_cl, hcl, show ((0 : Int) == 1) = false from rfl] at hr
  unfold right
  rw [hcl]
  simp only [Int.reduceEq, if_true, if_false]
  have o1 : ¬ 25 ≤ i.op := by first | omega | (rw [beq_eq_false_iff_ne]; omega) | (rw [beq_iff_eq]; omega)
  have o3 : (i.op == 13) = false := by first | omega | (rw [beq_eq_false_iff_ne]; omega) | (rw [beq_iff_eq]; omega)
  have o4 : ¬ 28 ≤ i.op := by first | omega | (rw [beq_eq_false_iff_ne]; omega) | (rw [beq_iff_eq]; omega)
  have o6 : (i.op == 33) = false := by first | omega | (rw [beq_eq_false_iff_ne]; omega) | (rw [beq_iff_eq]; omega)
  have o7 : (i.op == 31) = false := by first | omega | (rw [beq_eq_false_iff_ne]; omega) | (rw [beq_iff_eq]; omega)
  have o8 : (i.op == 32) = false := by first | omega | (rw [beq_eq_false_iff_ne]; omega) | (rw [beq_iff_eq]; omega)
  have o9 : (i.op == 34) = false := by first | omega | (rw [beq_eq_false_iff_ne]; omega) | (rw [beq_iff_eq]; omega)
  have oa : (i.op == 35) = false := by first | omega | (rw [beq_eq_false_iff_ne]; omega) | (rw [beq_iff_eq]; omega)
  have ob : (i.op == 36) = false := by first | omega | (rw [beq_eq_false_iff_ne]; omega) | (rw [beq_iff_eq]; omega)
  simp -implicitDefEqProofs only [eqs, eqd, eqe, lh_some, ↓reduceIte, reduceCtorEq, Nat.reduceEqDiff, Nat.reduceAdd, Nat.reduceSub, Nat.reduceMul, Nat.reduceLT, Nat.reduceLeDiff, Nat.reduceBEq, Nat.reduceBNe, Nat.reduceGT, Int.reduceEq, Int.reduceLT, Int.reduceLE, Int.reduceToNat, Int.reduceAdd, Int.reduceSub, Int.reduceMul, Int.reduceNeg, Int.reduceBEq, Int.reduceBNe, b_fuglemanref12_Right, gs_fuglemanref12_Right, hr, hw, Ins.c, o1, o3, o4, o6, o7, o8, o9, oa, ob]
theorem cl_in (op : Int) : (cl op = 0 ∧ (op < 1 ∨ 36 < op)) ∨ (cl op = 1) ∨ (cl op = 2) ∨ (cl op = 3 ∧ 25 ≤ op ∧ op ≤ 27) ∨ (cl op = 4 ∧ (op = 13 ∨ (28 ≤ op ∧ op ≤ 30) ∨ op = 33)) ∨ (cl op = 5 ∧ op = 31) ∨ (cl op = 6 ∧ op = 32) ∨ (cl op = 7 ∧ (op = 34 ∨ op = 35)) ∨ (cl op = 8 ∧ op = 36) := by
  unfold cl
  repeat' split
  all_goals omega
theorem rright_a (k : Nat) (i : Ins) (hi : i.In) : acall T (k + 11) 55 0 [.agg i.c] [] = some ⟨.v (.bool (right i)), [], 1⟩ := by
  rcases cl_in i.op with ⟨h, h' | h'⟩ | h | h | ⟨h, h'⟩ | ⟨h, h' | h' | h'⟩ | ⟨h, h'⟩ | ⟨h, h'⟩ | ⟨h, h' | h'⟩ | ⟨h, h'⟩
  · exact rright_0b k i hi h h'
  · exact rright_0a k i hi h h'
  · exact rright_1 k i hi h
  · exact rright_2 k i hi h
  · exact rright_3 k i hi h h'
  · exact rright_4a k i hi h h'
  · exact rright_4b k i hi h h'
  · exact rright_4c k i hi h h'
  · exact rright_5 k i hi h h'
  · exact rright_6 k i hi h h'
  all_goals (cases p3 : (i.ar == 3)
             case true => first | exact rright_7ax k i hi h h' p3 | exact rright_7bx k i hi h h' p3 | exact rright_8x k i hi h h' p3
             cases p4 : (i.ar == 4) <;> first | exact rright_7ay k i hi h h' p3 p4 | exact rright_7az k i hi h h' p3 p4 | exact rright_7by k i hi h h' p3 p4 | exact rright_7bz k i hi h h' p3 p4 | exact rright_8y k i hi h h' p3 p4 | exact rright_8z k i hi h h' p3 p4)
end Go.Proofs.Ytcfokbhmchcgbaa.Ver
