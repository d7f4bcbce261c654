/- Where blocks may lie: the program's. -/
import Derived.Test.YtcfokbhmchcgbaaMg9bffb2aa
import Derived.Test.YtcfokbhmchcgbaaMg28c758ef
namespace Go.Proofs.Ytcfokbhmchcgbaa.Cfg
open Go Go.Proofs.Ytcfokbhmchcgbaa.Sym Go.Proofs.Ytcfokbhmchcgbaa.Tab Go.Proofs.Ytcfokbhmchcgbaa.Args
set_option linter.unusedVariables false
set_option linter.unusedSimpArgs false
set_option maxHeartbeats 4000000
set_option maxRecDepth 20000
def msk (at_ n : Int) : Int := if 64 ≤ n then IntKind.u64.wrap (18446744073709551615 * 2 ^ min at_.toNat IntKind.u64.bits) else IntKind.u64.wrap (IntKind.u64.wrap (IntKind.u64.wrap (1 * 2 ^ min n.toNat IntKind.u64.bits) - 1) * 2 ^ min at_.toNat IntKind.u64.bits)
theorem mask_a (k : Nat) (at_ n : Int) (h0 : 0 ≤ at_) (h1 : 0 ≤ n) : acall T (k + 1) 52 0 [.v (.int .i64 at_), .v (.int .i64 n)] [] = some ⟨.v (.int .u64 (msk at_ n)), [], 0⟩ := by
  rw [acall_go (body := b_image_mask) rfl rfl (Nat.zero_le _)]
  have c0 : ¬ at_ < 0 := by omega
  have c1 : ¬ n < 0 := by omega
  unfold msk
  by_cases c : 64 ≤ n
  · rw [if_pos c]
    simp -implicitDefEqProofs only [eqs, eqd, eqe, lh_some, ↓reduceIte, reduceCtorEq, Nat.reduceEqDiff, Nat.reduceAdd, Nat.reduceSub, Nat.reduceMul, Nat.reduceLT, Nat.reduceLeDiff, Nat.reduceBEq, Nat.reduceBNe, Nat.reduceGT, Int.reduceEq, Int.reduceLT, Int.reduceLE, Int.reduceToNat, Int.reduceAdd, Int.reduceSub, Int.reduceMul, Int.reduceNeg, Int.reduceBEq, Int.reduceBNe, b_image_mask, c, c0]
  · rw [if_neg c]
    simp -implicitDefEqProofs only [eqs, eqd, eqe, lh_some, ↓reduceIte, reduceCtorEq, Nat.reduceEqDiff, Nat.reduceAdd, Nat.reduceSub, Nat.reduceMul, Nat.reduceLT, Nat.reduceLeDiff, Nat.reduceBEq, Nat.reduceBNe, Nat.reduceGT, Int.reduceEq, Int.reduceLT, Int.reduceLE, Int.reduceToNat, Int.reduceAdd, Int.reduceSub, Int.reduceMul, Int.reduceNeg, Int.reduceBEq, Int.reduceBNe, b_image_mask, c, c0, c1]
/-! plain -/
abbrev B64 (x : Int) : BitVec 64 := BitVec.ofInt 64 x
theorem u64w (x : Int) (h : 0 ≤ x ∧ x < 18446744073709551616) : IntKind.u64.wrap x = x := wu64 h.1 (by omega)
theorem p2c (n : Nat) : ((2 : Int) ^ n) = ((2 ^ n : Nat) : Int) := by rw [Int.natCast_pow]; rfl
theorem msk_nat (a n : Nat) (h : a + n ≤ 64) : msk a n = (((2 ^ n - 1) * 2 ^ a : Nat) : Int) ∧ (2 ^ n - 1) * 2 ^ a < 18446744073709551616 := by
  have hb : (2 ^ n - 1) * 2 ^ a < 18446744073709551616 := by
    have h1 : (2 ^ n - 1) * 2 ^ a < 2 ^ n * 2 ^ a := Nat.mul_lt_mul_of_pos_right (Nat.sub_lt (Nat.two_pow_pos n) (by decide)) (Nat.two_pow_pos a)
    have h2 : 2 ^ n * 2 ^ a ≤ 2 ^ 64 := by rw [← Nat.pow_add]; exact Nat.pow_le_pow_right (by decide) (by omega)
    have h3 : (2 : Nat) ^ 64 = 18446744073709551616 := by decide
    omega
  refine ⟨?_, hb⟩
  unfold msk
  have ea : min (a : Int).toNat IntKind.u64.bits = a := by rw [Int.toNat_natCast]; exact Nat.min_eq_left (by show a ≤ 64; omega)
  by_cases c : (64 : Int) ≤ n
  · have hn : n = 64 := by omega
    have ha : a = 0 := by omega
    subst hn
    subst ha
    rw [if_pos c]
    rfl
  · rw [if_neg c, ea]
    have en : min (n : Int).toNat IntKind.u64.bits = n := by rw [Int.toNat_natCast]; exact Nat.min_eq_left (by show n ≤ 64; omega)
    have hp : 2 ^ n < 18446744073709551616 := by
      have h2 : 2 ^ n < 2 ^ 64 := Nat.pow_lt_pow_right (by decide) (by omega)
      have h3 : (2 : Nat) ^ 64 = 18446744073709551616 := by decide
      omega
    have hpos : 0 < 2 ^ n := Nat.two_pow_pos n
    rw [en, Int.one_mul, p2c, p2c]
    generalize 2 ^ n = x at *
    generalize 2 ^ a = y at *
    rw [u64w (x : Int) (by omega), u64w ((x : Int) - 1) (by omega), show ((x : Int) - 1) = ((x - 1 : Nat) : Int) by omega, ← Int.natCast_mul]
    generalize (x - 1) * y = z at *
    exact u64w (z : Int) (by omega)
theorem b64_nat (x : Nat) (h : x < 18446744073709551616) : B64 (x : Int) = BitVec.ofNat 64 x := by
  apply BitVec.eq_of_toNat_eq
  rw [BitVec.toNat_ofInt, BitVec.toNat_ofNat]
  omega
theorem msk_bit (a n k : Nat) (h : a + n ≤ 64) (hk : k < 64) : (B64 (msk a n)).getLsbD k = (decide (a ≤ k) && decide (k < a + n)) := by
  obtain ⟨e, hb⟩ := msk_nat a n h
  rw [e, b64_nat _ hb, BitVec.getLsbD_ofNat, Nat.testBit_mul_two_pow, Nat.testBit_two_pow_sub_one]
  by_cases c : a ≤ k
  · by_cases d : k < a + n
    · simp [hk, c, d]; omega
    · simp [hk, c, d]; omega
  · simp [c]
def setN : List Bool → Nat → Nat → List Bool
  | U, 0, _ => U
  | U, m + 1, k => setN (U.set k true) m (k + 1)
def hitN (U : List Bool) : Nat → Nat → Bool
  | 0, _ => false
  | m + 1, k => U.getD k false || hitN U m (k + 1)
theorem setN_len : ∀ (m k : Nat) (U : List Bool), (setN U m k).length = U.length
  | 0, k, U => rfl
  | m + 1, k, U => by rw [setN, setN_len m, List.length_set]
theorem setN_get : ∀ (m k : Nat) (U : List Bool) (j : Nat), j < U.length → (setN U m k).getD j false = (U.getD j false || (decide (k ≤ j) && decide (j < k + m)))
  | 0, k, U, j, h => by
    rw [setN]
    have : (decide (k ≤ j) && decide (j < k + 0)) = false := by
      cases e : (decide (k ≤ j) && decide (j < k + 0))
      · rfl
      · rw [Bool.and_eq_true, decide_eq_true_eq, decide_eq_true_eq] at e; omega
    rw [this, Bool.or_false]
  | m + 1, k, U, j, h => by
    rw [setN, setN_get m (k + 1) _ j (by rw [List.length_set]; exact h), List.getD_eq_getElem?_getD, List.getD_eq_getElem?_getD, List.getElem?_set]
    by_cases c : k = j
    · subst c
      rw [if_pos rfl, if_pos h]
      simp
    · rw [if_neg c]
      congr 1
      by_cases d1 : k ≤ j
      · by_cases d2 : j < k + (m + 1)
        · have a1 : k + 1 ≤ j := by omega
          have a2 : j < k + 1 + m := by omega
          simp [d1, d2, a1, a2]
        · have a2 : ¬ j < k + 1 + m := by omega
          simp [d2, a2]
      · have a1 : ¬ k + 1 ≤ j := by omega
        simp [d1, a1]
theorem hitN_iff (U : List Bool) : ∀ (m k : Nat), hitN U m k = true ↔ ∃ j, k ≤ j ∧ j < k + m ∧ U.getD j false = true
  | 0, k => ⟨fun h => (by cases h), fun ⟨j, h1, h2, _⟩ => (by omega)⟩
  | m + 1, k => by
    rw [hitN, Bool.or_eq_true, hitN_iff U m (k + 1)]
    constructor
    · rintro (h | ⟨j, h1, h2, h3⟩)
      · exact ⟨k, by omega, by omega, h⟩
      · exact ⟨j, by omega, by omega, h3⟩
    · rintro ⟨j, h1, h2, h3⟩
      by_cases c : j = k
      · subst c; exact Or.inl h3
      · exact Or.inr ⟨j, by omega, by omega, h3⟩
structure R64 (u : Int) (U : List Bool) : Prop where
  len : U.length = 64
  bit : ∀ k, k < 64 → (B64 u).getLsbD k = U.getD k false
def orU (a b : Int) : Int := bitsV .or .u64 a b
def anU (a b : Int) : Int := bitsV .and .u64 a b
theorem orU_eq (v m : Int) : orU v m = ((B64 v ||| B64 m).toNat : Int) := by
  have h : (B64 v ||| B64 m).toNat < 18446744073709551616 := (B64 v ||| B64 m).isLt
  show IntKind.u64.wrap ((B64 v ||| B64 m).toNat : Int) = _
  exact wu64 (by omega) (by omega)
theorem anU_eq (v m : Int) : anU v m = ((B64 v &&& B64 m).toNat : Int) := by
  have h : (B64 v &&& B64 m).toNat < 18446744073709551616 := (B64 v &&& B64 m).isLt
  show IntKind.u64.wrap ((B64 v &&& B64 m).toNat : Int) = _
  exact wu64 (by omega) (by omega)
theorem b64_val (b : BitVec 64) : B64 (b.toNat : Int) = b := by
  apply BitVec.eq_of_toNat_eq
  have h : b.toNat < 2 ^ 64 := b.isLt
  rw [BitVec.toNat_ofInt]
  omega
theorem R64.or {u : Int} {U : List Bool} (h : R64 u U) (a n : Nat) (hn : a + n ≤ 64) : R64 (orU u (msk a n)) (setN U n a) where
  len := by rw [setN_len, h.len]
  bit := fun k hk => by
    rw [orU_eq, b64_val, BitVec.getLsbD_or, h.bit k hk, msk_bit a n k hn hk, setN_get n a U k (by rw [h.len]; exact hk)]
theorem R64.and {u : Int} {U : List Bool} (h : R64 u U) (a n : Nat) (hn : a + n ≤ 64) : (anU u (msk a n) != 0) = hitN U n a := by
  rw [anU_eq]
  cases e : hitN U n a
  · have hz : B64 u &&& B64 (msk a n) = 0#64 := by
      apply BitVec.eq_of_getLsbD_eq
      intro i hi
      rw [BitVec.getLsbD_and, h.bit i hi, msk_bit a n i hn hi, BitVec.getLsbD_zero]
      cases q : U.getD i false
      · rfl
      · cases q2 : (decide (a ≤ i) && decide (i < a + n))
        · rfl
        · rw [Bool.and_eq_true, decide_eq_true_eq, decide_eq_true_eq] at q2
          have := (hitN_iff U n a).2 ⟨i, q2.1, q2.2, q⟩
          rw [e] at this
          cases this
    rw [hz]
    rfl
  · obtain ⟨j, h1, h2, h3⟩ := (hitN_iff U n a).1 e
    have hb : (B64 u &&& B64 (msk a n)).getLsbD j = true := by
      rw [BitVec.getLsbD_and, h.bit j (by omega), msk_bit a n j hn (by omega), h3]
      simp [h1, h2]
    have hne : (B64 u &&& B64 (msk a n)).toNat ≠ 0 := fun hc => by
      have : B64 u &&& B64 (msk a n) = 0#64 := BitVec.eq_of_toNat_eq (by rw [hc]; rfl)
      rw [this, BitVec.getLsbD_zero] at hb
      cases hb
    simp only [bne_iff_ne, ne_eq]
    omega
def szQ : Option Blk → Int
  | none => 0
  | some b => b.f2
def rB (B : List Blk) (s : Spt) : Option Blk := fnd (fun y => y.f0) s.f0 B B.length 0
def layF (ov : Bool) (B : List Blk) (P : List Spt) : Nat → Nat → List Bool → Int × Int
  | 0, _, _ => (0, 0)
  | m + 1, i, U => if h : i < P.length then
      (if spE B P i P[i] ≠ 0 then (spE B P i P[i], i) else if ov = true ∧ hitN U (szQ (rB B P[i])).toNat P[i].f1.toNat = true then (15, i) else layF ov B P m (i + 1) (setN U (szQ (rB B P[i])).toNat P[i].f1.toNat))
    else (0, 0)
theorem spE_0 {B : List Blk} {P : List Spt} {i : Nat} {s : Spt} (h : spE B P i s = 0) : ∃ b, rB B s = some b ∧ 0 ≤ s.f1 ∧ s.f1 ≤ 64 ∧ 0 ≤ b.f2 ∧ b.f2 ≤ 64 - s.f1 := by
  unfold spE at h
  unfold rB
  generalize fnd (fun y : Blk => y.f0) s.f0 B B.length 0 = r at *
  cases r with
  | none => simp at h
  | some b =>
    simp only at h
    split at h
    · simp at h
    · split at h
      · simp at h
      · rename_i _ hb
        unfold bad at hb
        simp only [Bool.or_eq_true, decide_eq_true_eq, not_or] at hb
        exact ⟨b, rfl, by omega, by omega, by omega, by omega⟩
def lyst (ov : Bool) (B : List Blk) (P : List Spt) (i : Nat) (u : Int) (d : Nat) : St := ⟨[(0, .v (.int .u64 u)), (1, .shr P.length false (P.flatMap S56.av)), (2, .shr B.length false (B.flatMap S63.av)), (3, .v (.bool ov)), (15, .shr P.length false (P.flatMap S56.av)), (16, .v (.int .i64 P.length)), (17, .v (.int .i64 i))], [], d, []⟩
noncomputable abbrev lyfin (C : CT) (lf : Nat) (s : St) (N : Nat) : Option Res := FnR [.t 8, .t 9] false false (Lh C lf (some s) [0, 1, 2, 3, 15, 16, 17] l_image_lay_0 N [.b 0, .c l_image_lay_1])
theorem lay_one (k : Nat) (hk : 250 ≤ k) (lf : Nat) (ov : Bool) (B : List Blk) (hB : B.length ≤ 250) (P : List Spt) (hP : P.length ≤ 250) (i : Nat) (hi : i < P.length) (u : Int) (d : Nat) (hd : d ≤ 1) (N : Nat) :
    (spE B P i P[i] ≠ 0 → lyfin (acall T (k + 5)) lf (lyst ov B P i u d) (N + 1) = some ⟨rE (spE B P i P[i], i), [], 1⟩) ∧
    (spE B P i P[i] = 0 → (ov && (anU u (msk P[i].f1 (szQ (rB B P[i]))) != 0)) = true → lyfin (acall T (k + 5)) lf (lyst ov B P i u d) (N + 1) = some ⟨rE (15, i), [], 1⟩) ∧
    (spE B P i P[i] = 0 → (ov && (anU u (msk P[i].f1 (szQ (rB B P[i]))) != 0)) = false → lyfin (acall T (k + 5)) lf (lyst ov B P i u d) (N + 1) = lyfin (acall T (k + 5)) lf (lyst ov B P (i + 1) (orU u (msk P[i].f1 (szQ (rB B P[i])))) 1) N) := by
  have c1 : (i : Int) < P.length := by omega
  have c0 : (0 : Int) ≤ i := by omega
  have w1 : IntKind.i64.wrap ((i : Int) + 1) = i + 1 := w64 (by omega) (by omega)
  have h5 := chunk S56.av 2 spt_len P i hi
  have l5 : i * 2 + 2 ≤ P.length * 2 := by omega
  have hl := chunk_len S56.av 2 spt_len P
  have hs := spot_a k hk B hB P hP i hi
  have hz := @spE_0 B P i P[i]
  have hdd : d = 0 ∨ d = 1 := by omega
  unfold rB at hz ⊢
  unfold lyfin lyst rE orU anU
  rw [lh_as l_image_lay_0.eq_1]
  generalize spE B P i P[i] = e at *
  generalize fnd (fun y : Blk => y.f0) P[i].f0 B B.length 0 = r at *
  generalize P[i] = y at *
  generalize P.flatMap S56.av = cs at *
  generalize P.length = n at *
  generalize B.flatMap S63.av = bs at *
  generalize B.length = nb at *
  refine ⟨fun he => ?_, fun he hh => ?_, fun he hh => ?_⟩
  · have he' : (e != 0) = true := by simpa using he
    clear hz
    cases r with
    | none =>
      simp only [blkO] at hs
      rcases hdd with rfl | rfl
      · simp -implicitDefEqProofs only [eqs, eqd, eqe, ↓reduceIte, reduceCtorEq, Nat.reduceEqDiff, Nat.reduceAdd, Nat.reduceSub, Nat.reduceMul, Nat.reduceLT, Nat.reduceLeDiff, Nat.reduceBEq, Nat.reduceBNe, Nat.reduceGT, Int.reduceEq, Int.reduceLT, Int.reduceLE, Int.reduceToNat, Int.reduceAdd, Int.reduceSub, Int.reduceMul, Int.reduceNeg, Int.reduceBEq, Int.reduceBNe, nx_nil, S56.av, c0, c1, w1, h5, l5, hl, hs, Int.toNat_natCast, Int.natCast_add, he']
      · simp -implicitDefEqProofs only [eqs, eqd, eqe, ↓reduceIte, reduceCtorEq, Nat.reduceEqDiff, Nat.reduceAdd, Nat.reduceSub, Nat.reduceMul, Nat.reduceLT, Nat.reduceLeDiff, Nat.reduceBEq, Nat.reduceBNe, Nat.reduceGT, Int.reduceEq, Int.reduceLT, Int.reduceLE, Int.reduceToNat, Int.reduceAdd, Int.reduceSub, Int.reduceMul, Int.reduceNeg, Int.reduceBEq, Int.reduceBNe, nx_nil, S56.av, c0, c1, w1, h5, l5, hl, hs, Int.toNat_natCast, Int.natCast_add, he']
    | some b =>
      simp only [blkO, S63.av] at hs
      rcases hdd with rfl | rfl
      · simp -implicitDefEqProofs only [eqs, eqd, eqe, ↓reduceIte, reduceCtorEq, Nat.reduceEqDiff, Nat.reduceAdd, Nat.reduceSub, Nat.reduceMul, Nat.reduceLT, Nat.reduceLeDiff, Nat.reduceBEq, Nat.reduceBNe, Nat.reduceGT, Int.reduceEq, Int.reduceLT, Int.reduceLE, Int.reduceToNat, Int.reduceAdd, Int.reduceSub, Int.reduceMul, Int.reduceNeg, Int.reduceBEq, Int.reduceBNe, nx_nil, S56.av, c0, c1, w1, h5, l5, hl, hs, Int.toNat_natCast, Int.natCast_add, he']
      · simp -implicitDefEqProofs only [eqs, eqd, eqe, ↓reduceIte, reduceCtorEq, Nat.reduceEqDiff, Nat.reduceAdd, Nat.reduceSub, Nat.reduceMul, Nat.reduceLT, Nat.reduceLeDiff, Nat.reduceBEq, Nat.reduceBNe, Nat.reduceGT, Int.reduceEq, Int.reduceLT, Int.reduceLE, Int.reduceToNat, Int.reduceAdd, Int.reduceSub, Int.reduceMul, Int.reduceNeg, Int.reduceBEq, Int.reduceBNe, nx_nil, S56.av, c0, c1, w1, h5, l5, hl, hs, Int.toNat_natCast, Int.natCast_add, he']
  · obtain ⟨b, rfl, z1, z2, z3, z4⟩ := hz he
    subst he
    have hm := mask_a (k + 4) y.f1 b.f2 z1 z3
    simp only [blkO, S63.av] at hs
    simp only [szQ] at hh ⊢
    generalize msk y.f1 b.f2 = m at *
    rw [Bool.and_eq_true] at hh
    obtain ⟨rfl, hh⟩ := hh
    rcases hdd with rfl | rfl
    · simp -implicitDefEqProofs only [eqs, eqd, eqe, ↓reduceIte, reduceCtorEq, Nat.reduceEqDiff, Nat.reduceAdd, Nat.reduceSub, Nat.reduceMul, Nat.reduceLT, Nat.reduceLeDiff, Nat.reduceBEq, Nat.reduceBNe, Nat.reduceGT, Int.reduceEq, Int.reduceLT, Int.reduceLE, Int.reduceToNat, Int.reduceAdd, Int.reduceSub, Int.reduceMul, Int.reduceNeg, Int.reduceBEq, Int.reduceBNe, nx_nil, S56.av, c0, c1, w1, h5, l5, hl, hs, Int.toNat_natCast, Int.natCast_add, hm, hh]
    · simp -implicitDefEqProofs only [eqs, eqd, eqe, ↓reduceIte, reduceCtorEq, Nat.reduceEqDiff, Nat.reduceAdd, Nat.reduceSub, Nat.reduceMul, Nat.reduceLT, Nat.reduceLeDiff, Nat.reduceBEq, Nat.reduceBNe, Nat.reduceGT, Int.reduceEq, Int.reduceLT, Int.reduceLE, Int.reduceToNat, Int.reduceAdd, Int.reduceSub, Int.reduceMul, Int.reduceNeg, Int.reduceBEq, Int.reduceBNe, nx_nil, S56.av, c0, c1, w1, h5, l5, hl, hs, Int.toNat_natCast, Int.natCast_add, hm, hh]
  · obtain ⟨b, rfl, z1, z2, z3, z4⟩ := hz he
    subst he
    have hm := mask_a (k + 4) y.f1 b.f2 z1 z3
    simp only [blkO, S63.av] at hs
    simp only [szQ] at hh ⊢
    generalize msk y.f1 b.f2 = m at *
    cases ov
    · rcases hdd with rfl | rfl
      · simp -implicitDefEqProofs only [eqs, eqd, eqe, ↓reduceIte, reduceCtorEq, Nat.reduceEqDiff, Nat.reduceAdd, Nat.reduceSub, Nat.reduceMul, Nat.reduceLT, Nat.reduceLeDiff, Nat.reduceBEq, Nat.reduceBNe, Nat.reduceGT, Int.reduceEq, Int.reduceLT, Int.reduceLE, Int.reduceToNat, Int.reduceAdd, Int.reduceSub, Int.reduceMul, Int.reduceNeg, Int.reduceBEq, Int.reduceBNe, nx_nil, S56.av, c0, c1, w1, h5, l5, hl, hs, Int.toNat_natCast, Int.natCast_add, hm]
      · simp -implicitDefEqProofs only [eqs, eqd, eqe, ↓reduceIte, reduceCtorEq, Nat.reduceEqDiff, Nat.reduceAdd, Nat.reduceSub, Nat.reduceMul, Nat.reduceLT, Nat.reduceLeDiff, Nat.reduceBEq, Nat.reduceBNe, Nat.reduceGT, Int.reduceEq, Int.reduceLT, Int.reduceLE, Int.reduceToNat, Int.reduceAdd, Int.reduceSub, Int.reduceMul, Int.reduceNeg, Int.reduceBEq, Int.reduceBNe, nx_nil, S56.av, c0, c1, w1, h5, l5, hl, hs, Int.toNat_natCast, Int.natCast_add, hm]
    · rw [Bool.true_and] at hh
      rcases hdd with rfl | rfl
      · simp -implicitDefEqProofs only [eqs, eqd, eqe, ↓reduceIte, reduceCtorEq, Nat.reduceEqDiff, Nat.reduceAdd, Nat.reduceSub, Nat.reduceMul, Nat.reduceLT, Nat.reduceLeDiff, Nat.reduceBEq, Nat.reduceBNe, Nat.reduceGT, Int.reduceEq, Int.reduceLT, Int.reduceLE, Int.reduceToNat, Int.reduceAdd, Int.reduceSub, Int.reduceMul, Int.reduceNeg, Int.reduceBEq, Int.reduceBNe, nx_nil, S56.av, c0, c1, w1, h5, l5, hl, hs, Int.toNat_natCast, Int.natCast_add, hm, hh]
      · simp -implicitDefEqProofs only [eqs, eqd, eqe, ↓reduceIte, reduceCtorEq, Nat.reduceEqDiff, Nat.reduceAdd, Nat.reduceSub, Nat.reduceMul, Nat.reduceLT, Nat.reduceLeDiff, Nat.reduceBEq, Nat.reduceBNe, Nat.reduceGT, Int.reduceEq, Int.reduceLT, Int.reduceLE, Int.reduceToNat, Int.reduceAdd, Int.reduceSub, Int.reduceMul, Int.reduceNeg, Int.reduceBEq, Int.reduceBNe, nx_nil, S56.av, c0, c1, w1, h5, l5, hl, hs, Int.toNat_natCast, Int.natCast_add, hm, hh]
theorem lay_end (C : CT) (lf : Nat) (ov : Bool) (B : List Blk) (P : List Spt) (u : Int) (d : Nat) (hd : d ≤ 1) (N : Nat) : lyfin C lf (lyst ov B P P.length u d) N = some ⟨rE (0, 0), [], d⟩ := by
  have c1 : ¬ (P.length : Int) < P.length := by omega
  have hdd : d = 0 ∨ d = 1 := by omega
  unfold lyfin lyst rE
  rw [lh_as l_image_lay_0.eq_1]
  generalize P.flatMap S56.av = cs at *
  generalize B.flatMap S63.av = bs at *
  rcases hdd with rfl | rfl
  · simp -implicitDefEqProofs only [eqs, eqd, eqe, ↓reduceIte, reduceCtorEq, Nat.reduceEqDiff, Nat.reduceAdd, Nat.reduceSub, Nat.reduceMul, Nat.reduceLT, Nat.reduceLeDiff, Nat.reduceBEq, Nat.reduceBNe, Nat.reduceGT, Int.reduceEq, Int.reduceLT, Int.reduceLE, Int.reduceToNat, Int.reduceAdd, Int.reduceSub, Int.reduceMul, Int.reduceNeg, Int.reduceBEq, Int.reduceBNe, nx_nil, l_image_lay_1, c1]
  · simp -implicitDefEqProofs only [eqs, eqd, eqe, ↓reduceIte, reduceCtorEq, Nat.reduceEqDiff, Nat.reduceAdd, Nat.reduceSub, Nat.reduceMul, Nat.reduceLT, Nat.reduceLeDiff, Nat.reduceBEq, Nat.reduceBNe, Nat.reduceGT, Int.reduceEq, Int.reduceLT, Int.reduceLE, Int.reduceToNat, Int.reduceAdd, Int.reduceSub, Int.reduceMul, Int.reduceNeg, Int.reduceBEq, Int.reduceBNe, nx_nil, l_image_lay_1, c1]
theorem lay_run (k : Nat) (hk : 250 ≤ k) (lf : Nat) (ov : Bool) (B : List Blk) (hB : B.length ≤ 250) (P : List Spt) (hP : P.length ≤ 250) : ∀ (m i N d : Nat) (u : Int) (U : List Bool), i + m = P.length → m ≤ N → d ≤ 1 → R64 u U → ∃ d', d' ≤ 1 ∧ lyfin (acall T (k + 5)) lf (lyst ov B P i u d) N = some ⟨rE (layF ov B P m i U), [], d'⟩
  | 0, i, N, d, u, U, hi, hN, hd, hR => by
    obtain rfl : i = P.length := by omega
    exact ⟨d, hd, lay_end _ lf ov B P u d hd N⟩
  | m + 1, i, N, d, u, U, hi, hN, hd, hR => by
    obtain ⟨N, rfl⟩ : ∃ M, N = M + 1 := ⟨N - 1, by omega⟩
    have h : i < P.length := by omega
    obtain ⟨k1, k2, k3⟩ := lay_one k hk lf ov B hB P hP i h u d hd N
    rw [layF, dif_pos h]
    by_cases e : spE B P i P[i] = 0
    · obtain ⟨b, z0, z1, z2, z3, z4⟩ := spE_0 e
      rw [z0] at k2 k3 ⊢
      obtain ⟨a, ha⟩ : ∃ a : Nat, P[i].f1 = a := ⟨P[i].f1.toNat, by omega⟩
      obtain ⟨n, hn'⟩ : ∃ n : Nat, b.f2 = n := ⟨b.f2.toNat, by omega⟩
      have hn : szQ (some b) = n := hn'
      rw [ha, hn] at k2 k3 ⊢
      rw [if_neg (by rw [e]; simp), Int.toNat_natCast, Int.toNat_natCast]
      have hand := hR.and a n (by omega)
      rw [hand] at k2 k3
      by_cases hh : ov = true ∧ hitN U n a = true
      · rw [if_pos hh]
        exact ⟨1, Nat.le_refl _, k2 e (by rw [hh.1, hh.2]; rfl)⟩
      · rw [if_neg hh, k3 e (by
          cases q1 : ov
          · rfl
          · cases q2 : hitN U n a
            · rfl
            · exact absurd ⟨q1, q2⟩ hh)]
        exact lay_run k hk lf ov B hB P hP m (i + 1) N 1 _ _ (by omega) (by omega) (Nat.le_refl _) (hR.or a n (by omega))
    · rw [if_pos e]
      exact ⟨1, Nat.le_refl _, k1 e⟩
theorem lay_a (k : Nat) (hk : 250 ≤ k) (ov : Bool) (B : List Blk) (hB : B.length ≤ 250) (P : List Spt) (hP : P.length ≤ 250) (u : Int) (U : List Bool) (hR : R64 u U) : ∃ d, d ≤ 1 ∧ acall T (k + 6) 51 0 [.v (.int .u64 u), .shr P.length false (P.flatMap S56.av), .shr B.length false (B.flatMap S63.av), .v (.bool ov)] [] = some ⟨rE (layF ov B P P.length 0 U), [], d⟩ := by
  obtain ⟨d, h1, h2⟩ := lay_run k hk (k + 5) ov B hB P hP P.length 0 (k + 4) 0 u U (by omega) (by omega) (by omega) hR
  refine ⟨d, h1, ?_⟩
  rw [acall_go (body := b_image_lay) rfl rfl (Nat.zero_le _), ← h2]
  clear h2
  have lp : ∀ (ks : List It) (s : St), Lp (acall T (k + 5)) (k + 5) [0, 1, 2, 3, 15, 16, 17] l_image_lay_0 (k + 5) ks s = Lh (acall T (k + 5)) (k + 5) (canon [0, 1, 2, 3, 15, 16, 17] s) [0, 1, 2, 3, 15, 16, 17] l_image_lay_0 (k + 4) ks := fun ks s => lp_succ (n := k + 4)
  unfold lyfin lyst
  generalize P.flatMap S56.av = cs at *
  generalize B.flatMap S63.av = bs at *
  simp -implicitDefEqProofs only [eqs, eqd, eqe, ↓reduceIte, reduceCtorEq, Nat.reduceEqDiff, Nat.reduceAdd, Nat.reduceSub, Nat.reduceMul, Nat.reduceLT, Nat.reduceLeDiff, Nat.reduceBEq, Nat.reduceBNe, Nat.reduceGT, Int.reduceEq, Int.reduceLT, Int.reduceLE, Int.reduceToNat, Int.reduceAdd, Int.reduceSub, Int.reduceMul, Int.reduceNeg, Int.reduceBEq, Int.reduceBNe, b_image_lay, lp, Int.natCast_zero]
/-- None is used. -/
def noU : List Bool := List.replicate 64 false
/-- The first ones are. -/
def ownU (l : Int) : List Bool := setN noU l.toNat 0
theorem r64_0 : R64 0 noU where
  len := rfl
  bit := fun k hk => by
    rw [show B64 0 = 0#64 from rfl, BitVec.getLsbD_zero]
    unfold noU
    rw [List.getD_eq_getElem?_getD, List.getElem?_replicate, if_pos hk]
    rfl
theorem r64_own (l : Int) (h : 0 ≤ l ∧ l ≤ 64) : R64 (msk 0 l) (ownU l) := by
  obtain ⟨n, rfl⟩ : ∃ n : Nat, l = n := ⟨l.toNat, by omega⟩
  have h1 := r64_0.or 0 n (by omega)
  have e : orU 0 (msk ((0 : Nat) : Int) n) = msk 0 n := by
    obtain ⟨e1, e2⟩ := msk_nat 0 n (by omega)
    rw [orU_eq, show B64 0 = 0#64 from rfl, BitVec.zero_or]
    show ((B64 (msk ((0 : Nat) : Int) n)).toNat : Int) = msk ((0 : Nat) : Int) n
    rw [e1, b64_nat _ e2, BitVec.toNat_ofNat]
    generalize (2 ^ n - 1) * 2 ^ 0 = z at *
    omega
  rw [e] at h1
  exact h1
def LayF (l : Int) (P : List Spt) (B : List Blk) : Int × Int := if l < 0 ∨ 64 < l then (2, -1) else layF true B P P.length 0 (ownU l)
def ReaF (P : List Spt) (B : List Blk) : Int × Int := layF false B P P.length 0 noU
theorem Lay_a (k : Nat) (hk : 250 ≤ k) (B : List Blk) (hB : B.length ≤ 250) (P : List Spt) (hP : P.length ≤ 250) (l : Int) : ∃ d, d ≤ 1 ∧ acall T (k + 7) 37 0 [.v (.int .i64 l), .shr P.length false (P.flatMap S56.av), .shr B.length false (B.flatMap S63.av)] [] = some ⟨rE (LayF l P B), [], d⟩ := by
  unfold LayF rE
  by_cases c : l < 0
  · rw [if_pos (Or.inl c)]
    refine ⟨0, by omega, ?_⟩
    rw [acall_go (body := b_image_Lay) rfl rfl (Nat.zero_le _)]
    simp -implicitDefEqProofs only [eqs, eqd, eqe, lh_some, ↓reduceIte, reduceCtorEq, Nat.reduceEqDiff, Nat.reduceAdd, Nat.reduceSub, Nat.reduceMul, Nat.reduceLT, Nat.reduceLeDiff, Nat.reduceBEq, Nat.reduceBNe, Nat.reduceGT, Int.reduceEq, Int.reduceLT, Int.reduceLE, Int.reduceToNat, Int.reduceAdd, Int.reduceSub, Int.reduceMul, Int.reduceNeg, Int.reduceBEq, Int.reduceBNe, b_image_Lay, c]
  by_cases c2 : 64 < l
  · rw [if_pos (Or.inr c2)]
    refine ⟨0, by omega, ?_⟩
    rw [acall_go (body := b_image_Lay) rfl rfl (Nat.zero_le _)]
    simp -implicitDefEqProofs only [eqs, eqd, eqe, lh_some, ↓reduceIte, reduceCtorEq, Nat.reduceEqDiff, Nat.reduceAdd, Nat.reduceSub, Nat.reduceMul, Nat.reduceLT, Nat.reduceLeDiff, Nat.reduceBEq, Nat.reduceBNe, Nat.reduceGT, Int.reduceEq, Int.reduceLT, Int.reduceLE, Int.reduceToNat, Int.reduceAdd, Int.reduceSub, Int.reduceMul, Int.reduceNeg, Int.reduceBEq, Int.reduceBNe, b_image_Lay, c, c2]
  rw [if_neg (by omega)]
  obtain ⟨d, h1, h2⟩ := lay_a k hk true B hB P hP _ _ (r64_own l ⟨by omega, by omega⟩)
  have hm := mask_a (k + 5) 0 l (Int.le_refl 0) (by omega)
  refine ⟨d, h1, ?_⟩
  rw [acall_go (body := b_image_Lay) rfl rfl (Nat.zero_le _)]
  have hdd : d = 0 ∨ d = 1 := by omega
  unfold rE at h2
  generalize P.flatMap S56.av = cs at *
  generalize B.flatMap S63.av = bs at *
  rcases hdd with rfl | rfl
  · simp -implicitDefEqProofs only [eqs, eqd, eqe, lh_some, ↓reduceIte, reduceCtorEq, Nat.reduceEqDiff, Nat.reduceAdd, Nat.reduceSub, Nat.reduceMul, Nat.reduceLT, Nat.reduceLeDiff, Nat.reduceBEq, Nat.reduceBNe, Nat.reduceGT, Int.reduceEq, Int.reduceLT, Int.reduceLE, Int.reduceToNat, Int.reduceAdd, Int.reduceSub, Int.reduceMul, Int.reduceNeg, Int.reduceBEq, Int.reduceBNe, b_image_Lay, c, c2, hm, h2]
  · simp -implicitDefEqProofs only [eqs, eqd, eqe, lh_some, ↓reduceIte, reduceCtorEq, Nat.reduceEqDiff, Nat.reduceAdd, Nat.reduceSub, Nat.reduceMul, Nat.reduceLT, Nat.reduceLeDiff, Nat.reduceBEq, Nat.reduceBNe, Nat.reduceGT, Int.reduceEq, Int.reduceLT, Int.reduceLE, Int.reduceToNat, Int.reduceAdd, Int.reduceSub, Int.reduceMul, Int.reduceNeg, Int.reduceBEq, Int.reduceBNe, b_image_Lay, c, c2, hm, h2]
theorem Reach_a (k : Nat) (hk : 250 ≤ k) (B : List Blk) (hB : B.length ≤ 250) (P : List Spt) (hP : P.length ≤ 250) : ∃ d, d ≤ 1 ∧ acall T (k + 7) 39 0 [.shr P.length false (P.flatMap S56.av), .shr B.length false (B.flatMap S63.av)] [] = some ⟨rE (ReaF P B), [], d⟩ := by
  obtain ⟨d, h1, h2⟩ := lay_a k hk false B hB P hP _ _ r64_0
  unfold ReaF rE
  refine ⟨d, h1, ?_⟩
  rw [acall_go (body := b_image_Reach) rfl rfl (Nat.zero_le _)]
  have hdd : d = 0 ∨ d = 1 := by omega
  unfold rE at h2
  generalize P.flatMap S56.av = cs at *
  generalize B.flatMap S63.av = bs at *
  rcases hdd with rfl | rfl
  · simp -implicitDefEqProofs only [eqs, eqd, eqe, lh_some, ↓reduceIte, reduceCtorEq, Nat.reduceEqDiff, Nat.reduceAdd, Nat.reduceSub, Nat.reduceMul, Nat.reduceLT, Nat.reduceLeDiff, Nat.reduceBEq, Nat.reduceBNe, Nat.reduceGT, Int.reduceEq, Int.reduceLT, Int.reduceLE, Int.reduceToNat, Int.reduceAdd, Int.reduceSub, Int.reduceMul, Int.reduceNeg, Int.reduceBEq, Int.reduceBNe, b_image_Reach, h2]
  · simp -implicitDefEqProofs only [eqs, eqd, eqe, lh_some, ↓reduceIte, reduceCtorEq, Nat.reduceEqDiff, Nat.reduceAdd, Nat.reduceSub, Nat.reduceMul, Nat.reduceLT, Nat.reduceLeDiff, Nat.reduceBEq, Nat.reduceBNe, Nat.reduceGT, Int.reduceEq, Int.reduceLT, Int.reduceLE, Int.reduceToNat, Int.reduceAdd, Int.reduceSub, Int.reduceMul, Int.reduceNeg, Int.reduceBEq, Int.reduceBNe, b_image_Reach, h2]
end Go.Proofs.Ytcfokbhmchcgbaa.Cfg

/- Where blocks may lie: the document's. -/
namespace Go.Proofs.Ytcfokbhmchcgbaa.Cfg
open Go Go.Proofs.Ytcfokbhmchcgbaa.Sym Go.Proofs.Ytcfokbhmchcgbaa.Tab Go.Proofs.Ytcfokbhmchcgbaa.Args
set_option linter.unusedVariables false
set_option linter.unusedSimpArgs false
set_option maxHeartbeats 4000000
set_option maxRecDepth 20000
def bl (U : List Bool) : List AV := U.map fun b => .v (.bool b)
abbrev kE : List It := [.b 2, .c l_fuglemanref19_Lay_7]
abbrev k5 (N : Nat) : List It := .b 6 :: .b 3 :: .c l_fuglemanref19_Lay_6 :: .l [1, 2, 3, 10, 12] l_fuglemanref19_Lay_2 (N + 1) :: kE
abbrev k3 (N : Nat) : List It := .b 4 :: .c l_fuglemanref19_Lay_4 :: .b 3 :: .c l_fuglemanref19_Lay_6 :: .l [1, 2, 3, 10, 12] l_fuglemanref19_Lay_2 (N + 1) :: kE
noncomputable abbrev f5 (C : CT) (lf : Nat) (s : St) (N1 N : Nat) : Option Res := FnR [.t 8, .t 9] false false (Lh C lf (some s) [1, 2, 3, 10, 12, 13, 16, 17] l_fuglemanref19_Lay_5 N1 (k5 N))
noncomputable abbrev f3 (C : CT) (lf : Nat) (s : St) (N1 N : Nat) : Option Res := FnR [.t 8, .t 9] false false (Lh C lf (some s) [1, 2, 3, 10, 12, 13, 15] l_fuglemanref19_Lay_3 N1 (k3 N))
/-! from the beginning -/
abbrev k0 : List It := [.b 0, .c l_fuglemanref19_Lay_1]
end Go.Proofs.Ytcfokbhmchcgbaa.Cfg

/- Kinds, operations: the functions of packages iec and il that verify needs, and the document's. -/
namespace Go.Proofs.Ytcfokbhmchcgbaa.Ver
open Go Go.Proofs.Ytcfokbhmchcgbaa.Sym Go.Proofs.Ytcfokbhmchcgbaa.Tab
set_option linter.unusedVariables false
set_option linter.unusedSimpArgs false
set_option maxHeartbeats 4000000
set_option maxRecDepth 20000
def kok (k : Int) : Bool := decide (1 ≤ k) && decide (k ≤ 7)
def ksz (k : Int) : Int := if k = 1 ∨ k = 2 then 1 else if k = 3 ∨ k = 5 ∨ k = 6 then 2 else if k = 4 ∨ k = 7 then 4 else 0
def kbt (k : Int) : Bool := k == 1 || k == 6 || k == 7
def ksg (k : Int) : Bool := k == 2 || k == 3 || k == 4
def kname (k : Int) : ByteArray := if k = 1 then ⟨#[66, 79, 79, 76]⟩ else if k = 2 then ⟨#[83, 73, 78, 84]⟩ else if k = 3 then ⟨#[73, 78, 84]⟩ else if k = 4 then ⟨#[68, 73, 78, 84]⟩ else if k = 5 then ⟨#[85, 73, 78, 84]⟩ else if k = 6 then ⟨#[87, 79, 82, 68]⟩ else if k = 7 then ⟨#[68, 87, 79, 82, 68]⟩ else ⟨#[]⟩
def kcells (k : Int) : List AV := [.v (.string (kname k)), .v (.int .i64 (ksz k)), .v (.bool (ksg k)), .v (.bool (kbt k))]
theorem seven {k : Int} (h : 1 ≤ k ∧ k ≤ 7) : k = 1 ∨ k = 2 ∨ k = 3 ∨ k = 4 ∨ k = 5 ∨ k = 6 ∨ k = 7 := by omega
theorem kno {n : Int} (h : ¬ (1 ≤ n ∧ n ≤ 7)) : ksz n = 0 ∧ ksg n = false ∧ kbt n = false ∧ kname n = ⟨#[]⟩ ∧ kok n = false := by
  have e : ∀ m : Int, 1 ≤ m → m ≤ 7 → n ≠ m := fun m h1 h2 e => h (by omega)
  refine ⟨?_, ?_, ?_, ?_, ?_⟩
  · unfold ksz; rw [if_neg (by omega), if_neg (by omega), if_neg (by omega)]
  · unfold ksg; simp [e]
  · unfold kbt; simp [e]
  · unfold kname; simp [e]
  · unfold kok; by_cases c : 1 ≤ n <;> simp <;> omega
theorem kyes {n : Int} (h : 1 ≤ n ∧ n ≤ 7) : kok n = true := by unfold kok; simp [h.1, h.2]
theorem kof_a (k : Nat) (n : Int) : acall T (k + 2) 92 0 [.v (.int .i64 n)] [] = some ⟨.tup [.agg (kcells n), .v (.bool (kok n))], [], 1⟩ := by
  by_cases h : 1 ≤ n ∧ n ≤ 7
  · rcases seven h with rfl | rfl | rfl | rfl | rfl | rfl | rfl <;> kernel_rfl
  · obtain ⟨h1, h2, h3, h4, h5⟩ := kno h
    rw [acall_go (body := b_iec_of) rfl rfl (Nat.zero_le _)]
    by_cases c1 : n < 1
    · simp -implicitDefEqProofs only [eqs, eqd, eqe, lh_some, ↓reduceIte, reduceCtorEq, Nat.reduceEqDiff, Nat.reduceAdd, Nat.reduceSub, Nat.reduceMul, Nat.reduceLT, Nat.reduceLeDiff, Nat.reduceBEq, Nat.reduceBNe, Nat.reduceGT, Int.reduceEq, Int.reduceLT, Int.reduceLE, Int.reduceToNat, Int.reduceAdd, Int.reduceSub, Int.reduceMul, Int.reduceNeg, Int.reduceBEq, Int.reduceBNe, b_iec_of, c1, kcells, h1, h2, h3, h4, h5]
    · have c2 : 7 < n := by omega
      simp -implicitDefEqProofs only [eqs, eqd, eqe, lh_some, ↓reduceIte, reduceCtorEq, Nat.reduceEqDiff, Nat.reduceAdd, Nat.reduceSub, Nat.reduceMul, Nat.reduceLT, Nat.reduceLeDiff, Nat.reduceBEq, Nat.reduceBNe, Nat.reduceGT, Int.reduceEq, Int.reduceLT, Int.reduceLE, Int.reduceToNat, Int.reduceAdd, Int.reduceSub, Int.reduceMul, Int.reduceNeg, Int.reduceBEq, Int.reduceBNe, b_iec_of, c1, c2, kcells, h1, h2, h3, h4, h5]
theorem ksize_a (k : Nat) (n : Int) : acall T (k + 3) 77 0 [.v (.int .i64 n)] [] = some ⟨.v (.int .i64 (ksz n)), [], 1⟩ := by
  rw [acall_go (body := b_iec_Size) rfl rfl (Nat.zero_le _)]
  have h := kof_a k n
  simp -implicitDefEqProofs only [eqs, eqd, eqe, lh_some, ↓reduceIte, reduceCtorEq, Nat.reduceEqDiff, Nat.reduceAdd, Nat.reduceSub, Nat.reduceMul, Nat.reduceLT, Nat.reduceLeDiff, Nat.reduceBEq, Nat.reduceBNe, Nat.reduceGT, Int.reduceEq, Int.reduceLT, Int.reduceLE, Int.reduceToNat, Int.reduceAdd, Int.reduceSub, Int.reduceMul, Int.reduceNeg, Int.reduceBEq, Int.reduceBNe, b_iec_Size, h, kcells]
/-- May an operation be done with a kind? -/
def may (op k : Int) : Bool := kok k && (if 7 ≤ op ∧ op ≤ 13 then kbt k else if 14 ≤ op ∧ op ≤ 18 then !kbt k else decide (19 ≤ op) && decide (op ≤ 24))
theorem may_a (k : Nat) (op n : Int) : acall T (k + 3) 87 0 [.v (.int .i64 op), .v (.int .i64 n)] [] = some ⟨.v (.bool (may op n)), [], 1⟩ := by
  rw [acall_go (body := b_iec_May) rfl rfl (Nat.zero_le _)]
  have h := kof_a k n
  unfold may
  cases c0 : kok n
  · rw [c0] at h
    simp -implicitDefEqProofs only [eqs, eqd, eqe, lh_some, ↓reduceIte, reduceCtorEq, Nat.reduceEqDiff, Nat.reduceAdd, Nat.reduceSub, Nat.reduceMul, Nat.reduceLT, Nat.reduceLeDiff, Nat.reduceBEq, Nat.reduceBNe, Nat.reduceGT, Int.reduceEq, Int.reduceLT, Int.reduceLE, Int.reduceToNat, Int.reduceAdd, Int.reduceSub, Int.reduceMul, Int.reduceNeg, Int.reduceBEq, Int.reduceBNe, b_iec_May, gs_iec_May, h, kcells]
  · rw [c0] at h
    by_cases c1 : 7 ≤ op
    · by_cases c2 : op ≤ 13
      · simp -implicitDefEqProofs only [eqs, eqd, eqe, lh_some, ↓reduceIte, reduceCtorEq, Nat.reduceEqDiff, Nat.reduceAdd, Nat.reduceSub, Nat.reduceMul, Nat.reduceLT, Nat.reduceLeDiff, Nat.reduceBEq, Nat.reduceBNe, Nat.reduceGT, Int.reduceEq, Int.reduceLT, Int.reduceLE, Int.reduceToNat, Int.reduceAdd, Int.reduceSub, Int.reduceMul, Int.reduceNeg, Int.reduceBEq, Int.reduceBNe, b_iec_May, gs_iec_May, h, kcells, c1, c2]
      · by_cases c3 : 14 ≤ op
        · by_cases c4 : op ≤ 18
          · simp -implicitDefEqProofs only [eqs, eqd, eqe, lh_some, ↓reduceIte, reduceCtorEq, Nat.reduceEqDiff, Nat.reduceAdd, Nat.reduceSub, Nat.reduceMul, Nat.reduceLT, Nat.reduceLeDiff, Nat.reduceBEq, Nat.reduceBNe, Nat.reduceGT, Int.reduceEq, Int.reduceLT, Int.reduceLE, Int.reduceToNat, Int.reduceAdd, Int.reduceSub, Int.reduceMul, Int.reduceNeg, Int.reduceBEq, Int.reduceBNe, b_iec_May, gs_iec_May, h, kcells, c1, c2, c3, c4]
          · by_cases c5 : 19 ≤ op
            · simp -implicitDefEqProofs only [eqs, eqd, eqe, lh_some, ↓reduceIte, reduceCtorEq, Nat.reduceEqDiff, Nat.reduceAdd, Nat.reduceSub, Nat.reduceMul, Nat.reduceLT, Nat.reduceLeDiff, Nat.reduceBEq, Nat.reduceBNe, Nat.reduceGT, Int.reduceEq, Int.reduceLT, Int.reduceLE, Int.reduceToNat, Int.reduceAdd, Int.reduceSub, Int.reduceMul, Int.reduceNeg, Int.reduceBEq, Int.reduceBNe, b_iec_May, gs_iec_May, h, kcells, c1, c2, c3, c4, c5]
            · omega
        · omega
    · have c2 : ¬ 14 ≤ op := by omega
      have c3 : ¬ 19 ≤ op := by omega
      simp -implicitDefEqProofs only [eqs, eqd, eqe, lh_some, ↓reduceIte, reduceCtorEq, Nat.reduceEqDiff, Nat.reduceAdd, Nat.reduceSub, Nat.reduceMul, Nat.reduceLT, Nat.reduceLeDiff, Nat.reduceBEq, Nat.reduceBNe, Nat.reduceGT, Int.reduceEq, Int.reduceLT, Int.reduceLE, Int.reduceToNat, Int.reduceAdd, Int.reduceSub, Int.reduceMul, Int.reduceNeg, Int.reduceBEq, Int.reduceBNe, b_iec_May, gs_iec_May, h, kcells, c1, c2, c3]
end Go.Proofs.Ytcfokbhmchcgbaa.Ver

/- Instructions that may be: package il's answer, and the document's. Written by a program for this claim. -/
namespace Go.Proofs.Ytcfokbhmchcgbaa.Ver
open Go Go.Proofs.Ytcfokbhmchcgbaa.Sym Go.Proofs.Ytcfokbhmchcgbaa.Tab
set_option linter.unusedVariables false
set_option linter.unusedSimpArgs false
set_option maxHeartbeats 4000000
set_option maxRecDepth 20000
def klo (k : Int) : Int := if k = 2 then -128 else if k = 3 then -32768 else if k = 4 then -2147483648 else 0
def khi (k : Int) : Int := if k = 1 then 1 else if k = 2 then 127 else if k = 3 then 32767 else if k = 4 then 2147483647 else if k = 5 ∨ k = 6 then 65535 else 4294967295
/-- Is a number a value of a kind? -/
def isK (k v : Int) : Bool := kok k && (decide (klo k ≤ v) && decide (v ≤ khi k))
def wrapK (k v : Int) : Int := if k = 1 then (if v = 0 then 0 else 1) else if k = 2 then IntKind.i64.wrap (IntKind.i8.wrap v) else if k = 3 then IntKind.i64.wrap (IntKind.i16.wrap v) else if k = 4 then IntKind.i64.wrap (IntKind.i32.wrap v) else if k = 5 ∨ k = 6 then IntKind.i64.wrap (IntKind.u16.wrap v) else if k = 7 then IntKind.i64.wrap (IntKind.u32.wrap v) else 0
theorem wi8 (v : Int) : IntKind.i8.wrap v = (v + 128) % 256 - 128 := by
  simp [IntKind.wrap, IntKind.bits, IntKind.signed]
  split <;> omega
theorem wi16 (v : Int) : IntKind.i16.wrap v = (v + 32768) % 65536 - 32768 := by
  simp [IntKind.wrap, IntKind.bits, IntKind.signed]
  split <;> omega
theorem wi32 (v : Int) : IntKind.i32.wrap v = (v + 2147483648) % 4294967296 - 2147483648 := by
  simp [IntKind.wrap, IntKind.bits, IntKind.signed]
  split <;> omega
theorem wu16' (v : Int) : IntKind.u16.wrap v = v % 65536 := by simp [IntKind.wrap, IntKind.bits, IntKind.signed]
theorem wu32' (v : Int) : IntKind.u32.wrap v = v % 4294967296 := by simp [IntKind.wrap, IntKind.bits, IntKind.signed]
theorem beq_dec {a b : Int} {p : Bool} (h : a = b ↔ p = true) : (a == b) = p := by
  cases p
  · rw [beq_eq_false_iff_ne]; intro e; have := h.1 e; cases this
  · rw [beq_iff_eq]; exact h.2 rfl
theorem wrap_is (k v : Int) : (kok k && (wrapK k v == v)) = isK k v := by
  unfold isK
  by_cases h : 1 ≤ k ∧ k ≤ 7
  · rw [kyes h, Bool.true_and, Bool.true_and]
    refine beq_dec ?_
    rw [Bool.and_eq_true, decide_eq_true_eq, decide_eq_true_eq]
    rcases seven h with rfl | rfl | rfl | rfl | rfl | rfl | rfl
    · show (if v = 0 then (0 : Int) else 1) = v ↔ 0 ≤ v ∧ v ≤ 1
      split <;> omega
    · show IntKind.i64.wrap (IntKind.i8.wrap v) = v ↔ -128 ≤ v ∧ v ≤ 127
      rw [wi8, w64 (by omega) (by omega)]; omega
    · show IntKind.i64.wrap (IntKind.i16.wrap v) = v ↔ -32768 ≤ v ∧ v ≤ 32767
      rw [wi16, w64 (by omega) (by omega)]; omega
    · show IntKind.i64.wrap (IntKind.i32.wrap v) = v ↔ -2147483648 ≤ v ∧ v ≤ 2147483647
      rw [wi32, w64 (by omega) (by omega)]; omega
    · show IntKind.i64.wrap (IntKind.u16.wrap v) = v ↔ 0 ≤ v ∧ v ≤ 65535
      rw [wu16', w64 (by omega) (by omega)]; omega
    · show IntKind.i64.wrap (IntKind.u16.wrap v) = v ↔ 0 ≤ v ∧ v ≤ 65535
      rw [wu16', w64 (by omega) (by omega)]; omega
    · show IntKind.i64.wrap (IntKind.u32.wrap v) = v ↔ 0 ≤ v ∧ v ≤ 4294967295
      rw [wu32', w64 (by omega) (by omega)]; omega
  · rw [(kno h).2.2.2.2, Bool.false_and, Bool.false_and]
theorem wrap_a (k : Nat) (n v : Int) (hn : 1 ≤ n ∧ n ≤ 7) : acall T (k + 3) 93 0 [.v (.int .i64 n), .v (.int .i64 v)] [] = some ⟨.v (.int .i64 (wrapK n v)), [], 1⟩ := by
  rcases seven hn with rfl | rfl | rfl | rfl | rfl | rfl | rfl
  · have h := kof_a k 1
    have e1 : ksz 1 = 1 := rfl
    have e2 : ksg 1 = false := rfl
    have e3 : kok 1 = true := rfl
    rw [acall_go (body := b_iec_Wrap) rfl rfl (Nat.zero_le _)]
    by_cases c : v = 0
    · subst c
      simp -implicitDefEqProofs only [eqs, eqd, eqe, lh_some, ↓reduceIte, reduceCtorEq, Nat.reduceEqDiff, Nat.reduceAdd, Nat.reduceSub, Nat.reduceMul, Nat.reduceLT, Nat.reduceLeDiff, Nat.reduceBEq, Nat.reduceBNe, Nat.reduceGT, Int.reduceEq, Int.reduceLT, Int.reduceLE, Int.reduceToNat, Int.reduceAdd, Int.reduceSub, Int.reduceMul, Int.reduceNeg, Int.reduceBEq, Int.reduceBNe, b_iec_Wrap, gs_iec_Wrap, h, e1, e2, e3, kcells, wrapK]
    · have c' : (v != 0) = true := by simpa using c
      simp -implicitDefEqProofs only [eqs, eqd, eqe, lh_some, ↓reduceIte, reduceCtorEq, Nat.reduceEqDiff, Nat.reduceAdd, Nat.reduceSub, Nat.reduceMul, Nat.reduceLT, Nat.reduceLeDiff, Nat.reduceBEq, Nat.reduceBNe, Nat.reduceGT, Int.reduceEq, Int.reduceLT, Int.reduceLE, Int.reduceToNat, Int.reduceAdd, Int.reduceSub, Int.reduceMul, Int.reduceNeg, Int.reduceBEq, Int.reduceBNe, b_iec_Wrap, gs_iec_Wrap, h, e1, e2, e3, kcells, wrapK, c, c']
  all_goals kernel_rfl
theorem is_a (k : Nat) (n v : Int) : acall T (k + 4) 75 0 [.v (.int .i64 n), .v (.int .i64 v)] [] = some ⟨.v (.bool (isK n v)), [], 1⟩ := by
  rw [acall_go (body := b_iec_Is) rfl rfl (Nat.zero_le _), ← wrap_is]
  have h := kof_a (k + 1) n
  by_cases hn : 1 ≤ n ∧ n ≤ 7
  · have h2 := wrap_a k n v hn
    rw [kyes hn] at h ⊢
    simp -implicitDefEqProofs only [eqs, eqd, eqe, lh_some, ↓reduceIte, reduceCtorEq, Nat.reduceEqDiff, Nat.reduceAdd, Nat.reduceSub, Nat.reduceMul, Nat.reduceLT, Nat.reduceLeDiff, Nat.reduceBEq, Nat.reduceBNe, Nat.reduceGT, Int.reduceEq, Int.reduceLT, Int.reduceLE, Int.reduceToNat, Int.reduceAdd, Int.reduceSub, Int.reduceMul, Int.reduceNeg, Int.reduceBEq, Int.reduceBNe, b_iec_Is, h, h2, kcells]
  · rw [(kno hn).2.2.2.2] at h ⊢
    simp -implicitDefEqProofs only [eqs, eqd, eqe, lh_some, ↓reduceIte, reduceCtorEq, Nat.reduceEqDiff, Nat.reduceAdd, Nat.reduceSub, Nat.reduceMul, Nat.reduceLT, Nat.reduceLeDiff, Nat.reduceBEq, Nat.reduceBNe, Nat.reduceGT, Int.reduceEq, Int.reduceLT, Int.reduceLE, Int.reduceToNat, Int.reduceAdd, Int.reduceSub, Int.reduceMul, Int.reduceNeg, Int.reduceBEq, Int.reduceBNe, b_iec_Is, h, kcells]
/-- What an operation asks for. -/
def cl (op : Int) : Int := if op = 1 ∨ op = 2 ∨ (7 ≤ op ∧ op ≤ 12) ∨ (14 ≤ op ∧ op ≤ 24) then 1 else if 3 ≤ op ∧ op ≤ 6 then 2 else if 25 ≤ op ∧ op ≤ 27 then 3 else if op = 13 ∨ (28 ≤ op ∧ op ≤ 30) ∨ op = 33 then 4 else if op = 31 then 5 else if op = 32 then 6 else if op = 34 ∨ op = 35 then 7 else if op = 36 then 8 else 0
noncomputable def onm (n : Int) : ByteArray := match acall T 5 74 0 [.v (.int .i64 n)] [] with
  | some ⟨.agg [.v (.string s), _], _, _⟩ => s
  | _ => ByteArray.empty
theorem upto37 : ∀ (n : Nat), n < 37 → n = 0 ∨ n = 1 ∨ n = 2 ∨ n = 3 ∨ n = 4 ∨ n = 5 ∨ n = 6 ∨ n = 7 ∨ n = 8 ∨ n = 9 ∨ n = 10 ∨ n = 11 ∨ n = 12 ∨ n = 13 ∨ n = 14 ∨ n = 15 ∨ n = 16 ∨ n = 17 ∨ n = 18 ∨ n = 19 ∨ n = 20 ∨ n = 21 ∨ n = 22 ∨ n = 23 ∨ n = 24 ∨ n = 25 ∨ n = 26 ∨ n = 27 ∨ n = 28 ∨ n = 29 ∨ n = 30 ∨ n = 31 ∨ n = 32 ∨ n = 33 ∨ n = 34 ∨ n = 35 ∨ n = 36 := by omega
theorem ilof_a (k : Nat) (n : Int) : ∃ s, acall T (k + 2) 74 0 [.v (.int .i64 n)] [] = some ⟨.agg [.v (.string s), .v (.int .i64 (cl n))], [], 1⟩ := by
  by_cases h : 0 ≤ n ∧ n < 37
  · refine ⟨onm n, ?_⟩
    obtain ⟨m, rfl⟩ : ∃ m : Nat, n = m := ⟨n.toNat, by omega⟩
    rcases upto37 m (by omega) with rfl | rfl | rfl | rfl | rfl | rfl | rfl | rfl | rfl | rfl | rfl | rfl | rfl | rfl | rfl | rfl | rfl | rfl | rfl | rfl | rfl | rfl | rfl | rfl | rfl | rfl | rfl | rfl | rfl | rfl | rfl | rfl | rfl | rfl | rfl | rfl | rfl <;> kernel_rfl
  · refine ⟨⟨#[]⟩, ?_⟩
    have e : cl n = 0 := by unfold cl; repeat (rw [if_neg (by omega)])
    rw [e, acall_go (body := b_il_of) rfl rfl (Nat.zero_le _)]
    have h2 : ∃ xs : List AV, acall T (k + 1) 91 0 [] [] = some ⟨.shr 37 true xs, [], 1⟩ := ⟨_, by rw [acall_go (body := b_il_ops) rfl rfl (Nat.zero_le _)]; simp -implicitDefEqProofs only [eqs, eqd, eqe, lh_some, ↓reduceIte, reduceCtorEq, Nat.reduceEqDiff, Nat.reduceAdd, Nat.reduceSub, Nat.reduceMul, Nat.reduceLT, Nat.reduceLeDiff, Nat.reduceBEq, Nat.reduceBNe, Nat.reduceGT, Int.reduceEq, Int.reduceLT, Int.reduceLE, Int.reduceToNat, Int.reduceAdd, Int.reduceSub, Int.reduceMul, Int.reduceNeg, Int.reduceBEq, Int.reduceBNe, b_il_ops]; rfl⟩
    obtain ⟨xs, h2⟩ := h2
    by_cases c1 : n < 0
    · simp -implicitDefEqProofs only [eqs, eqd, eqe, lh_some, ↓reduceIte, reduceCtorEq, Nat.reduceEqDiff, Nat.reduceAdd, Nat.reduceSub, Nat.reduceMul, Nat.reduceLT, Nat.reduceLeDiff, Nat.reduceBEq, Nat.reduceBNe, Nat.reduceGT, Int.reduceEq, Int.reduceLT, Int.reduceLE, Int.reduceToNat, Int.reduceAdd, Int.reduceSub, Int.reduceMul, Int.reduceNeg, Int.reduceBEq, Int.reduceBNe, b_il_of, h2, c1]
    · have c2 : (37 : Int) ≤ n := by omega
      simp -implicitDefEqProofs only [eqs, eqd, eqe, lh_some, ↓reduceIte, reduceCtorEq, Nat.reduceEqDiff, Nat.reduceAdd, Nat.reduceSub, Nat.reduceMul, Nat.reduceLT, Nat.reduceLeDiff, Nat.reduceBEq, Nat.reduceBNe, Nat.reduceGT, Int.reduceEq, Int.reduceLT, Int.reduceLE, Int.reduceToNat, Int.reduceAdd, Int.reduceSub, Int.reduceMul, Int.reduceNeg, Int.reduceBEq, Int.reduceBNe, b_il_of, h2, c1, c2]
theorem within_a (k : Nat) (n : Int) : acall T (k + 3) 78 0 [.v (.int .i64 n)] [] = some ⟨.v (.bool ((cl n == 1) && decide (7 ≤ n))), [], 1⟩ := by
  rw [acall_go (body := b_il_within) rfl rfl (Nat.zero_le _)]
  obtain ⟨s, h⟩ := ilof_a k n
  try simp -implicitDefEqProofs only [eqs, eqd, eqe, lh_some, ↓reduceIte, reduceCtorEq, Nat.reduceEqDiff, Nat.reduceAdd, Nat.reduceSub, Nat.reduceMul, Nat.reduceLT, Nat.reduceLeDiff, Nat.reduceBEq, Nat.reduceBNe, Nat.reduceGT, Int.reduceEq, Int.reduceLT, Int.reduceLE, Int.reduceToNat, Int.reduceAdd, Int.reduceSub, Int.reduceMul, Int.reduceNeg, Int.reduceBEq, Int.reduceBNe, b_il_within, h]
  cases h0 : (cl n == 1)
  · simp -implicitDefEqProofs only [eqs, eqd, eqe, lh_some, ↓reduceIte, reduceCtorEq, Nat.reduceEqDiff, Nat.reduceAdd, Nat.reduceSub, Nat.reduceMul, Nat.reduceLT, Nat.reduceLeDiff, Nat.reduceBEq, Nat.reduceBNe, Nat.reduceGT, Int.reduceEq, Int.reduceLT, Int.reduceLE, Int.reduceToNat, Int.reduceAdd, Int.reduceSub, Int.reduceMul, Int.reduceNeg, Int.reduceBEq, Int.reduceBNe, b_il_within, h, h0]
  simp -implicitDefEqProofs only [eqs, eqd, eqe, lh_some, ↓reduceIte, reduceCtorEq, Nat.reduceEqDiff, Nat.reduceAdd, Nat.reduceSub, Nat.reduceMul, Nat.reduceLT, Nat.reduceLeDiff, Nat.reduceBEq, Nat.reduceBNe, Nat.reduceGT, Int.reduceEq, Int.reduceLT, Int.reduceLE, Int.reduceToNat, Int.reduceAdd, Int.reduceSub, Int.reduceMul, Int.reduceNeg, Int.reduceBEq, Int.reduceBNe, b_il_within, h, h0]
theorem keeps_a (k : Nat) (n : Int) : acall T (k + 1) 79 0 [.v (.int .i64 n)] [] = some ⟨.v (.bool (n == 3 || n == 4)), [], 0⟩ := by
  rw [acall_go (body := b_il_keeps) rfl rfl (Nat.zero_le _)]
  cases h1 : (n == 3) <;> simp -implicitDefEqProofs only [eqs, eqd, eqe, lh_some, ↓reduceIte, reduceCtorEq, Nat.reduceEqDiff, Nat.reduceAdd, Nat.reduceSub, Nat.reduceMul, Nat.reduceLT, Nat.reduceLeDiff, Nat.reduceBEq, Nat.reduceBNe, Nat.reduceGT, Int.reduceEq, Int.reduceLT, Int.reduceLE, Int.reduceToNat, Int.reduceAdd, Int.reduceSub, Int.reduceMul, Int.reduceNeg, Int.reduceBEq, Int.reduceBNe, b_il_keeps, h1]
end Go.Proofs.Ytcfokbhmchcgbaa.Ver

/- Instructions that may be: package il's answer. Written by a program for this claim. -/
namespace Go.Proofs.Ytcfokbhmchcgbaa.Ver
open Go Go.Proofs.Ytcfokbhmchcgbaa.Sym Go.Proofs.Ytcfokbhmchcgbaa.Tab
set_option linter.unusedVariables false
set_option linter.unusedSimpArgs false
set_option maxHeartbeats 4000000
set_option maxRecDepth 20000
structure Ins where
  op : Int
  k : Int
  ar : Int
  at_ : Int
  n : Int
def Ins.c (i : Ins) : List AV := [.v (.int .i64 i.op), .v (.int .i64 i.k), .v (.int .i64 i.ar), .v (.int .i64 i.at_), .v (.int .i64 i.n)]
def stands (i : Ins) (l : Int) : Bool := decide (0 < ksz i.k) && (decide (l ≤ i.ar) && (decide (i.ar ≤ 4) && (decide (0 ≤ i.at_) && (decide (i.at_ ≤ 64 - ksz i.k) && (i.n == 0)))))
theorem ksz_in (k : Int) : 0 ≤ ksz k ∧ ksz k ≤ 4 := by unfold ksz; split; omega; split; omega; split <;> omega
theorem stands_a (k : Nat) (i : Ins) (l : Int) : acall T (k + 4) 76 0 [.agg i.c, .v (.int .i64 l)] [] = some ⟨.v (.bool (stands i l)), [], 1⟩ := by
  rw [acall_go (body := b_il_stands) rfl rfl (Nat.zero_le _)]
  have h := ksize_a k i.k
  have hk := ksz_in i.k
  have e : IntKind.i64.wrap (64 - ksz i.k) = 64 - ksz i.k := w64 (by omega) (by omega)
  unfold stands
  try simp -implicitDefEqProofs only [eqs, eqd, eqe, lh_some, ↓reduceIte, reduceCtorEq, Nat.reduceEqDiff, Nat.reduceAdd, Nat.reduceSub, Nat.reduceMul, Nat.reduceLT, Nat.reduceLeDiff, Nat.reduceBEq, Nat.reduceBNe, Nat.reduceGT, Int.reduceEq, Int.reduceLT, Int.reduceLE, Int.reduceToNat, Int.reduceAdd, Int.reduceSub, Int.reduceMul, Int.reduceNeg, Int.reduceBEq, Int.reduceBNe, b_il_stands, h, e, Ins.c]
  cases h0 : decide (0 < ksz i.k)
  · simp -implicitDefEqProofs only [eqs, eqd, eqe, lh_some, ↓reduceIte, reduceCtorEq, Nat.reduceEqDiff, Nat.reduceAdd, Nat.reduceSub, Nat.reduceMul, Nat.reduceLT, Nat.reduceLeDiff, Nat.reduceBEq, Nat.reduceBNe, Nat.reduceGT, Int.reduceEq, Int.reduceLT, Int.reduceLE, Int.reduceToNat, Int.reduceAdd, Int.reduceSub, Int.reduceMul, Int.reduceNeg, Int.reduceBEq, Int.reduceBNe, b_il_stands, h, e, Ins.c, h0]
  try simp -implicitDefEqProofs only [eqs, eqd, eqe, lh_some, ↓reduceIte, reduceCtorEq, Nat.reduceEqDiff, Nat.reduceAdd, Nat.reduceSub, Nat.reduceMul, Nat.reduceLT, Nat.reduceLeDiff, Nat.reduceBEq, Nat.reduceBNe, Nat.reduceGT, Int.reduceEq, Int.reduceLT, Int.reduceLE, Int.reduceToNat, Int.reduceAdd, Int.reduceSub, Int.reduceMul, Int.reduceNeg, Int.reduceBEq, Int.reduceBNe, b_il_stands, h, e, Ins.c, h0]
  cases h1 : decide (l ≤ i.ar)
  · simp -implicitDefEqProofs only [eqs, eqd, eqe, lh_some, ↓reduceIte, reduceCtorEq, Nat.reduceEqDiff, Nat.reduceAdd, Nat.reduceSub, Nat.reduceMul, Nat.reduceLT, Nat.reduceLeDiff, Nat.reduceBEq, Nat.reduceBNe, Nat.reduceGT, Int.reduceEq, Int.reduceLT, Int.reduceLE, Int.reduceToNat, Int.reduceAdd, Int.reduceSub, Int.reduceMul, Int.reduceNeg, Int.reduceBEq, Int.reduceBNe, b_il_stands, h, e, Ins.c, h0, h1]
  try simp -implicitDefEqProofs only [eqs, eqd, eqe, lh_some, ↓reduceIte, reduceCtorEq, Nat.reduceEqDiff, Nat.reduceAdd, Nat.reduceSub, Nat.reduceMul, Nat.reduceLT, Nat.reduceLeDiff, Nat.reduceBEq, Nat.reduceBNe, Nat.reduceGT, Int.reduceEq, Int.reduceLT, Int.reduceLE, Int.reduceToNat, Int.reduceAdd, Int.reduceSub, Int.reduceMul, Int.reduceNeg, Int.reduceBEq, Int.reduceBNe, b_il_stands, h, e, Ins.c, h0, h1]
  cases h2 : decide (i.ar ≤ 4)
  · simp -implicitDefEqProofs only [eqs, eqd, eqe, lh_some, ↓reduceIte, reduceCtorEq, Nat.reduceEqDiff, Nat.reduceAdd, Nat.reduceSub, Nat.reduceMul, Nat.reduceLT, Nat.reduceLeDiff, Nat.reduceBEq, Nat.reduceBNe, Nat.reduceGT, Int.reduceEq, Int.reduceLT, Int.reduceLE, Int.reduceToNat, Int.reduceAdd, Int.reduceSub, Int.reduceMul, Int.reduceNeg, Int.reduceBEq, Int.reduceBNe, b_il_stands, h, e, Ins.c, h0, h1, h2]
  try simp -implicitDefEqProofs only [eqs, eqd, eqe, lh_some, ↓reduceIte, reduceCtorEq, Nat.reduceEqDiff, Nat.reduceAdd, Nat.reduceSub, Nat.reduceMul, Nat.reduceLT, Nat.reduceLeDiff, Nat.reduceBEq, Nat.reduceBNe, Nat.reduceGT, Int.reduceEq, Int.reduceLT, Int.reduceLE, Int.reduceToNat, Int.reduceAdd, Int.reduceSub, Int.reduceMul, Int.reduceNeg, Int.reduceBEq, Int.reduceBNe, b_il_stands, h, e, Ins.c, h0, h1, h2]
  cases h3 : decide (0 ≤ i.at_)
  · simp -implicitDefEqProofs only [eqs, eqd, eqe, lh_some, ↓reduceIte, reduceCtorEq, Nat.reduceEqDiff, Nat.reduceAdd, Nat.reduceSub, Nat.reduceMul, Nat.reduceLT, Nat.reduceLeDiff, Nat.reduceBEq, Nat.reduceBNe, Nat.reduceGT, Int.reduceEq, Int.reduceLT, Int.reduceLE, Int.reduceToNat, Int.reduceAdd, Int.reduceSub, Int.reduceMul, Int.reduceNeg, Int.reduceBEq, Int.reduceBNe, b_il_stands, h, e, Ins.c, h0, h1, h2, h3]
  try simp -implicitDefEqProofs only [eqs, eqd, eqe, lh_some, ↓reduceIte, reduceCtorEq, Nat.reduceEqDiff, Nat.reduceAdd, Nat.reduceSub, Nat.reduceMul, Nat.reduceLT, Nat.reduceLeDiff, Nat.reduceBEq, Nat.reduceBNe, Nat.reduceGT, Int.reduceEq, Int.reduceLT, Int.reduceLE, Int.reduceToNat, Int.reduceAdd, Int.reduceSub, Int.reduceMul, Int.reduceNeg, Int.reduceBEq, Int.reduceBNe, b_il_stands, h, e, Ins.c, h0, h1, h2, h3]
  cases h4 : decide (i.at_ ≤ 64 - ksz i.k)
  · simp -implicitDefEqProofs only [eqs, eqd, eqe, lh_some, ↓reduceIte, reduceCtorEq, Nat.reduceEqDiff, Nat.reduceAdd, Nat.reduceSub, Nat.reduceMul, Nat.reduceLT, Nat.reduceLeDiff, Nat.reduceBEq, Nat.reduceBNe, Nat.reduceGT, Int.reduceEq, Int.reduceLT, Int.reduceLE, Int.reduceToNat, Int.reduceAdd, Int.reduceSub, Int.reduceMul, Int.reduceNeg, Int.reduceBEq, Int.reduceBNe, b_il_stands, h, e, Ins.c, h0, h1, h2, h3, h4]
  simp -implicitDefEqProofs only [eqs, eqd, eqe, lh_some, ↓reduceIte, reduceCtorEq, Nat.reduceEqDiff, Nat.reduceAdd, Nat.reduceSub, Nat.reduceMul, Nat.reduceLT, Nat.reduceLeDiff, Nat.reduceBEq, Nat.reduceBNe, Nat.reduceGT, Int.reduceEq, Int.reduceLT, Int.reduceLE, Int.reduceToNat, Int.reduceAdd, Int.reduceSub, Int.reduceMul, Int.reduceNeg, Int.reduceBEq, Int.reduceBNe, b_il_stands, h, e, Ins.c, h0, h1, h2, h3, h4]
/-- May an instruction be? -/
def right (i : Ins) : Bool :=
  if cl i.op = 1 then (if i.ar = 0 then (i.at_ == 0) && isK i.k i.n else stands i 1)
  else if cl i.op = 2 then stands i 2
  else if cl i.op = 3 then (i.ar == 0) && ((i.n == 0) && ((i.k == 0) && (decide (0 ≤ i.at_) && decide (i.at_ ≤ 200))))
  else if cl i.op = 4 then (i.ar == 0) && ((i.n == 0) && ((i.k == 0) && (i.at_ == 0)))
  else if cl i.op = 5 then (i.ar == 0) && ((i.n == 0) && ((i.at_ == 0) && decide (0 < ksz i.k)))
  else if cl i.op = 6 then (i.ar == 0) && ((i.n == 0) && ((i.k == 0) && ((cl i.at_ == 1) && decide (7 ≤ i.at_))))
  else if cl i.op = 7 then (i.k == 0) && ((i.ar == 3 || i.ar == 4) && (decide (0 ≤ i.at_) && (decide (i.at_ ≤ 59) && (decide (1 ≤ i.n) && decide (i.n ≤ 9999)))))
  else if cl i.op = 8 then (i.k == 0) && ((i.ar == 3 || i.ar == 4) && (decide (0 ≤ i.at_) && (decide (i.at_ < 64) && (i.n == 0))))
  else false
theorem right_1 (k : Nat) (i : Ins) (hc : cl i.op = 1) : acall T (k + 5) 60 0 [.agg i.c] [] = some ⟨.v (.bool (right i)), [], 1⟩ := by
  rw [acall_go (body := b_il_Right) rfl rfl (Nat.zero_le _)]
  obtain ⟨s, h⟩ := ilof_a (k + 2) i.op
  rw [hc] at h
  unfold right
  rw [hc]
  simp only [Int.reduceEq, if_true, if_false]
  have hs := stands_a k i 1
  have hi := is_a k i.k i.n
  simp only [Ins.c] at hs
  by_cases c0 : i.ar = 0
  · rw [if_pos c0]
    have c0' : (i.ar == 0) = true := by rw [c0]; rfl
    cases c1 : (i.n == 0) <;> cases c2 : (i.at_ == 0) <;> simp -implicitDefEqProofs only [eqs, eqd, eqe, lh_some, ↓reduceIte, reduceCtorEq, Nat.reduceEqDiff, Nat.reduceAdd, Nat.reduceSub, Nat.reduceMul, Nat.reduceLT, Nat.reduceLeDiff, Nat.reduceBEq, Nat.reduceBNe, Nat.reduceGT, Int.reduceEq, Int.reduceLT, Int.reduceLE, Int.reduceToNat, Int.reduceAdd, Int.reduceSub, Int.reduceMul, Int.reduceNeg, Int.reduceBEq, Int.reduceBNe, b_il_Right, gs_il_Right, h, Ins.c, hi, c0', c1, c2]
  · rw [if_neg c0]
    have c0' : (i.ar == 0) = false := by simpa using c0
    simp -implicitDefEqProofs only [eqs, eqd, eqe, lh_some, ↓reduceIte, reduceCtorEq, Nat.reduceEqDiff, Nat.reduceAdd, Nat.reduceSub, Nat.reduceMul, Nat.reduceLT, Nat.reduceLeDiff, Nat.reduceBEq, Nat.reduceBNe, Nat.reduceGT, Int.reduceEq, Int.reduceLT, Int.reduceLE, Int.reduceToNat, Int.reduceAdd, Int.reduceSub, Int.reduceMul, Int.reduceNeg, Int.reduceBEq, Int.reduceBNe, b_il_Right, gs_il_Right, h, Ins.c, hs, c0']
theorem right_2 (k : Nat) (i : Ins) (hc : cl i.op = 2) : acall T (k + 5) 60 0 [.agg i.c] [] = some ⟨.v (.bool (right i)), [], 1⟩ := by
  rw [acall_go (body := b_il_Right) rfl rfl (Nat.zero_le _)]
  obtain ⟨s, h⟩ := ilof_a (k + 2) i.op
  rw [hc] at h
  unfold right
  rw [hc]
  simp only [Int.reduceEq, if_true, if_false]
  have hs := stands_a k i 2
  simp only [Ins.c] at hs
  cases c0 : (i.ar == 0) <;> cases c1 : (i.n == 0) <;> simp -implicitDefEqProofs only [eqs, eqd, eqe, lh_some, ↓reduceIte, reduceCtorEq, Nat.reduceEqDiff, Nat.reduceAdd, Nat.reduceSub, Nat.reduceMul, Nat.reduceLT, Nat.reduceLeDiff, Nat.reduceBEq, Nat.reduceBNe, Nat.reduceGT, Int.reduceEq, Int.reduceLT, Int.reduceLE, Int.reduceToNat, Int.reduceAdd, Int.reduceSub, Int.reduceMul, Int.reduceNeg, Int.reduceBEq, Int.reduceBNe, b_il_Right, gs_il_Right, h, Ins.c, hs, c0, c1]
theorem right_3 (k : Nat) (i : Ins) (hc : cl i.op = 3) : acall T (k + 5) 60 0 [.agg i.c] [] = some ⟨.v (.bool (right i)), [], 1⟩ := by
  rw [acall_go (body := b_il_Right) rfl rfl (Nat.zero_le _)]
  obtain ⟨s, h⟩ := ilof_a (k + 2) i.op
  rw [hc] at h
  unfold right
  rw [hc]
  simp only [Int.reduceEq, if_true, if_false]
  try simp -implicitDefEqProofs only [eqs, eqd, eqe, lh_some, ↓reduceIte, reduceCtorEq, Nat.reduceEqDiff, Nat.reduceAdd, Nat.reduceSub, Nat.reduceMul, Nat.reduceLT, Nat.reduceLeDiff, Nat.reduceBEq, Nat.reduceBNe, Nat.reduceGT, Int.reduceEq, Int.reduceLT, Int.reduceLE, Int.reduceToNat, Int.reduceAdd, Int.reduceSub, Int.reduceMul, Int.reduceNeg, Int.reduceBEq, Int.reduceBNe, b_il_Right, gs_il_Right, h, Ins.c]
  cases h0 : (i.ar == 0)
  · simp -implicitDefEqProofs only [eqs, eqd, eqe, lh_some, ↓reduceIte, reduceCtorEq, Nat.reduceEqDiff, Nat.reduceAdd, Nat.reduceSub, Nat.reduceMul, Nat.reduceLT, Nat.reduceLeDiff, Nat.reduceBEq, Nat.reduceBNe, Nat.reduceGT, Int.reduceEq, Int.reduceLT, Int.reduceLE, Int.reduceToNat, Int.reduceAdd, Int.reduceSub, Int.reduceMul, Int.reduceNeg, Int.reduceBEq, Int.reduceBNe, b_il_Right, gs_il_Right, h, Ins.c, h0]
  try simp -implicitDefEqProofs only [eqs, eqd, eqe, lh_some, ↓reduceIte, reduceCtorEq, Nat.reduceEqDiff, Nat.reduceAdd, Nat.reduceSub, Nat.reduceMul, Nat.reduceLT, Nat.reduceLeDiff, Nat.reduceBEq, Nat.reduceBNe, Nat.reduceGT, Int.reduceEq, Int.reduceLT, Int.reduceLE, Int.reduceToNat, Int.reduceAdd, Int.reduceSub, Int.reduceMul, Int.reduceNeg, Int.reduceBEq, Int.reduceBNe, b_il_Right, gs_il_Right, h, Ins.c, h0]
  cases h1 : (i.n == 0)
  · simp -implicitDefEqProofs only [eqs, eqd, eqe, lh_some, ↓reduceIte, reduceCtorEq, Nat.reduceEqDiff, Nat.reduceAdd, Nat.reduceSub, Nat.reduceMul, Nat.reduceLT, Nat.reduceLeDiff, Nat.reduceBEq, Nat.reduceBNe, Nat.reduceGT, Int.reduceEq, Int.reduceLT, Int.reduceLE, Int.reduceToNat, Int.reduceAdd, Int.reduceSub, Int.reduceMul, Int.reduceNeg, Int.reduceBEq, Int.reduceBNe, b_il_Right, gs_il_Right, h, Ins.c, h0, h1]
  try simp -implicitDefEqProofs only [eqs, eqd, eqe, lh_some, ↓reduceIte, reduceCtorEq, Nat.reduceEqDiff, Nat.reduceAdd, Nat.reduceSub, Nat.reduceMul, Nat.reduceLT, Nat.reduceLeDiff, Nat.reduceBEq, Nat.reduceBNe, Nat.reduceGT, Int.reduceEq, Int.reduceLT, Int.reduceLE, Int.reduceToNat, Int.reduceAdd, Int.reduceSub, Int.reduceMul, Int.reduceNeg, Int.reduceBEq, Int.reduceBNe, b_il_Right, gs_il_Right, h, Ins.c, h0, h1]
  cases h2 : (i.k == 0)
  · simp -implicitDefEqProofs only [eqs, eqd, eqe, lh_some, ↓reduceIte, reduceCtorEq, Nat.reduceEqDiff, Nat.reduceAdd, Nat.reduceSub, Nat.reduceMul, Nat.reduceLT, Nat.reduceLeDiff, Nat.reduceBEq, Nat.reduceBNe, Nat.reduceGT, Int.reduceEq, Int.reduceLT, Int.reduceLE, Int.reduceToNat, Int.reduceAdd, Int.reduceSub, Int.reduceMul, Int.reduceNeg, Int.reduceBEq, Int.reduceBNe, b_il_Right, gs_il_Right, h, Ins.c, h0, h1, h2]
  try simp -implicitDefEqProofs only [eqs, eqd, eqe, lh_some, ↓reduceIte, reduceCtorEq, Nat.reduceEqDiff, Nat.reduceAdd, Nat.reduceSub, Nat.reduceMul, Nat.reduceLT, Nat.reduceLeDiff, Nat.reduceBEq, Nat.reduceBNe, Nat.reduceGT, Int.reduceEq, Int.reduceLT, Int.reduceLE, Int.reduceToNat, Int.reduceAdd, Int.reduceSub, Int.reduceMul, Int.reduceNeg, Int.reduceBEq, Int.reduceBNe, b_il_Right, gs_il_Right, h, Ins.c, h0, h1, h2]
  cases h3 : decide (0 ≤ i.at_)
  · simp -implicitDefEqProofs only [eqs, eqd, eqe, lh_some, ↓reduceIte, reduceCtorEq, Nat.reduceEqDiff, Nat.reduceAdd, Nat.reduceSub, Nat.reduceMul, Nat.reduceLT, Nat.reduceLeDiff, Nat.reduceBEq, Nat.reduceBNe, Nat.reduceGT, Int.reduceEq, Int.reduceLT, Int.reduceLE, Int.reduceToNat, Int.reduceAdd, Int.reduceSub, Int.reduceMul, Int.reduceNeg, Int.reduceBEq, Int.reduceBNe, b_il_Right, gs_il_Right, h, Ins.c, h0, h1, h2, h3]
  simp -implicitDefEqProofs only [eqs, eqd, eqe, lh_some, ↓reduceIte, reduceCtorEq, Nat.reduceEqDiff, Nat.reduceAdd, Nat.reduceSub, Nat.reduceMul, Nat.reduceLT, Nat.reduceLeDiff, Nat.reduceBEq, Nat.reduceBNe, Nat.reduceGT, Int.reduceEq, Int.reduceLT, Int.reduceLE, Int.reduceToNat, Int.reduceAdd, Int.reduceSub, Int.reduceMul, Int.reduceNeg, Int.reduceBEq, Int.reduceBNe, b_il_Right, gs_il_Right, h, Ins.c, h0, h1, h2, h3]
theorem right_4 (k : Nat) (i : Ins) (hc : cl i.op = 4) : acall T (k + 5) 60 0 [.agg i.c] [] = some ⟨.v (.bool (right i)), [], 1⟩ := by
  rw [acall_go (body := b_il_Right) rfl rfl (Nat.zero_le _)]
  obtain ⟨s, h⟩ := ilof_a (k + 2) i.op
  rw [hc] at h
  unfold right
  rw [hc]
  simp only [Int.reduceEq, if_true, if_false]
  try simp -implicitDefEqProofs only [eqs, eqd, eqe, lh_some, ↓reduceIte, reduceCtorEq, Nat.reduceEqDiff, Nat.reduceAdd, Nat.reduceSub, Nat.reduceMul, Nat.reduceLT, Nat.reduceLeDiff, Nat.reduceBEq, Nat.reduceBNe, Nat.reduceGT, Int.reduceEq, Int.reduceLT, Int.reduceLE, Int.reduceToNat, Int.reduceAdd, Int.reduceSub, Int.reduceMul, Int.reduceNeg, Int.reduceBEq, Int.reduceBNe, b_il_Right, gs_il_Right, h, Ins.c]
  cases h0 : (i.ar == 0)
  · simp -implicitDefEqProofs only [eqs, eqd, eqe, lh_some, ↓reduceIte, reduceCtorEq, Nat.reduceEqDiff, Nat.reduceAdd, Nat.reduceSub, Nat.reduceMul, Nat.reduceLT, Nat.reduceLeDiff, Nat.reduceBEq, Nat.reduceBNe, Nat.reduceGT, Int.reduceEq, Int.reduceLT, Int.reduceLE, Int.reduceToNat, Int.reduceAdd, Int.reduceSub, Int.reduceMul, Int.reduceNeg, Int.reduceBEq, Int.reduceBNe, b_il_Right, gs_il_Right, h, Ins.c, h0]
  try simp -implicitDefEqProofs only [eqs, eqd, eqe, lh_some, ↓reduceIte, reduceCtorEq, Nat.reduceEqDiff, Nat.reduceAdd, Nat.reduceSub, Nat.reduceMul, Nat.reduceLT, Nat.reduceLeDiff, Nat.reduceBEq, Nat.reduceBNe, Nat.reduceGT, Int.reduceEq, Int.reduceLT, Int.reduceLE, Int.reduceToNat, Int.reduceAdd, Int.reduceSub, Int.reduceMul, Int.reduceNeg, Int.reduceBEq, Int.reduceBNe, b_il_Right, gs_il_Right, h, Ins.c, h0]
  cases h1 : (i.n == 0)
  · simp -implicitDefEqProofs only [eqs, eqd, eqe, lh_some, ↓reduceIte, reduceCtorEq, Nat.reduceEqDiff, Nat.reduceAdd, Nat.reduceSub, Nat.reduceMul, Nat.reduceLT, Nat.reduceLeDiff, Nat.reduceBEq, Nat.reduceBNe, Nat.reduceGT, Int.reduceEq, Int.reduceLT, Int.reduceLE, Int.reduceToNat, Int.reduceAdd, Int.reduceSub, Int.reduceMul, Int.reduceNeg, Int.reduceBEq, Int.reduceBNe, b_il_Right, gs_il_Right, h, Ins.c, h0, h1]
  try simp -implicitDefEqProofs only [eqs, eqd, eqe, lh_some, ↓reduceIte, reduceCtorEq, Nat.reduceEqDiff, Nat.reduceAdd, Nat.reduceSub, Nat.reduceMul, Nat.reduceLT, Nat.reduceLeDiff, Nat.reduceBEq, Nat.reduceBNe, Nat.reduceGT, Int.reduceEq, Int.reduceLT, Int.reduceLE, Int.reduceToNat, Int.reduceAdd, Int.reduceSub, Int.reduceMul, Int.reduceNeg, Int.reduceBEq, Int.reduceBNe, b_il_Right, gs_il_Right, h, Ins.c, h0, h1]
  cases h2 : (i.k == 0)
  · simp -implicitDefEqProofs only [eqs, eqd, eqe, lh_some, ↓reduceIte, reduceCtorEq, Nat.reduceEqDiff, Nat.reduceAdd, Nat.reduceSub, Nat.reduceMul, Nat.reduceLT, Nat.reduceLeDiff, Nat.reduceBEq, Nat.reduceBNe, Nat.reduceGT, Int.reduceEq, Int.reduceLT, Int.reduceLE, Int.reduceToNat, Int.reduceAdd, Int.reduceSub, Int.reduceMul, Int.reduceNeg, Int.reduceBEq, Int.reduceBNe, b_il_Right, gs_il_Right, h, Ins.c, h0, h1, h2]
  simp -implicitDefEqProofs only [eqs, eqd, eqe, lh_some, ↓reduceIte, reduceCtorEq, Nat.reduceEqDiff, Nat.reduceAdd, Nat.reduceSub, Nat.reduceMul, Nat.reduceLT, Nat.reduceLeDiff, Nat.reduceBEq, Nat.reduceBNe, Nat.reduceGT, Int.reduceEq, Int.reduceLT, Int.reduceLE, Int.reduceToNat, Int.reduceAdd, Int.reduceSub, Int.reduceMul, Int.reduceNeg, Int.reduceBEq, Int.reduceBNe, b_il_Right, gs_il_Right, h, Ins.c, h0, h1, h2]
theorem right_5 (k : Nat) (i : Ins) (hc : cl i.op = 5) : acall T (k + 5) 60 0 [.agg i.c] [] = some ⟨.v (.bool (right i)), [], 1⟩ := by
  rw [acall_go (body := b_il_Right) rfl rfl (Nat.zero_le _)]
  obtain ⟨s, h⟩ := ilof_a (k + 2) i.op
  rw [hc] at h
  unfold right
  rw [hc]
  simp only [Int.reduceEq, if_true, if_false]
  have hz := ksize_a (k + 1) i.k
  try simp -implicitDefEqProofs only [eqs, eqd, eqe, lh_some, ↓reduceIte, reduceCtorEq, Nat.reduceEqDiff, Nat.reduceAdd, Nat.reduceSub, Nat.reduceMul, Nat.reduceLT, Nat.reduceLeDiff, Nat.reduceBEq, Nat.reduceBNe, Nat.reduceGT, Int.reduceEq, Int.reduceLT, Int.reduceLE, Int.reduceToNat, Int.reduceAdd, Int.reduceSub, Int.reduceMul, Int.reduceNeg, Int.reduceBEq, Int.reduceBNe, b_il_Right, gs_il_Right, h, Ins.c, hz]
  cases h0 : (i.ar == 0)
  · simp -implicitDefEqProofs only [eqs, eqd, eqe, lh_some, ↓reduceIte, reduceCtorEq, Nat.reduceEqDiff, Nat.reduceAdd, Nat.reduceSub, Nat.reduceMul, Nat.reduceLT, Nat.reduceLeDiff, Nat.reduceBEq, Nat.reduceBNe, Nat.reduceGT, Int.reduceEq, Int.reduceLT, Int.reduceLE, Int.reduceToNat, Int.reduceAdd, Int.reduceSub, Int.reduceMul, Int.reduceNeg, Int.reduceBEq, Int.reduceBNe, b_il_Right, gs_il_Right, h, Ins.c, hz, h0]
  try simp -implicitDefEqProofs only [eqs, eqd, eqe, lh_some, ↓reduceIte, reduceCtorEq, Nat.reduceEqDiff, Nat.reduceAdd, Nat.reduceSub, Nat.reduceMul, Nat.reduceLT, Nat.reduceLeDiff, Nat.reduceBEq, Nat.reduceBNe, Nat.reduceGT, Int.reduceEq, Int.reduceLT, Int.reduceLE, Int.reduceToNat, Int.reduceAdd, Int.reduceSub, Int.reduceMul, Int.reduceNeg, Int.reduceBEq, Int.reduceBNe, b_il_Right, gs_il_Right, h, Ins.c, hz, h0]
  cases h1 : (i.n == 0)
  · simp -implicitDefEqProofs only [eqs, eqd, eqe, lh_some, ↓reduceIte, reduceCtorEq, Nat.reduceEqDiff, Nat.reduceAdd, Nat.reduceSub, Nat.reduceMul, Nat.reduceLT, Nat.reduceLeDiff, Nat.reduceBEq, Nat.reduceBNe, Nat.reduceGT, Int.reduceEq, Int.reduceLT, Int.reduceLE, Int.reduceToNat, Int.reduceAdd, Int.reduceSub, Int.reduceMul, Int.reduceNeg, Int.reduceBEq, Int.reduceBNe, b_il_Right, gs_il_Right, h, Ins.c, hz, h0, h1]
  try simp -implicitDefEqProofs only [eqs, eqd, eqe, lh_some, ↓reduceIte, reduceCtorEq, Nat.reduceEqDiff, Nat.reduceAdd, Nat.reduceSub, Nat.reduceMul, Nat.reduceLT, Nat.reduceLeDiff, Nat.reduceBEq, Nat.reduceBNe, Nat.reduceGT, Int.reduceEq, Int.reduceLT, Int.reduceLE, Int.reduceToNat, Int.reduceAdd, Int.reduceSub, Int.reduceMul, Int.reduceNeg, Int.reduceBEq, Int.reduceBNe, b_il_Right, gs_il_Right, h, Ins.c, hz, h0, h1]
  cases h2 : (i.at_ == 0)
  · simp -implicitDefEqProofs only [eqs, eqd, eqe, lh_some, ↓reduceIte, reduceCtorEq, Nat.reduceEqDiff, Nat.reduceAdd, Nat.reduceSub, Nat.reduceMul, Nat.reduceLT, Nat.reduceLeDiff, Nat.reduceBEq, Nat.reduceBNe, Nat.reduceGT, Int.reduceEq, Int.reduceLT, Int.reduceLE, Int.reduceToNat, Int.reduceAdd, Int.reduceSub, Int.reduceMul, Int.reduceNeg, Int.reduceBEq, Int.reduceBNe, b_il_Right, gs_il_Right, h, Ins.c, hz, h0, h1, h2]
  simp -implicitDefEqProofs only [eqs, eqd, eqe, lh_some, ↓reduceIte, reduceCtorEq, Nat.reduceEqDiff, Nat.reduceAdd, Nat.reduceSub, Nat.reduceMul, Nat.reduceLT, Nat.reduceLeDiff, Nat.reduceBEq, Nat.reduceBNe, Nat.reduceGT, Int.reduceEq, Int.reduceLT, Int.reduceLE, Int.reduceToNat, Int.reduceAdd, Int.reduceSub, Int.reduceMul, Int.reduceNeg, Int.reduceBEq, Int.reduceBNe, b_il_Right, gs_il_Right, h, Ins.c, hz, h0, h1, h2]
theorem right_6 (k : Nat) (i : Ins) (hc : cl i.op = 6) : acall T (k + 5) 60 0 [.agg i.c] [] = some ⟨.v (.bool (right i)), [], 1⟩ := by
  rw [acall_go (body := b_il_Right) rfl rfl (Nat.zero_le _)]
  obtain ⟨s, h⟩ := ilof_a (k + 2) i.op
  rw [hc] at h
  unfold right
  rw [hc]
  simp only [Int.reduceEq, if_true, if_false]
  have hz := within_a (k + 1) i.at_
  try simp -implicitDefEqProofs only [eqs, eqd, eqe, lh_some, ↓reduceIte, reduceCtorEq, Nat.reduceEqDiff, Nat.reduceAdd, Nat.reduceSub, Nat.reduceMul, Nat.reduceLT, Nat.reduceLeDiff, Nat.reduceBEq, Nat.reduceBNe, Nat.reduceGT, Int.reduceEq, Int.reduceLT, Int.reduceLE, Int.reduceToNat, Int.reduceAdd, Int.reduceSub, Int.reduceMul, Int.reduceNeg, Int.reduceBEq, Int.reduceBNe, b_il_Right, gs_il_Right, h, Ins.c, hz]
  cases h0 : (i.ar == 0)
  · simp -implicitDefEqProofs only [eqs, eqd, eqe, lh_some, ↓reduceIte, reduceCtorEq, Nat.reduceEqDiff, Nat.reduceAdd, Nat.reduceSub, Nat.reduceMul, Nat.reduceLT, Nat.reduceLeDiff, Nat.reduceBEq, Nat.reduceBNe, Nat.reduceGT, Int.reduceEq, Int.reduceLT, Int.reduceLE, Int.reduceToNat, Int.reduceAdd, Int.reduceSub, Int.reduceMul, Int.reduceNeg, Int.reduceBEq, Int.reduceBNe, b_il_Right, gs_il_Right, h, Ins.c, hz, h0]
  try simp -implicitDefEqProofs only [eqs, eqd, eqe, lh_some, ↓reduceIte, reduceCtorEq, Nat.reduceEqDiff, Nat.reduceAdd, Nat.reduceSub, Nat.reduceMul, Nat.reduceLT, Nat.reduceLeDiff, Nat.reduceBEq, Nat.reduceBNe, Nat.reduceGT, Int.reduceEq, Int.reduceLT, Int.reduceLE, Int.reduceToNat, Int.reduceAdd, Int.reduceSub, Int.reduceMul, Int.reduceNeg, Int.reduceBEq, Int.reduceBNe, b_il_Right, gs_il_Right, h, Ins.c, hz, h0]
  cases h1 : (i.n == 0)
  · simp -implicitDefEqProofs only [eqs, eqd, eqe, lh_some, ↓reduceIte, reduceCtorEq, Nat.reduceEqDiff, Nat.reduceAdd, Nat.reduceSub, Nat.reduceMul, Nat.reduceLT, Nat.reduceLeDiff, Nat.reduceBEq, Nat.reduceBNe, Nat.reduceGT, Int.reduceEq, Int.reduceLT, Int.reduceLE, Int.reduceToNat, Int.reduceAdd, Int.reduceSub, Int.reduceMul, Int.reduceNeg, Int.reduceBEq, Int.reduceBNe, b_il_Right, gs_il_Right, h, Ins.c, hz, h0, h1]
  try simp -implicitDefEqProofs only [eqs, eqd, eqe, lh_some, ↓reduceIte, reduceCtorEq, Nat.reduceEqDiff, Nat.reduceAdd, Nat.reduceSub, Nat.reduceMul, Nat.reduceLT, Nat.reduceLeDiff, Nat.reduceBEq, Nat.reduceBNe, Nat.reduceGT, Int.reduceEq, Int.reduceLT, Int.reduceLE, Int.reduceToNat, Int.reduceAdd, Int.reduceSub, Int.reduceMul, Int.reduceNeg, Int.reduceBEq, Int.reduceBNe, b_il_Right, gs_il_Right, h, Ins.c, hz, h0, h1]
  cases h2 : (i.k == 0)
  · simp -implicitDefEqProofs only [eqs, eqd, eqe, lh_some, ↓reduceIte, reduceCtorEq, Nat.reduceEqDiff, Nat.reduceAdd, Nat.reduceSub, Nat.reduceMul, Nat.reduceLT, Nat.reduceLeDiff, Nat.reduceBEq, Nat.reduceBNe, Nat.reduceGT, Int.reduceEq, Int.reduceLT, Int.reduceLE, Int.reduceToNat, Int.reduceAdd, Int.reduceSub, Int.reduceMul, Int.reduceNeg, Int.reduceBEq, Int.reduceBNe, b_il_Right, gs_il_Right, h, Ins.c, hz, h0, h1, h2]
  simp -implicitDefEqProofs only [eqs, eqd, eqe, lh_some, ↓reduceIte, reduceCtorEq, Nat.reduceEqDiff, Nat.reduceAdd, Nat.reduceSub, Nat.reduceMul, Nat.reduceLT, Nat.reduceLeDiff, Nat.reduceBEq, Nat.reduceBNe, Nat.reduceGT, Int.reduceEq, Int.reduceLT, Int.reduceLE, Int.reduceToNat, Int.reduceAdd, Int.reduceSub, Int.reduceMul, Int.reduceNeg, Int.reduceBEq, Int.reduceBNe, b_il_Right, gs_il_Right, h, Ins.c, hz, h0, h1, h2]
theorem right_7 (k : Nat) (i : Ins) (hc : cl i.op = 7) : acall T (k + 5) 60 0 [.agg i.c] [] = some ⟨.v (.bool (right i)), [], 1⟩ := by
  rw [acall_go (body := b_il_Right) rfl rfl (Nat.zero_le _)]
  obtain ⟨s, h⟩ := ilof_a (k + 2) i.op
  rw [hc] at h
  unfold right
  rw [hc]
  simp only [Int.reduceEq, if_true, if_false]
  have hz := keeps_a (k + 3) i.ar
  generalize (i.ar == 3 || i.ar == 4) = kp at *
  cases p0 : (i.ar == 0) <;> cases p1 : (i.n == 0) <;> (
    try simp -implicitDefEqProofs only [eqs, eqd, eqe, lh_some, ↓reduceIte, reduceCtorEq, Nat.reduceEqDiff, Nat.reduceAdd, Nat.reduceSub, Nat.reduceMul, Nat.reduceLT, Nat.reduceLeDiff, Nat.reduceBEq, Nat.reduceBNe, Nat.reduceGT, Int.reduceEq, Int.reduceLT, Int.reduceLE, Int.reduceToNat, Int.reduceAdd, Int.reduceSub, Int.reduceMul, Int.reduceNeg, Int.reduceBEq, Int.reduceBNe, b_il_Right, gs_il_Right, h, Ins.c, hz, p0, p1]
    cases h0 : (i.k == 0)
    · simp -implicitDefEqProofs only [eqs, eqd, eqe, lh_some, ↓reduceIte, reduceCtorEq, Nat.reduceEqDiff, Nat.reduceAdd, Nat.reduceSub, Nat.reduceMul, Nat.reduceLT, Nat.reduceLeDiff, Nat.reduceBEq, Nat.reduceBNe, Nat.reduceGT, Int.reduceEq, Int.reduceLT, Int.reduceLE, Int.reduceToNat, Int.reduceAdd, Int.reduceSub, Int.reduceMul, Int.reduceNeg, Int.reduceBEq, Int.reduceBNe, b_il_Right, gs_il_Right, h, Ins.c, hz, p0, p1, h0]
    try simp -implicitDefEqProofs only [eqs, eqd, eqe, lh_some, ↓reduceIte, reduceCtorEq, Nat.reduceEqDiff, Nat.reduceAdd, Nat.reduceSub, Nat.reduceMul, Nat.reduceLT, Nat.reduceLeDiff, Nat.reduceBEq, Nat.reduceBNe, Nat.reduceGT, Int.reduceEq, Int.reduceLT, Int.reduceLE, Int.reduceToNat, Int.reduceAdd, Int.reduceSub, Int.reduceMul, Int.reduceNeg, Int.reduceBEq, Int.reduceBNe, b_il_Right, gs_il_Right, h, Ins.c, hz, p0, p1, h0]
    cases kp
    · simp -implicitDefEqProofs only [eqs, eqd, eqe, lh_some, ↓reduceIte, reduceCtorEq, Nat.reduceEqDiff, Nat.reduceAdd, Nat.reduceSub, Nat.reduceMul, Nat.reduceLT, Nat.reduceLeDiff, Nat.reduceBEq, Nat.reduceBNe, Nat.reduceGT, Int.reduceEq, Int.reduceLT, Int.reduceLE, Int.reduceToNat, Int.reduceAdd, Int.reduceSub, Int.reduceMul, Int.reduceNeg, Int.reduceBEq, Int.reduceBNe, b_il_Right, gs_il_Right, h, Ins.c, hz, p0, p1, h0]
    try simp -implicitDefEqProofs only [eqs, eqd, eqe, lh_some, ↓reduceIte, reduceCtorEq, Nat.reduceEqDiff, Nat.reduceAdd, Nat.reduceSub, Nat.reduceMul, Nat.reduceLT, Nat.reduceLeDiff, Nat.reduceBEq, Nat.reduceBNe, Nat.reduceGT, Int.reduceEq, Int.reduceLT, Int.reduceLE, Int.reduceToNat, Int.reduceAdd, Int.reduceSub, Int.reduceMul, Int.reduceNeg, Int.reduceBEq, Int.reduceBNe, b_il_Right, gs_il_Right, h, Ins.c, hz, p0, p1, h0]
    cases h2 : decide (0 ≤ i.at_)
    · simp -implicitDefEqProofs only [eqs, eqd, eqe, lh_some, ↓reduceIte, reduceCtorEq, Nat.reduceEqDiff, Nat.reduceAdd, Nat.reduceSub, Nat.reduceMul, Nat.reduceLT, Nat.reduceLeDiff, Nat.reduceBEq, Nat.reduceBNe, Nat.reduceGT, Int.reduceEq, Int.reduceLT, Int.reduceLE, Int.reduceToNat, Int.reduceAdd, Int.reduceSub, Int.reduceMul, Int.reduceNeg, Int.reduceBEq, Int.reduceBNe, b_il_Right, gs_il_Right, h, Ins.c, hz, p0, p1, h0, h2]
    try simp -implicitDefEqProofs only [eqs, eqd, eqe, lh_some, ↓reduceIte, reduceCtorEq, Nat.reduceEqDiff, Nat.reduceAdd, Nat.reduceSub, Nat.reduceMul, Nat.reduceLT, Nat.reduceLeDiff, Nat.reduceBEq, Nat.reduceBNe, Nat.reduceGT, Int.reduceEq, Int.reduceLT, Int.reduceLE, Int.reduceToNat, Int.reduceAdd, Int.reduceSub, Int.reduceMul, Int.reduceNeg, Int.reduceBEq, Int.reduceBNe, b_il_Right, gs_il_Right, h, Ins.c, hz, p0, p1, h0, h2]
    cases h3 : decide (i.at_ ≤ 59)
    · simp -implicitDefEqProofs only [eqs, eqd, eqe, lh_some, ↓reduceIte, reduceCtorEq, Nat.reduceEqDiff, Nat.reduceAdd, Nat.reduceSub, Nat.reduceMul, Nat.reduceLT, Nat.reduceLeDiff, Nat.reduceBEq, Nat.reduceBNe, Nat.reduceGT, Int.reduceEq, Int.reduceLT, Int.reduceLE, Int.reduceToNat, Int.reduceAdd, Int.reduceSub, Int.reduceMul, Int.reduceNeg, Int.reduceBEq, Int.reduceBNe, b_il_Right, gs_il_Right, h, Ins.c, hz, p0, p1, h0, h2, h3]
    try simp -implicitDefEqProofs only [eqs, eqd, eqe, lh_some, ↓reduceIte, reduceCtorEq, Nat.reduceEqDiff, Nat.reduceAdd, Nat.reduceSub, Nat.reduceMul, Nat.reduceLT, Nat.reduceLeDiff, Nat.reduceBEq, Nat.reduceBNe, Nat.reduceGT, Int.reduceEq, Int.reduceLT, Int.reduceLE, Int.reduceToNat, Int.reduceAdd, Int.reduceSub, Int.reduceMul, Int.reduceNeg, Int.reduceBEq, Int.reduceBNe, b_il_Right, gs_il_Right, h, Ins.c, hz, p0, p1, h0, h2, h3]
    cases h4 : decide (1 ≤ i.n)
    · simp -implicitDefEqProofs only [eqs, eqd, eqe, lh_some, ↓reduceIte, reduceCtorEq, Nat.reduceEqDiff, Nat.reduceAdd, Nat.reduceSub, Nat.reduceMul, Nat.reduceLT, Nat.reduceLeDiff, Nat.reduceBEq, Nat.reduceBNe, Nat.reduceGT, Int.reduceEq, Int.reduceLT, Int.reduceLE, Int.reduceToNat, Int.reduceAdd, Int.reduceSub, Int.reduceMul, Int.reduceNeg, Int.reduceBEq, Int.reduceBNe, b_il_Right, gs_il_Right, h, Ins.c, hz, p0, p1, h0, h2, h3, h4]
    simp -implicitDefEqProofs only [eqs, eqd, eqe, lh_some, ↓reduceIte, reduceCtorEq, Nat.reduceEqDiff, Nat.reduceAdd, Nat.reduceSub, Nat.reduceMul, Nat.reduceLT, Nat.reduceLeDiff, Nat.reduceBEq, Nat.reduceBNe, Nat.reduceGT, Int.reduceEq, Int.reduceLT, Int.reduceLE, Int.reduceToNat, Int.reduceAdd, Int.reduceSub, Int.reduceMul, Int.reduceNeg, Int.reduceBEq, Int.reduceBNe, b_il_Right, gs_il_Right, h, Ins.c, hz, p0, p1, h0, h2, h3, h4])
theorem right_8 (k : Nat) (i : Ins) (hc : cl i.op = 8) : acall T (k + 5) 60 0 [.agg i.c] [] = some ⟨.v (.bool (right i)), [], 1⟩ := by
  rw [acall_go (body := b_il_Right) rfl rfl (Nat.zero_le _)]
  obtain ⟨s, h⟩ := ilof_a (k + 2) i.op
  rw [hc] at h
  unfold right
  rw [hc]
  simp only [Int.reduceEq, if_true, if_false]
  have hz := keeps_a (k + 3) i.ar
  generalize (i.ar == 3 || i.ar == 4) = kp at *
  cases p0 : (i.ar == 0) <;> cases p1 : (i.n == 0) <;> (
    try simp -implicitDefEqProofs only [eqs, eqd, eqe, lh_some, ↓reduceIte, reduceCtorEq, Nat.reduceEqDiff, Nat.reduceAdd, Nat.reduceSub, Nat.reduceMul, Nat.reduceLT, Nat.reduceLeDiff, Nat.reduceBEq, Nat.reduceBNe, Nat.reduceGT, Int.reduceEq, Int.reduceLT, Int.reduceLE, Int.reduceToNat, Int.reduceAdd, Int.reduceSub, Int.reduceMul, Int.reduceNeg, Int.reduceBEq, Int.reduceBNe, b_il_Right, gs_il_Right, h, Ins.c, hz, p0, p1]
    cases h0 : (i.k == 0)
    · simp -implicitDefEqProofs only [eqs, eqd, eqe, lh_some, ↓reduceIte, reduceCtorEq, Nat.reduceEqDiff, Nat.reduceAdd, Nat.reduceSub, Nat.reduceMul, Nat.reduceLT, Nat.reduceLeDiff, Nat.reduceBEq, Nat.reduceBNe, Nat.reduceGT, Int.reduceEq, Int.reduceLT, Int.reduceLE, Int.reduceToNat, Int.reduceAdd, Int.reduceSub, Int.reduceMul, Int.reduceNeg, Int.reduceBEq, Int.reduceBNe, b_il_Right, gs_il_Right, h, Ins.c, hz, p0, p1, h0]
    try simp -implicitDefEqProofs only [eqs, eqd, eqe, lh_some, ↓reduceIte, reduceCtorEq, Nat.reduceEqDiff, Nat.reduceAdd, Nat.reduceSub, Nat.reduceMul, Nat.reduceLT, Nat.reduceLeDiff, Nat.reduceBEq, Nat.reduceBNe, Nat.reduceGT, Int.reduceEq, Int.reduceLT, Int.reduceLE, Int.reduceToNat, Int.reduceAdd, Int.reduceSub, Int.reduceMul, Int.reduceNeg, Int.reduceBEq, Int.reduceBNe, b_il_Right, gs_il_Right, h, Ins.c, hz, p0, p1, h0]
    cases kp
    · simp -implicitDefEqProofs only [eqs, eqd, eqe, lh_some, ↓reduceIte, reduceCtorEq, Nat.reduceEqDiff, Nat.reduceAdd, Nat.reduceSub, Nat.reduceMul, Nat.reduceLT, Nat.reduceLeDiff, Nat.reduceBEq, Nat.reduceBNe, Nat.reduceGT, Int.reduceEq, Int.reduceLT, Int.reduceLE, Int.reduceToNat, Int.reduceAdd, Int.reduceSub, Int.reduceMul, Int.reduceNeg, Int.reduceBEq, Int.reduceBNe, b_il_Right, gs_il_Right, h, Ins.c, hz, p0, p1, h0]
    try simp -implicitDefEqProofs only [eqs, eqd, eqe, lh_some, ↓reduceIte, reduceCtorEq, Nat.reduceEqDiff, Nat.reduceAdd, Nat.reduceSub, Nat.reduceMul, Nat.reduceLT, Nat.reduceLeDiff, Nat.reduceBEq, Nat.reduceBNe, Nat.reduceGT, Int.reduceEq, Int.reduceLT, Int.reduceLE, Int.reduceToNat, Int.reduceAdd, Int.reduceSub, Int.reduceMul, Int.reduceNeg, Int.reduceBEq, Int.reduceBNe, b_il_Right, gs_il_Right, h, Ins.c, hz, p0, p1, h0]
    cases h2 : decide (0 ≤ i.at_)
    · simp -implicitDefEqProofs only [eqs, eqd, eqe, lh_some, ↓reduceIte, reduceCtorEq, Nat.reduceEqDiff, Nat.reduceAdd, Nat.reduceSub, Nat.reduceMul, Nat.reduceLT, Nat.reduceLeDiff, Nat.reduceBEq, Nat.reduceBNe, Nat.reduceGT, Int.reduceEq, Int.reduceLT, Int.reduceLE, Int.reduceToNat, Int.reduceAdd, Int.reduceSub, Int.reduceMul, Int.reduceNeg, Int.reduceBEq, Int.reduceBNe, b_il_Right, gs_il_Right, h, Ins.c, hz, p0, p1, h0, h2]
    try simp -implicitDefEqProofs only [eqs, eqd, eqe, lh_some, ↓reduceIte, reduceCtorEq, Nat.reduceEqDiff, Nat.reduceAdd, Nat.reduceSub, Nat.reduceMul, Nat.reduceLT, Nat.reduceLeDiff, Nat.reduceBEq, Nat.reduceBNe, Nat.reduceGT, Int.reduceEq, Int.reduceLT, Int.reduceLE, Int.reduceToNat, Int.reduceAdd, Int.reduceSub, Int.reduceMul, Int.reduceNeg, Int.reduceBEq, Int.reduceBNe, b_il_Right, gs_il_Right, h, Ins.c, hz, p0, p1, h0, h2]
    cases h3 : decide (i.at_ < 64)
    · simp -implicitDefEqProofs only [eqs, eqd, eqe, lh_some, ↓reduceIte, reduceCtorEq, Nat.reduceEqDiff, Nat.reduceAdd, Nat.reduceSub, Nat.reduceMul, Nat.reduceLT, Nat.reduceLeDiff, Nat.reduceBEq, Nat.reduceBNe, Nat.reduceGT, Int.reduceEq, Int.reduceLT, Int.reduceLE, Int.reduceToNat, Int.reduceAdd, Int.reduceSub, Int.reduceMul, Int.reduceNeg, Int.reduceBEq, Int.reduceBNe, b_il_Right, gs_il_Right, h, Ins.c, hz, p0, p1, h0, h2, h3]
    simp -implicitDefEqProofs only [eqs, eqd, eqe, lh_some, ↓reduceIte, reduceCtorEq, Nat.reduceEqDiff, Nat.reduceAdd, Nat.reduceSub, Nat.reduceMul, Nat.reduceLT, Nat.reduceLeDiff, Nat.reduceBEq, Nat.reduceBNe, Nat.reduceGT, Int.reduceEq, Int.reduceLT, Int.reduceLE, Int.reduceToNat, Int.reduceAdd, Int.reduceSub, Int.reduceMul, Int.reduceNeg, Int.reduceBEq, Int.reduceBNe, b_il_Right, gs_il_Right, h, Ins.c, hz, p0, p1, h0, h2, h3])
theorem right_0 (k : Nat) (i : Ins) (hc : cl i.op = 0) : acall T (k + 5) 60 0 [.agg i.c] [] = some ⟨.v (.bool (right i)), [], 1⟩ := by
  rw [acall_go (body := b_il_Right) rfl rfl (Nat.zero_le _)]
  obtain ⟨s, h⟩ := ilof_a (k + 2) i.op
  rw [hc] at h
  unfold right
  rw [hc]
  simp only [Int.reduceEq, if_true, if_false]
  cases p0 : (i.ar == 0) <;> cases p1 : (i.n == 0) <;> simp -implicitDefEqProofs only [eqs, eqd, eqe, lh_some, ↓reduceIte, reduceCtorEq, Nat.reduceEqDiff, Nat.reduceAdd, Nat.reduceSub, Nat.reduceMul, Nat.reduceLT, Nat.reduceLeDiff, Nat.reduceBEq, Nat.reduceBNe, Nat.reduceGT, Int.reduceEq, Int.reduceLT, Int.reduceLE, Int.reduceToNat, Int.reduceAdd, Int.reduceSub, Int.reduceMul, Int.reduceNeg, Int.reduceBEq, Int.reduceBNe, b_il_Right, gs_il_Right, h, Ins.c, p0, p1]
theorem right_a (k : Nat) (i : Ins) : acall T (k + 5) 60 0 [.agg i.c] [] = some ⟨.v (.bool (right i)), [], 1⟩ := by
  have h : cl i.op = 0 ∨ cl i.op = 1 ∨ cl i.op = 2 ∨ cl i.op = 3 ∨ cl i.op = 4 ∨ cl i.op = 5 ∨ cl i.op = 6 ∨ cl i.op = 7 ∨ cl i.op = 8 := by
    unfold cl
    repeat' split
    all_goals omega
  rcases h with h | h | h | h | h | h | h | h | h
  · exact right_0 k i h
  · exact right_1 k i h
  · exact right_2 k i h
  · exact right_3 k i h
  · exact right_4 k i h
  · exact right_5 k i h
  · exact right_6 k i h
  · exact right_7 k i h
  · exact right_8 k i h
end Go.Proofs.Ytcfokbhmchcgbaa.Ver

/- Instructions that may be: the document's answer. Written by a program for this claim. -/
namespace Go.Proofs.Ytcfokbhmchcgbaa.Ver
open Go Go.Proofs.Ytcfokbhmchcgbaa.Sym Go.Proofs.Ytcfokbhmchcgbaa.Tab
set_option linter.unusedVariables false
set_option linter.unusedSimpArgs false
set_option maxHeartbeats 4000000
set_option maxRecDepth 20000
structure Ins.In (i : Ins) : Prop where
  op : -9223372036854775808 ≤ i.op ∧ i.op ≤ 9223372036854775807
  k : -9223372036854775808 ≤ i.k ∧ i.k ≤ 9223372036854775807
  ar : -9223372036854775808 ≤ i.ar ∧ i.ar ≤ 9223372036854775807
  at_ : -9223372036854775808 ≤ i.at_ ∧ i.at_ ≤ 9223372036854775807
  n : -9223372036854775808 ≤ i.n ∧ i.n ≤ 9223372036854775807
theorem cl_in (op : Int) : (cl op = 0 ∧ (op < 1 ∨ 36 < op)) ∨ (cl op = 1) ∨ (cl op = 2) ∨ (cl op = 3 ∧ 25 ≤ op ∧ op ≤ 27) ∨ (cl op = 4 ∧ (op = 13 ∨ (28 ≤ op ∧ op ≤ 30) ∨ op = 33)) ∨ (cl op = 5 ∧ op = 31) ∨ (cl op = 6 ∧ op = 32) ∨ (cl op = 7 ∧ (op = 34 ∨ op = 35)) ∨ (cl op = 8 ∧ op = 36) := by
  unfold cl
  repeat' split
  all_goals omega
end Go.Proofs.Ytcfokbhmchcgbaa.Ver

/- What is ahead of an instruction: package verify's small functions. -/
namespace Go.Proofs.Ytcfokbhmchcgbaa.Ver
open Go Go.Proofs.Ytcfokbhmchcgbaa.Sym Go.Proofs.Ytcfokbhmchcgbaa.Tab
set_option linter.unusedVariables false
set_option linter.unusedSimpArgs false
set_option maxHeartbeats 4000000
set_option maxRecDepth 20000
def brs (bs : List (Int × Int)) : List AV := bs.flatMap fun p => [.v (.int .i64 p.1), .v (.int .i64 p.2)]
theorem brs_len {bs : List (Int × Int)} : (brs bs).length = bs.length * 2 := by
  induction bs with
  | nil => rfl
  | cons p bs ih => rw [show brs (p :: bs) = .v (.int .i64 p.1) :: .v (.int .i64 p.2) :: brs bs from rfl]; simp only [List.length_cons, ih]; omega
theorem brs_flat {bs : List (Int × Int)} : (brs bs).all flat0 = true := by
  induction bs with
  | nil => rfl
  | cons p bs ih => rw [show brs (p :: bs) = .v (.int .i64 p.1) :: .v (.int .i64 p.2) :: brs bs from rfl]; simp only [List.all_cons, ih]; rfl
theorem brs_atom {bs : List (Int × Int)} : (brs bs).all atom = true := by
  induction bs with
  | nil => rfl
  | cons p bs ih => rw [show brs (p :: bs) = .v (.int .i64 p.1) :: .v (.int .i64 p.2) :: brs bs from rfl]; simp only [List.all_cons, ih]; rfl
theorem brs_snoc {bs : List (Int × Int)} {a b : Int} : brs bs ++ [.v (.int .i64 a), .v (.int .i64 b)] = brs (bs ++ [(a, b)]) := by simp [brs]
theorem brs_take {bs : List (Int × Int)} : (brs bs).take (bs.length * 2) = brs bs := by rw [← brs_len, List.take_length]
def openA (nil : Bool) (bs : List (Int × Int)) : AV := if nil = true then .v (.slice none 0 0) else .shr bs.length false (brs bs)
structure Ah where
  k : Int
  nil : Bool
  bs : List (Int × Int)
def Ah.c (a : Ah) : List AV := [.v (.int .i64 a.k), openA a.nil a.bs]
structure Ah.In (a : Ah) : Prop where
  nil : a.nil = true → a.bs = []
  len : a.bs.length ≤ 8
def must (b : Bool) : Int := if b = true then 0 else 6
def logic (k : Int) : Bool := may 13 k
def made (op k : Int) : Int := if 19 ≤ op ∧ op ≤ 24 then 1 else k
theorem must_a (k : Nat) (b : Bool) : acall T (k + 1) 81 0 [.v (.bool b)] [] = some ⟨.v (.int .i64 (must b)), [], 0⟩ := by
  rw [acall_go (body := b_verify_must) rfl rfl (Nat.zero_le _)]
  cases b <;> simp -implicitDefEqProofs only [eqs, eqd, eqe, lh_some, ↓reduceIte, reduceCtorEq, Nat.reduceEqDiff, Nat.reduceAdd, Nat.reduceSub, Nat.reduceMul, Nat.reduceLT, Nat.reduceLeDiff, Nat.reduceBEq, Nat.reduceBNe, Nat.reduceGT, Int.reduceEq, Int.reduceLT, Int.reduceLE, Int.reduceToNat, Int.reduceAdd, Int.reduceSub, Int.reduceMul, Int.reduceNeg, Int.reduceBEq, Int.reduceBNe, b_verify_must, must]
theorem logic_a (k : Nat) (n : Int) : acall T (k + 4) 82 0 [.v (.int .i64 n)] [] = some ⟨.v (.bool (logic n)), [], 1⟩ := by
  rw [acall_go (body := b_verify_logic) rfl rfl (Nat.zero_le _)]
  have h := may_a k 13 n
  simp -implicitDefEqProofs only [eqs, eqd, eqe, lh_some, ↓reduceIte, reduceCtorEq, Nat.reduceEqDiff, Nat.reduceAdd, Nat.reduceSub, Nat.reduceMul, Nat.reduceLT, Nat.reduceLeDiff, Nat.reduceBEq, Nat.reduceBNe, Nat.reduceGT, Int.reduceEq, Int.reduceLT, Int.reduceLE, Int.reduceToNat, Int.reduceAdd, Int.reduceSub, Int.reduceMul, Int.reduceNeg, Int.reduceBEq, Int.reduceBNe, b_verify_logic, h, logic]
theorem made_a (k : Nat) (op n : Int) : acall T (k + 1) 86 0 [.v (.int .i64 op), .v (.int .i64 n)] [] = some ⟨.v (.int .i64 (made op n)), [], 0⟩ := by
  rw [acall_go (body := b_verify_made) rfl rfl (Nat.zero_le _)]
  unfold made
  by_cases c1 : 19 ≤ op <;> by_cases c2 : op ≤ 24 <;> simp -implicitDefEqProofs only [eqs, eqd, eqe, lh_some, ↓reduceIte, reduceCtorEq, Nat.reduceEqDiff, Nat.reduceAdd, Nat.reduceSub, Nat.reduceMul, Nat.reduceLT, Nat.reduceLeDiff, Nat.reduceBEq, Nat.reduceBNe, Nat.reduceGT, Int.reduceEq, Int.reduceLT, Int.reduceLE, Int.reduceToNat, Int.reduceAdd, Int.reduceSub, Int.reduceMul, Int.reduceNeg, Int.reduceBEq, Int.reduceBNe, b_verify_made, c1, c2]
theorem with_a (k : Nat) (n : Int) (o : AV) (h1 : atom o = true) (h2 : flat0 o = true) (h3 : refs0 o = []) (h4 : ∀ f, ren0 f o = o) (m : Int) : acall T (k + 1) 80 0 [.agg [.v (.int .i64 n), o], .v (.int .i64 m)] [] = some ⟨.agg [.v (.int .i64 m), o], [], 1⟩ := by
  rw [acall_go (body := b_verify_ahead_with) rfl rfl (Nat.zero_le _)]
  generalize hf : (atom o) = ao at *
  subst h1
  cases o <;> first | (simp only [flat0, Bool.false_eq_true] at h2; done) | simp -implicitDefEqProofs only [eqs, eqd, eqe, lh_some, ↓reduceIte, reduceCtorEq, Nat.reduceEqDiff, Nat.reduceAdd, Nat.reduceSub, Nat.reduceMul, Nat.reduceLT, Nat.reduceLeDiff, Nat.reduceBEq, Nat.reduceBNe, Nat.reduceGT, Int.reduceEq, Int.reduceLT, Int.reduceLE, Int.reduceToNat, Int.reduceAdd, Int.reduceSub, Int.reduceMul, Int.reduceNeg, Int.reduceBEq, Int.reduceBNe, b_verify_ahead_with]
theorem ret_a (k : Nat) (a : Ah) (ha : a.In) (op : Int) : acall T (k + 1) 83 0 [.agg a.c, .v (.int .i64 op)] [] = some ⟨.tup [.agg a.c, .v (.int .i64 (if op ≠ 28 ∧ a.k ≠ 1 then 6 else if 0 < a.bs.length then 3 else 0))], [], 1⟩ := by
  rw [acall_go (body := b_verify_ahead_ret) rfl rfl (Nat.zero_le _)]
  obtain ⟨n, nil, bs⟩ := a
  have hn := ha.nil
  simp only at hn
  have key : acall T 0 0 0 [] [] = none := rfl
  cases nil
  · simp only [Ah.c, openA, Bool.false_eq_true, if_false]
    by_cases c1 : op = 28
    · have d1 : (op != 28) = false := by simp [c1]
      by_cases c3 : 0 < bs.length
      · have c3' : (0 : Int) < bs.length := by omega
        simp -implicitDefEqProofs only [eqs, eqd, eqe, lh_some, ↓reduceIte, reduceCtorEq, Nat.reduceEqDiff, Nat.reduceAdd, Nat.reduceSub, Nat.reduceMul, Nat.reduceLT, Nat.reduceLeDiff, Nat.reduceBEq, Nat.reduceBNe, Nat.reduceGT, Int.reduceEq, Int.reduceLT, Int.reduceLE, Int.reduceToNat, Int.reduceAdd, Int.reduceSub, Int.reduceMul, Int.reduceNeg, Int.reduceBEq, Int.reduceBNe, b_verify_ahead_ret, g_verify_ahead_ret_0, d1, c1, c3, c3']
      · have c3' : ¬ (0 : Int) < bs.length := by omega
        simp -implicitDefEqProofs only [eqs, eqd, eqe, lh_some, ↓reduceIte, reduceCtorEq, Nat.reduceEqDiff, Nat.reduceAdd, Nat.reduceSub, Nat.reduceMul, Nat.reduceLT, Nat.reduceLeDiff, Nat.reduceBEq, Nat.reduceBNe, Nat.reduceGT, Int.reduceEq, Int.reduceLT, Int.reduceLE, Int.reduceToNat, Int.reduceAdd, Int.reduceSub, Int.reduceMul, Int.reduceNeg, Int.reduceBEq, Int.reduceBNe, b_verify_ahead_ret, g_verify_ahead_ret_0, d1, c1, c3, c3']
    · have d1 : (op != 28) = true := by simp [c1]
      by_cases c2 : n = 1
      · have d2 : (n != 1) = false := by simp [c2]
        by_cases c3 : 0 < bs.length
        · have c3' : (0 : Int) < bs.length := by omega
          simp -implicitDefEqProofs only [eqs, eqd, eqe, lh_some, ↓reduceIte, reduceCtorEq, Nat.reduceEqDiff, Nat.reduceAdd, Nat.reduceSub, Nat.reduceMul, Nat.reduceLT, Nat.reduceLeDiff, Nat.reduceBEq, Nat.reduceBNe, Nat.reduceGT, Int.reduceEq, Int.reduceLT, Int.reduceLE, Int.reduceToNat, Int.reduceAdd, Int.reduceSub, Int.reduceMul, Int.reduceNeg, Int.reduceBEq, Int.reduceBNe, b_verify_ahead_ret, g_verify_ahead_ret_0, d1, d2, c1, c2, c3, c3']
        · have c3' : ¬ (0 : Int) < bs.length := by omega
          simp -implicitDefEqProofs only [eqs, eqd, eqe, lh_some, ↓reduceIte, reduceCtorEq, Nat.reduceEqDiff, Nat.reduceAdd, Nat.reduceSub, Nat.reduceMul, Nat.reduceLT, Nat.reduceLeDiff, Nat.reduceBEq, Nat.reduceBNe, Nat.reduceGT, Int.reduceEq, Int.reduceLT, Int.reduceLE, Int.reduceToNat, Int.reduceAdd, Int.reduceSub, Int.reduceMul, Int.reduceNeg, Int.reduceBEq, Int.reduceBNe, b_verify_ahead_ret, g_verify_ahead_ret_0, d1, d2, c1, c2, c3, c3']
      · have d2 : (n != 1) = true := by simp [c2]
        simp -implicitDefEqProofs only [eqs, eqd, eqe, lh_some, ↓reduceIte, reduceCtorEq, Nat.reduceEqDiff, Nat.reduceAdd, Nat.reduceSub, Nat.reduceMul, Nat.reduceLT, Nat.reduceLeDiff, Nat.reduceBEq, Nat.reduceBNe, Nat.reduceGT, Int.reduceEq, Int.reduceLT, Int.reduceLE, Int.reduceToNat, Int.reduceAdd, Int.reduceSub, Int.reduceMul, Int.reduceNeg, Int.reduceBEq, Int.reduceBNe, b_verify_ahead_ret, g_verify_ahead_ret_0, d1, d2, c1, c2]
  · obtain rfl := hn rfl
    simp only [Ah.c, openA, if_true]
    by_cases c1 : op = 28
    · have d1 : (op != 28) = false := by simp [c1]
      simp -implicitDefEqProofs only [eqs, eqd, eqe, lh_some, ↓reduceIte, reduceCtorEq, Nat.reduceEqDiff, Nat.reduceAdd, Nat.reduceSub, Nat.reduceMul, Nat.reduceLT, Nat.reduceLeDiff, Nat.reduceBEq, Nat.reduceBNe, Nat.reduceGT, Int.reduceEq, Int.reduceLT, Int.reduceLE, Int.reduceToNat, Int.reduceAdd, Int.reduceSub, Int.reduceMul, Int.reduceNeg, Int.reduceBEq, Int.reduceBNe, b_verify_ahead_ret, g_verify_ahead_ret_0, d1, c1]
    · have d1 : (op != 28) = true := by simp [c1]
      by_cases c2 : n = 1
      · have d2 : (n != 1) = false := by simp [c2]
        simp -implicitDefEqProofs only [eqs, eqd, eqe, lh_some, ↓reduceIte, reduceCtorEq, Nat.reduceEqDiff, Nat.reduceAdd, Nat.reduceSub, Nat.reduceMul, Nat.reduceLT, Nat.reduceLeDiff, Nat.reduceBEq, Nat.reduceBNe, Nat.reduceGT, Int.reduceEq, Int.reduceLT, Int.reduceLE, Int.reduceToNat, Int.reduceAdd, Int.reduceSub, Int.reduceMul, Int.reduceNeg, Int.reduceBEq, Int.reduceBNe, b_verify_ahead_ret, g_verify_ahead_ret_0, d1, d2, c1, c2]
      · have d2 : (n != 1) = true := by simp [c2]
        simp -implicitDefEqProofs only [eqs, eqd, eqe, lh_some, ↓reduceIte, reduceCtorEq, Nat.reduceEqDiff, Nat.reduceAdd, Nat.reduceSub, Nat.reduceMul, Nat.reduceLT, Nat.reduceLeDiff, Nat.reduceBEq, Nat.reduceBNe, Nat.reduceGT, Int.reduceEq, Int.reduceLT, Int.reduceLE, Int.reduceToNat, Int.reduceAdd, Int.reduceSub, Int.reduceMul, Int.reduceNeg, Int.reduceBEq, Int.reduceBNe, b_verify_ahead_ret, g_verify_ahead_ret_0, d1, d2, c1, c2]
def push (a : Ah) (op : Int) : Ah × Int := if may op a.k = false then (a, 6) else if a.bs.length = 8 then (a, 8) else (⟨0, false, a.bs ++ [(op, a.k)]⟩, 0)
theorem clip_nil (k : Nat) : acall T (k + 1) 94 0 [.v (.slice none 0 0)] [] = some ⟨.v (.slice none 0 0), [], 0⟩ := by
  rw [acall_go (body := b_verify_bracket_94) rfl rfl (Nat.zero_le _)]
  simp -implicitDefEqProofs only [eqs, eqd, eqe, lh_some, ↓reduceIte, reduceCtorEq, Nat.reduceEqDiff, Nat.reduceAdd, Nat.reduceSub, Nat.reduceMul, Nat.reduceLT, Nat.reduceLeDiff, Nat.reduceBEq, Nat.reduceBNe, Nat.reduceGT, Int.reduceEq, Int.reduceLT, Int.reduceLE, Int.reduceToNat, Int.reduceAdd, Int.reduceSub, Int.reduceMul, Int.reduceNeg, Int.reduceBEq, Int.reduceBNe, b_verify_bracket_94]
theorem clip_shr (k : Nat) (bs : List (Int × Int)) : acall T (k + 1) 94 0 [.shr bs.length false (brs bs)] [] = some ⟨.shr bs.length true (brs bs), [], 0⟩ := by
  rw [acall_go (body := b_verify_bracket_94) rfl rfl (Nat.zero_le _)]
  simp -implicitDefEqProofs only [eqs, eqd, eqe, lh_some, ↓reduceIte, reduceCtorEq, Nat.reduceEqDiff, Nat.reduceAdd, Nat.reduceSub, Nat.reduceMul, Nat.reduceLT, Nat.reduceLeDiff, Nat.reduceBEq, Nat.reduceBNe, Nat.reduceGT, Int.reduceEq, Int.reduceLT, Int.reduceLE, Int.reduceToNat, Int.reduceAdd, Int.reduceSub, Int.reduceMul, Int.reduceNeg, Int.reduceBEq, Int.reduceBNe, b_verify_bracket_94, brs_take]
theorem push_a (k : Nat) (a : Ah) (ha : a.In) (op : Int) : acall T (k + 4) 84 0 [.agg a.c, .v (.int .i64 op)] [] = some ⟨.tup [.agg (push a op).1.c, .v (.int .i64 (push a op).2)], [], 1⟩ := by
  rw [acall_go (body := b_verify_ahead_push) rfl rfl (Nat.zero_le _)]
  obtain ⟨n, nil, bs⟩ := a
  have hn := ha.nil
  have hl := ha.len
  have hm := may_a k op n
  simp only at hn hl
  unfold push
  cases c0 : may op n
  · rw [c0] at hm
    cases nil
    · simp only [Ah.c, openA, Bool.false_eq_true, if_false, if_true]
      simp -implicitDefEqProofs only [eqs, eqd, eqe, lh_some, ↓reduceIte, reduceCtorEq, Nat.reduceEqDiff, Nat.reduceAdd, Nat.reduceSub, Nat.reduceMul, Nat.reduceLT, Nat.reduceLeDiff, Nat.reduceBEq, Nat.reduceBNe, Nat.reduceGT, Int.reduceEq, Int.reduceLT, Int.reduceLE, Int.reduceToNat, Int.reduceAdd, Int.reduceSub, Int.reduceMul, Int.reduceNeg, Int.reduceBEq, Int.reduceBNe, b_verify_ahead_push, g_verify_ahead_push_0, hm]
    · obtain rfl := hn rfl
      simp only [Ah.c, openA, if_true]
      simp -implicitDefEqProofs only [eqs, eqd, eqe, lh_some, ↓reduceIte, reduceCtorEq, Nat.reduceEqDiff, Nat.reduceAdd, Nat.reduceSub, Nat.reduceMul, Nat.reduceLT, Nat.reduceLeDiff, Nat.reduceBEq, Nat.reduceBNe, Nat.reduceGT, Int.reduceEq, Int.reduceLT, Int.reduceLE, Int.reduceToNat, Int.reduceAdd, Int.reduceSub, Int.reduceMul, Int.reduceNeg, Int.reduceBEq, Int.reduceBNe, b_verify_ahead_push, g_verify_ahead_push_0, hm]
  · rw [c0] at hm
    cases nil
    · have hc := clip_shr (k + 2) bs
      by_cases c1 : bs.length = 8
      · have c1' : ((bs.length : Int) == 8) = true := by rw [beq_iff_eq]; omega
        simp only [Ah.c, openA, c1, Bool.false_eq_true, reduceCtorEq, Bool.true_eq_false, if_false, if_true]
        rw [← c1]
        simp -implicitDefEqProofs only [eqs, eqd, eqe, lh_some, ↓reduceIte, reduceCtorEq, Nat.reduceEqDiff, Nat.reduceAdd, Nat.reduceSub, Nat.reduceMul, Nat.reduceLT, Nat.reduceLeDiff, Nat.reduceBEq, Nat.reduceBNe, Nat.reduceGT, Int.reduceEq, Int.reduceLT, Int.reduceLE, Int.reduceToNat, Int.reduceAdd, Int.reduceSub, Int.reduceMul, Int.reduceNeg, Int.reduceBEq, Int.reduceBNe, b_verify_ahead_push, g_verify_ahead_push_0, hm, c1']
      · have c1' : ((bs.length : Int) == 8) = false := by rw [beq_eq_false_iff_ne]; omega
        have b1 : (bs.length + 1) * 16 ≤ 140737488355328 := by omega
        have b2 : bs.length ≤ 9223372036854775806 := by omega
        have b3 : bs.length * 2 = bs.length * 2 := rfl
        have b4 : bs.length + 1 ≤ 9223372036854775807 := by omega
        have b5 : (brs bs ++ [AV.v (.int .i64 op), AV.v (.int .i64 n)]).take ((bs.length + 1) * 2) = brs bs ++ [AV.v (.int .i64 op), AV.v (.int .i64 n)] := List.take_of_length_le (by rw [List.length_append, brs_len]; simp; omega)
        have b7 : (bs.length + 1) * 2 ≤ bs.length * 2 + 2 := by omega
        have b6 : (bs ++ [(op, n)]).length = bs.length + 1 := by simp
        simp only [Ah.c, openA, c1, Bool.false_eq_true, reduceCtorEq, Bool.true_eq_false, if_false, if_true, b6]
        rw [← brs_snoc]
        simp -implicitDefEqProofs only [eqs, eqd, eqe, lh_some, ↓reduceIte, reduceCtorEq, Nat.reduceEqDiff, Nat.reduceAdd, Nat.reduceSub, Nat.reduceMul, Nat.reduceLT, Nat.reduceLeDiff, Nat.reduceBEq, Nat.reduceBNe, Nat.reduceGT, Int.reduceEq, Int.reduceLT, Int.reduceLE, Int.reduceToNat, Int.reduceAdd, Int.reduceSub, Int.reduceMul, Int.reduceNeg, Int.reduceBEq, Int.reduceBNe, b_verify_ahead_push, g_verify_ahead_push_0, hm, hc, c1', b1, b2, b4, b5, b7, brs_len, brs_flat, brs_atom, List.all_append, List.length_append]
    · obtain rfl := hn rfl
      have hc := clip_nil (k + 2)
      simp only [Ah.c, openA, List.length_nil, reduceCtorEq, Bool.false_eq_true, Bool.true_eq_false, Nat.reduceEqDiff, if_false, if_true]
      simp -implicitDefEqProofs only [eqs, eqd, eqe, lh_some, ↓reduceIte, reduceCtorEq, Nat.reduceEqDiff, Nat.reduceAdd, Nat.reduceSub, Nat.reduceMul, Nat.reduceLT, Nat.reduceLeDiff, Nat.reduceBEq, Nat.reduceBNe, Nat.reduceGT, Int.reduceEq, Int.reduceLT, Int.reduceLE, Int.reduceToNat, Int.reduceAdd, Int.reduceSub, Int.reduceMul, Int.reduceNeg, Int.reduceBEq, Int.reduceBNe, b_verify_ahead_push, g_verify_ahead_push_0, hm, hc, brs]
end Go.Proofs.Ytcfokbhmchcgbaa.Ver

/- What is ahead of an instruction: package verify's behind. -/
namespace Go.Proofs.Ytcfokbhmchcgbaa.Ver
open Go Go.Proofs.Ytcfokbhmchcgbaa.Sym Go.Proofs.Ytcfokbhmchcgbaa.Tab
set_option linter.unusedVariables false
set_option linter.unusedSimpArgs false
set_option maxHeartbeats 4000000
set_option maxRecDepth 20000
def pop (a : Ah) : Ah × Int := match a.bs.getLast? with
  | none => (a, 3)
  | some p => if p.2 ≠ a.k then (a, 6) else (⟨made p.1 p.2, false, a.bs.dropLast⟩, 0)
theorem brs_at (bs : List (Int × Int)) (p : Int × Int) : ((brs (bs ++ [p])).drop (bs.length * 2)).take 2 = [.v (.int .i64 p.1), .v (.int .i64 p.2)] := by
  obtain ⟨x, y⟩ := p
  rw [← brs_snoc, ← brs_len, List.drop_left]
  rfl
theorem brs_front (bs : List (Int × Int)) (p : Int × Int) : (brs (bs ++ [p])).take (bs.length * 2) = brs bs := by
  obtain ⟨x, y⟩ := p
  rw [← brs_snoc, ← brs_len, List.take_left]
theorem pop_a (k : Nat) (a : Ah) (ha : a.In) : acall T (k + 2) 85 0 [.agg a.c] [] = some ⟨.tup [.agg (pop a).1.c, .v (.int .i64 (pop a).2)], [], 1⟩ := by
  rw [acall_go (body := b_verify_ahead_pop) rfl rfl (Nat.zero_le _)]
  obtain ⟨n, nil, bs⟩ := a
  have hn := ha.nil
  have hl := ha.len
  simp only at hn hl
  unfold pop
  rcases List.eq_nil_or_concat bs with rfl | ⟨bs, p, rfl⟩
  · cases nil
    · simp only [Ah.c, openA, Bool.false_eq_true, if_false, List.getLast?_nil]
      simp -implicitDefEqProofs only [eqs, eqd, eqe, lh_some, ↓reduceIte, reduceCtorEq, Nat.reduceEqDiff, Nat.reduceAdd, Nat.reduceSub, Nat.reduceMul, Nat.reduceLT, Nat.reduceLeDiff, Nat.reduceBEq, Nat.reduceBNe, Nat.reduceGT, Int.reduceEq, Int.reduceLT, Int.reduceLE, Int.reduceToNat, Int.reduceAdd, Int.reduceSub, Int.reduceMul, Int.reduceNeg, Int.reduceBEq, Int.reduceBNe, b_verify_ahead_pop]
    · simp only [Ah.c, openA, if_true, List.getLast?_nil]
      simp -implicitDefEqProofs only [eqs, eqd, eqe, lh_some, ↓reduceIte, reduceCtorEq, Nat.reduceEqDiff, Nat.reduceAdd, Nat.reduceSub, Nat.reduceMul, Nat.reduceLT, Nat.reduceLeDiff, Nat.reduceBEq, Nat.reduceBNe, Nat.reduceGT, Int.reduceEq, Int.reduceLT, Int.reduceLE, Int.reduceToNat, Int.reduceAdd, Int.reduceSub, Int.reduceMul, Int.reduceNeg, Int.reduceBEq, Int.reduceBNe, b_verify_ahead_pop]
  · cases nil
    · rw [List.concat_eq_append] at hl ⊢
      rw [List.length_append, List.length_singleton] at hl
      have e1 : (bs ++ [p]).length = bs.length + 1 := by simp
      have e2 : (((bs.length + 1 : Nat) : Int) == 0) = false := by rw [beq_eq_false_iff_ne]; omega
      have e3 : IntKind.i64.wrap (((bs.length + 1 : Nat) : Int) - 1) = (bs.length : Nat) := by rw [w64 (by omega) (by omega)]; omega
      have e4 : ((bs.length : Nat) : Int) < ((bs.length + 1 : Nat) : Int) := by omega
      have e5 := brs_at bs p
      have e6 := brs_front bs p
      have e7 : (brs (bs ++ [p])).length = bs.length * 2 + 2 := by rw [brs_len, e1]; omega
      have e8 : bs.length ≤ bs.length + 1 := by omega
      have e9 : bs.length * 2 + 2 ≤ bs.length * 2 + 2 := Nat.le_refl _
      have e10 : (bs.length == bs.length + 1) = false := by rw [beq_eq_false_iff_ne]; omega
      simp only [List.getLast?_append, List.getLast?_singleton, Option.or_some, Option.some_or, List.dropLast_concat]
      simp only [Ah.c, openA, Bool.false_eq_true, if_false, e1]
      by_cases c : p.2 = n
      · have c' : (p.2 != n) = false := by simp [c]
        have hm := made_a k p.1 n
        simp only [c, ne_eq, not_true_eq_false, if_false]
        rw [c] at e5
        generalize hX : bs.length + 1 = M at *
        simp -implicitDefEqProofs only [eqs, eqd, eqe, lh_some, ↓reduceIte, reduceCtorEq, Nat.reduceEqDiff, Nat.reduceAdd, Nat.reduceSub, Nat.reduceMul, Nat.reduceLT, Nat.reduceLeDiff, Nat.reduceBEq, Nat.reduceBNe, Nat.reduceGT, Int.reduceEq, Int.reduceLT, Int.reduceLE, Int.reduceToNat, Int.reduceAdd, Int.reduceSub, Int.reduceMul, Int.reduceNeg, Int.reduceBEq, Int.reduceBNe, b_verify_ahead_pop, e2, e3, e4, e5, e6, e7, e8, e9, e10, c, c', hm]
      · have c' : (p.2 != n) = true := by simp [c]
        simp only [c, ne_eq, not_false_eq_true, if_true]
        generalize hX : bs.length + 1 = M at *
        simp -implicitDefEqProofs only [eqs, eqd, eqe, lh_some, ↓reduceIte, reduceCtorEq, Nat.reduceEqDiff, Nat.reduceAdd, Nat.reduceSub, Nat.reduceMul, Nat.reduceLT, Nat.reduceLeDiff, Nat.reduceBEq, Nat.reduceBNe, Nat.reduceGT, Int.reduceEq, Int.reduceLT, Int.reduceLE, Int.reduceToNat, Int.reduceAdd, Int.reduceSub, Int.reduceMul, Int.reduceNeg, Int.reduceBEq, Int.reduceBNe, b_verify_ahead_pop, e2, e3, e4, e5, e6, e7, e8, e9, e10, c, c', e1]
    · have := hn rfl
      simp at this
/-- An instruction, if it may stand there. -/
def beh (a : Ah) (i : Ins) : Ah × Int :=
  if i.op = 1 then ({ a with k := i.k }, 0)
  else if i.op = 2 then ({ a with k := i.k }, must (logic i.k))
  else if i.op = 3 then (a, must (a.k == i.k))
  else if i.op = 4 then (a, must ((a.k == i.k) && logic i.k))
  else if i.op = 5 ∨ i.op = 6 then (a, must ((a.k == 1) && (i.k == 1)))
  else if i.op = 13 then (a, must (logic a.k))
  else if i.op = 25 then (a, 0)
  else if i.op = 26 ∨ i.op = 27 ∨ i.op = 34 ∨ i.op = 35 ∨ i.op = 36 then (a, must (a.k == 1))
  else if i.op = 28 ∨ i.op = 29 ∨ i.op = 30 then (a, if i.op ≠ 28 ∧ a.k ≠ 1 then 6 else if 0 < a.bs.length then 3 else 0)
  else if i.op = 31 then ({ a with k := i.k }, must (a.k != 0))
  else if i.op = 32 then push a i.at_
  else if i.op = 33 then pop a
  else ({ a with k := made i.op i.k }, must ((a.k == i.k) && may i.op i.k))
end Go.Proofs.Ytcfokbhmchcgbaa.Ver

/- What is ahead of an instruction: package verify's behind, case by case. Written by a program for this claim. -/
namespace Go.Proofs.Ytcfokbhmchcgbaa.Ver
open Go Go.Proofs.Ytcfokbhmchcgbaa.Sym Go.Proofs.Ytcfokbhmchcgbaa.Tab
set_option linter.unusedVariables false
set_option linter.unusedSimpArgs false
set_option maxHeartbeats 4000000
set_option maxRecDepth 20000
theorem beh_1 (k : Nat) (a : Ah) (i : Ins) (ha : a.In) (ho : i.op = 1) : acall T (k + 5) 62 0 [.agg a.c, .agg i.c] [] = some ⟨.tup [.agg (beh a i).1.c, .v (.int .i64 (beh a i).2)], [], 1⟩ := by
  obtain ⟨op, ik, ar, at_, nn⟩ := i
  simp only at ho
  subst ho
  obtain ⟨ak, an, bs⟩ := a
  have e : beh ⟨ak, an, bs⟩ ⟨1, ik, ar, at_, nn⟩ = (⟨ik, an, bs⟩, 0) := rfl
  rw [e, acall_go (body := b_verify_ahead_behind) rfl rfl (Nat.zero_le _)]
  have hw := with_a (k + 3) ak (.shr bs.length false (brs bs)) rfl rfl rfl (fun _ => rfl) ik
  have hw' := with_a (k + 3) ak (.v (.slice none 0 0)) rfl rfl rfl (fun _ => rfl) ik
  cases an <;> simp only [Ah.c, openA, Bool.false_eq_true, if_false, if_true] <;> simp -implicitDefEqProofs only [eqs, eqd, eqe, lh_some, ↓reduceIte, reduceCtorEq, Nat.reduceEqDiff, Nat.reduceAdd, Nat.reduceSub, Nat.reduceMul, Nat.reduceLT, Nat.reduceLeDiff, Nat.reduceBEq, Nat.reduceBNe, Nat.reduceGT, Int.reduceEq, Int.reduceLT, Int.reduceLE, Int.reduceToNat, Int.reduceAdd, Int.reduceSub, Int.reduceMul, Int.reduceNeg, Int.reduceBEq, Int.reduceBNe, b_verify_ahead_behind, gs_verify_ahead_behind, Ins.c, hw, hw']
theorem beh_2 (k : Nat) (a : Ah) (i : Ins) (ha : a.In) (ho : i.op = 2) : acall T (k + 5) 62 0 [.agg a.c, .agg i.c] [] = some ⟨.tup [.agg (beh a i).1.c, .v (.int .i64 (beh a i).2)], [], 1⟩ := by
  obtain ⟨op, ik, ar, at_, nn⟩ := i
  simp only at ho
  subst ho
  obtain ⟨ak, an, bs⟩ := a
  have e : beh ⟨ak, an, bs⟩ ⟨2, ik, ar, at_, nn⟩ = (⟨ik, an, bs⟩, must (logic ik)) := rfl
  rw [e, acall_go (body := b_verify_ahead_behind) rfl rfl (Nat.zero_le _)]
  have hw := with_a (k + 3) ak (.shr bs.length false (brs bs)) rfl rfl rfl (fun _ => rfl) ik
  have hw' := with_a (k + 3) ak (.v (.slice none 0 0)) rfl rfl rfl (fun _ => rfl) ik
  have h1 := logic_a k ik
  have h2 := must_a (k + 3) (logic ik)
  cases an <;> simp only [Ah.c, openA, Bool.false_eq_true, if_false, if_true] <;> simp -implicitDefEqProofs only [eqs, eqd, eqe, lh_some, ↓reduceIte, reduceCtorEq, Nat.reduceEqDiff, Nat.reduceAdd, Nat.reduceSub, Nat.reduceMul, Nat.reduceLT, Nat.reduceLeDiff, Nat.reduceBEq, Nat.reduceBNe, Nat.reduceGT, Int.reduceEq, Int.reduceLT, Int.reduceLE, Int.reduceToNat, Int.reduceAdd, Int.reduceSub, Int.reduceMul, Int.reduceNeg, Int.reduceBEq, Int.reduceBNe, b_verify_ahead_behind, gs_verify_ahead_behind, Ins.c, hw, hw', h1, h2]
theorem beh_3 (k : Nat) (a : Ah) (i : Ins) (ha : a.In) (ho : i.op = 3) : acall T (k + 5) 62 0 [.agg a.c, .agg i.c] [] = some ⟨.tup [.agg (beh a i).1.c, .v (.int .i64 (beh a i).2)], [], 1⟩ := by
  obtain ⟨op, ik, ar, at_, nn⟩ := i
  simp only at ho
  subst ho
  obtain ⟨ak, an, bs⟩ := a
  have e : beh ⟨ak, an, bs⟩ ⟨3, ik, ar, at_, nn⟩ = ((⟨ak, an, bs⟩ : Ah), must (ak == ik)) := rfl
  rw [e, acall_go (body := b_verify_ahead_behind) rfl rfl (Nat.zero_le _)]
  have h2 := must_a (k + 3) (ak == ik)
  cases an <;> simp only [Ah.c, openA, Bool.false_eq_true, if_false, if_true] <;> simp -implicitDefEqProofs only [eqs, eqd, eqe, lh_some, ↓reduceIte, reduceCtorEq, Nat.reduceEqDiff, Nat.reduceAdd, Nat.reduceSub, Nat.reduceMul, Nat.reduceLT, Nat.reduceLeDiff, Nat.reduceBEq, Nat.reduceBNe, Nat.reduceGT, Int.reduceEq, Int.reduceLT, Int.reduceLE, Int.reduceToNat, Int.reduceAdd, Int.reduceSub, Int.reduceMul, Int.reduceNeg, Int.reduceBEq, Int.reduceBNe, b_verify_ahead_behind, gs_verify_ahead_behind, Ins.c, h2]
theorem beh_4 (k : Nat) (a : Ah) (i : Ins) (ha : a.In) (ho : i.op = 4) : acall T (k + 5) 62 0 [.agg a.c, .agg i.c] [] = some ⟨.tup [.agg (beh a i).1.c, .v (.int .i64 (beh a i).2)], [], 1⟩ := by
  obtain ⟨op, ik, ar, at_, nn⟩ := i
  simp only at ho
  subst ho
  obtain ⟨ak, an, bs⟩ := a
  have e : beh ⟨ak, an, bs⟩ ⟨4, ik, ar, at_, nn⟩ = ((⟨ak, an, bs⟩ : Ah), must ((ak == ik) && logic ik)) := rfl
  rw [e, acall_go (body := b_verify_ahead_behind) rfl rfl (Nat.zero_le _)]
  have h1 := logic_a k ik
  have h2 := must_a (k + 3) (logic ik)
  have h3 := must_a (k + 3) false
  cases c : (ak == ik)
  · cases an <;> simp only [Ah.c, openA, Bool.false_eq_true, if_false, if_true] <;> simp -implicitDefEqProofs only [eqs, eqd, eqe, lh_some, ↓reduceIte, reduceCtorEq, Nat.reduceEqDiff, Nat.reduceAdd, Nat.reduceSub, Nat.reduceMul, Nat.reduceLT, Nat.reduceLeDiff, Nat.reduceBEq, Nat.reduceBNe, Nat.reduceGT, Int.reduceEq, Int.reduceLT, Int.reduceLE, Int.reduceToNat, Int.reduceAdd, Int.reduceSub, Int.reduceMul, Int.reduceNeg, Int.reduceBEq, Int.reduceBNe, b_verify_ahead_behind, gs_verify_ahead_behind, Ins.c, h3, c]
  cases an <;> simp only [Ah.c, openA, Bool.false_eq_true, if_false, if_true] <;> simp -implicitDefEqProofs only [eqs, eqd, eqe, lh_some, ↓reduceIte, reduceCtorEq, Nat.reduceEqDiff, Nat.reduceAdd, Nat.reduceSub, Nat.reduceMul, Nat.reduceLT, Nat.reduceLeDiff, Nat.reduceBEq, Nat.reduceBNe, Nat.reduceGT, Int.reduceEq, Int.reduceLT, Int.reduceLE, Int.reduceToNat, Int.reduceAdd, Int.reduceSub, Int.reduceMul, Int.reduceNeg, Int.reduceBEq, Int.reduceBNe, b_verify_ahead_behind, gs_verify_ahead_behind, Ins.c, h1, h2, c]
theorem beh_5 (k : Nat) (a : Ah) (i : Ins) (ha : a.In) (ho : i.op = 5) : acall T (k + 5) 62 0 [.agg a.c, .agg i.c] [] = some ⟨.tup [.agg (beh a i).1.c, .v (.int .i64 (beh a i).2)], [], 1⟩ := by
  obtain ⟨op, ik, ar, at_, nn⟩ := i
  simp only at ho
  subst ho
  obtain ⟨ak, an, bs⟩ := a
  have e : beh ⟨ak, an, bs⟩ ⟨5, ik, ar, at_, nn⟩ = ((⟨ak, an, bs⟩ : Ah), must ((ak == 1) && (ik == 1))) := rfl
  rw [e, acall_go (body := b_verify_ahead_behind) rfl rfl (Nat.zero_le _)]
  have h2 := must_a (k + 3) (ik == 1)
  have h3 := must_a (k + 3) false
  cases c : (ak == 1)
  · cases an <;> simp only [Ah.c, openA, Bool.false_eq_true, if_false, if_true] <;> simp -implicitDefEqProofs only [eqs, eqd, eqe, lh_some, ↓reduceIte, reduceCtorEq, Nat.reduceEqDiff, Nat.reduceAdd, Nat.reduceSub, Nat.reduceMul, Nat.reduceLT, Nat.reduceLeDiff, Nat.reduceBEq, Nat.reduceBNe, Nat.reduceGT, Int.reduceEq, Int.reduceLT, Int.reduceLE, Int.reduceToNat, Int.reduceAdd, Int.reduceSub, Int.reduceMul, Int.reduceNeg, Int.reduceBEq, Int.reduceBNe, b_verify_ahead_behind, gs_verify_ahead_behind, Ins.c, h3, c]
  cases an <;> simp only [Ah.c, openA, Bool.false_eq_true, if_false, if_true] <;> simp -implicitDefEqProofs only [eqs, eqd, eqe, lh_some, ↓reduceIte, reduceCtorEq, Nat.reduceEqDiff, Nat.reduceAdd, Nat.reduceSub, Nat.reduceMul, Nat.reduceLT, Nat.reduceLeDiff, Nat.reduceBEq, Nat.reduceBNe, Nat.reduceGT, Int.reduceEq, Int.reduceLT, Int.reduceLE, Int.reduceToNat, Int.reduceAdd, Int.reduceSub, Int.reduceMul, Int.reduceNeg, Int.reduceBEq, Int.reduceBNe, b_verify_ahead_behind, gs_verify_ahead_behind, Ins.c, h2, c]
theorem beh_6 (k : Nat) (a : Ah) (i : Ins) (ha : a.In) (ho : i.op = 6) : acall T (k + 5) 62 0 [.agg a.c, .agg i.c] [] = some ⟨.tup [.agg (beh a i).1.c, .v (.int .i64 (beh a i).2)], [], 1⟩ := by
  obtain ⟨op, ik, ar, at_, nn⟩ := i
  simp only at ho
  subst ho
  obtain ⟨ak, an, bs⟩ := a
  have e : beh ⟨ak, an, bs⟩ ⟨6, ik, ar, at_, nn⟩ = ((⟨ak, an, bs⟩ : Ah), must ((ak == 1) && (ik == 1))) := rfl
  rw [e, acall_go (body := b_verify_ahead_behind) rfl rfl (Nat.zero_le _)]
  have h2 := must_a (k + 3) (ik == 1)
  have h3 := must_a (k + 3) false
  cases c : (ak == 1)
  · cases an <;> simp only [Ah.c, openA, Bool.false_eq_true, if_false, if_true] <;> simp -implicitDefEqProofs only [eqs, eqd, eqe, lh_some, ↓reduceIte, reduceCtorEq, Nat.reduceEqDiff, Nat.reduceAdd, Nat.reduceSub, Nat.reduceMul, Nat.reduceLT, Nat.reduceLeDiff, Nat.reduceBEq, Nat.reduceBNe, Nat.reduceGT, Int.reduceEq, Int.reduceLT, Int.reduceLE, Int.reduceToNat, Int.reduceAdd, Int.reduceSub, Int.reduceMul, Int.reduceNeg, Int.reduceBEq, Int.reduceBNe, b_verify_ahead_behind, gs_verify_ahead_behind, Ins.c, h3, c]
  cases an <;> simp only [Ah.c, openA, Bool.false_eq_true, if_false, if_true] <;> simp -implicitDefEqProofs only [eqs, eqd, eqe, lh_some, ↓reduceIte, reduceCtorEq, Nat.reduceEqDiff, Nat.reduceAdd, Nat.reduceSub, Nat.reduceMul, Nat.reduceLT, Nat.reduceLeDiff, Nat.reduceBEq, Nat.reduceBNe, Nat.reduceGT, Int.reduceEq, Int.reduceLT, Int.reduceLE, Int.reduceToNat, Int.reduceAdd, Int.reduceSub, Int.reduceMul, Int.reduceNeg, Int.reduceBEq, Int.reduceBNe, b_verify_ahead_behind, gs_verify_ahead_behind, Ins.c, h2, c]
theorem beh_13 (k : Nat) (a : Ah) (i : Ins) (ha : a.In) (ho : i.op = 13) : acall T (k + 5) 62 0 [.agg a.c, .agg i.c] [] = some ⟨.tup [.agg (beh a i).1.c, .v (.int .i64 (beh a i).2)], [], 1⟩ := by
  obtain ⟨op, ik, ar, at_, nn⟩ := i
  simp only at ho
  subst ho
  obtain ⟨ak, an, bs⟩ := a
  have e : beh ⟨ak, an, bs⟩ ⟨13, ik, ar, at_, nn⟩ = ((⟨ak, an, bs⟩ : Ah), must (logic ak)) := rfl
  rw [e, acall_go (body := b_verify_ahead_behind) rfl rfl (Nat.zero_le _)]
  have h1 := logic_a k ak
  have h2 := must_a (k + 3) (logic ak)
  cases an <;> simp only [Ah.c, openA, Bool.false_eq_true, if_false, if_true] <;> simp -implicitDefEqProofs only [eqs, eqd, eqe, lh_some, ↓reduceIte, reduceCtorEq, Nat.reduceEqDiff, Nat.reduceAdd, Nat.reduceSub, Nat.reduceMul, Nat.reduceLT, Nat.reduceLeDiff, Nat.reduceBEq, Nat.reduceBNe, Nat.reduceGT, Int.reduceEq, Int.reduceLT, Int.reduceLE, Int.reduceToNat, Int.reduceAdd, Int.reduceSub, Int.reduceMul, Int.reduceNeg, Int.reduceBEq, Int.reduceBNe, b_verify_ahead_behind, gs_verify_ahead_behind, Ins.c, h1, h2]
theorem beh_25 (k : Nat) (a : Ah) (i : Ins) (ha : a.In) (ho : i.op = 25) : acall T (k + 5) 62 0 [.agg a.c, .agg i.c] [] = some ⟨.tup [.agg (beh a i).1.c, .v (.int .i64 (beh a i).2)], [], 1⟩ := by
  obtain ⟨op, ik, ar, at_, nn⟩ := i
  simp only at ho
  subst ho
  obtain ⟨ak, an, bs⟩ := a
  have e : beh ⟨ak, an, bs⟩ ⟨25, ik, ar, at_, nn⟩ = ((⟨ak, an, bs⟩ : Ah), 0) := rfl
  rw [e, acall_go (body := b_verify_ahead_behind) rfl rfl (Nat.zero_le _)]
  cases an <;> simp only [Ah.c, openA, Bool.false_eq_true, if_false, if_true] <;> simp -implicitDefEqProofs only [eqs, eqd, eqe, lh_some, ↓reduceIte, reduceCtorEq, Nat.reduceEqDiff, Nat.reduceAdd, Nat.reduceSub, Nat.reduceMul, Nat.reduceLT, Nat.reduceLeDiff, Nat.reduceBEq, Nat.reduceBNe, Nat.reduceGT, Int.reduceEq, Int.reduceLT, Int.reduceLE, Int.reduceToNat, Int.reduceAdd, Int.reduceSub, Int.reduceMul, Int.reduceNeg, Int.reduceBEq, Int.reduceBNe, b_verify_ahead_behind, gs_verify_ahead_behind, Ins.c]
theorem beh_26 (k : Nat) (a : Ah) (i : Ins) (ha : a.In) (ho : i.op = 26) : acall T (k + 5) 62 0 [.agg a.c, .agg i.c] [] = some ⟨.tup [.agg (beh a i).1.c, .v (.int .i64 (beh a i).2)], [], 1⟩ := by
  obtain ⟨op, ik, ar, at_, nn⟩ := i
  simp only at ho
  subst ho
  obtain ⟨ak, an, bs⟩ := a
  have e : beh ⟨ak, an, bs⟩ ⟨26, ik, ar, at_, nn⟩ = ((⟨ak, an, bs⟩ : Ah), must (ak == 1)) := rfl
  rw [e, acall_go (body := b_verify_ahead_behind) rfl rfl (Nat.zero_le _)]
  have h2 := must_a (k + 3) (ak == 1)
  cases an <;> simp only [Ah.c, openA, Bool.false_eq_true, if_false, if_true] <;> simp -implicitDefEqProofs only [eqs, eqd, eqe, lh_some, ↓reduceIte, reduceCtorEq, Nat.reduceEqDiff, Nat.reduceAdd, Nat.reduceSub, Nat.reduceMul, Nat.reduceLT, Nat.reduceLeDiff, Nat.reduceBEq, Nat.reduceBNe, Nat.reduceGT, Int.reduceEq, Int.reduceLT, Int.reduceLE, Int.reduceToNat, Int.reduceAdd, Int.reduceSub, Int.reduceMul, Int.reduceNeg, Int.reduceBEq, Int.reduceBNe, b_verify_ahead_behind, gs_verify_ahead_behind, Ins.c, h2]
theorem beh_27 (k : Nat) (a : Ah) (i : Ins) (ha : a.In) (ho : i.op = 27) : acall T (k + 5) 62 0 [.agg a.c, .agg i.c] [] = some ⟨.tup [.agg (beh a i).1.c, .v (.int .i64 (beh a i).2)], [], 1⟩ := by
  obtain ⟨op, ik, ar, at_, nn⟩ := i
  simp only at ho
  subst ho
  obtain ⟨ak, an, bs⟩ := a
  have e : beh ⟨ak, an, bs⟩ ⟨27, ik, ar, at_, nn⟩ = ((⟨ak, an, bs⟩ : Ah), must (ak == 1)) := rfl
  rw [e, acall_go (body := b_verify_ahead_behind) rfl rfl (Nat.zero_le _)]
  have h2 := must_a (k + 3) (ak == 1)
  cases an <;> simp only [Ah.c, openA, Bool.false_eq_true, if_false, if_true] <;> simp -implicitDefEqProofs only [eqs, eqd, eqe, lh_some, ↓reduceIte, reduceCtorEq, Nat.reduceEqDiff, Nat.reduceAdd, Nat.reduceSub, Nat.reduceMul, Nat.reduceLT, Nat.reduceLeDiff, Nat.reduceBEq, Nat.reduceBNe, Nat.reduceGT, Int.reduceEq, Int.reduceLT, Int.reduceLE, Int.reduceToNat, Int.reduceAdd, Int.reduceSub, Int.reduceMul, Int.reduceNeg, Int.reduceBEq, Int.reduceBNe, b_verify_ahead_behind, gs_verify_ahead_behind, Ins.c, h2]
theorem beh_34 (k : Nat) (a : Ah) (i : Ins) (ha : a.In) (ho : i.op = 34) : acall T (k + 5) 62 0 [.agg a.c, .agg i.c] [] = some ⟨.tup [.agg (beh a i).1.c, .v (.int .i64 (beh a i).2)], [], 1⟩ := by
  obtain ⟨op, ik, ar, at_, nn⟩ := i
  simp only at ho
  subst ho
  obtain ⟨ak, an, bs⟩ := a
  have e : beh ⟨ak, an, bs⟩ ⟨34, ik, ar, at_, nn⟩ = ((⟨ak, an, bs⟩ : Ah), must (ak == 1)) := rfl
  rw [e, acall_go (body := b_verify_ahead_behind) rfl rfl (Nat.zero_le _)]
  have h2 := must_a (k + 3) (ak == 1)
  cases an <;> simp only [Ah.c, openA, Bool.false_eq_true, if_false, if_true] <;> simp -implicitDefEqProofs only [eqs, eqd, eqe, lh_some, ↓reduceIte, reduceCtorEq, Nat.reduceEqDiff, Nat.reduceAdd, Nat.reduceSub, Nat.reduceMul, Nat.reduceLT, Nat.reduceLeDiff, Nat.reduceBEq, Nat.reduceBNe, Nat.reduceGT, Int.reduceEq, Int.reduceLT, Int.reduceLE, Int.reduceToNat, Int.reduceAdd, Int.reduceSub, Int.reduceMul, Int.reduceNeg, Int.reduceBEq, Int.reduceBNe, b_verify_ahead_behind, gs_verify_ahead_behind, Ins.c, h2]
theorem beh_35 (k : Nat) (a : Ah) (i : Ins) (ha : a.In) (ho : i.op = 35) : acall T (k + 5) 62 0 [.agg a.c, .agg i.c] [] = some ⟨.tup [.agg (beh a i).1.c, .v (.int .i64 (beh a i).2)], [], 1⟩ := by
  obtain ⟨op, ik, ar, at_, nn⟩ := i
  simp only at ho
  subst ho
  obtain ⟨ak, an, bs⟩ := a
  have e : beh ⟨ak, an, bs⟩ ⟨35, ik, ar, at_, nn⟩ = ((⟨ak, an, bs⟩ : Ah), must (ak == 1)) := rfl
  rw [e, acall_go (body := b_verify_ahead_behind) rfl rfl (Nat.zero_le _)]
  have h2 := must_a (k + 3) (ak == 1)
  cases an <;> simp only [Ah.c, openA, Bool.false_eq_true, if_false, if_true] <;> simp -implicitDefEqProofs only [eqs, eqd, eqe, lh_some, ↓reduceIte, reduceCtorEq, Nat.reduceEqDiff, Nat.reduceAdd, Nat.reduceSub, Nat.reduceMul, Nat.reduceLT, Nat.reduceLeDiff, Nat.reduceBEq, Nat.reduceBNe, Nat.reduceGT, Int.reduceEq, Int.reduceLT, Int.reduceLE, Int.reduceToNat, Int.reduceAdd, Int.reduceSub, Int.reduceMul, Int.reduceNeg, Int.reduceBEq, Int.reduceBNe, b_verify_ahead_behind, gs_verify_ahead_behind, Ins.c, h2]
theorem beh_36 (k : Nat) (a : Ah) (i : Ins) (ha : a.In) (ho : i.op = 36) : acall T (k + 5) 62 0 [.agg a.c, .agg i.c] [] = some ⟨.tup [.agg (beh a i).1.c, .v (.int .i64 (beh a i).2)], [], 1⟩ := by
  obtain ⟨op, ik, ar, at_, nn⟩ := i
  simp only at ho
  subst ho
  obtain ⟨ak, an, bs⟩ := a
  have e : beh ⟨ak, an, bs⟩ ⟨36, ik, ar, at_, nn⟩ = ((⟨ak, an, bs⟩ : Ah), must (ak == 1)) := rfl
  rw [e, acall_go (body := b_verify_ahead_behind) rfl rfl (Nat.zero_le _)]
  have h2 := must_a (k + 3) (ak == 1)
  cases an <;> simp only [Ah.c, openA, Bool.false_eq_true, if_false, if_true] <;> simp -implicitDefEqProofs only [eqs, eqd, eqe, lh_some, ↓reduceIte, reduceCtorEq, Nat.reduceEqDiff, Nat.reduceAdd, Nat.reduceSub, Nat.reduceMul, Nat.reduceLT, Nat.reduceLeDiff, Nat.reduceBEq, Nat.reduceBNe, Nat.reduceGT, Int.reduceEq, Int.reduceLT, Int.reduceLE, Int.reduceToNat, Int.reduceAdd, Int.reduceSub, Int.reduceMul, Int.reduceNeg, Int.reduceBEq, Int.reduceBNe, b_verify_ahead_behind, gs_verify_ahead_behind, Ins.c, h2]
theorem beh_28 (k : Nat) (a : Ah) (i : Ins) (ha : a.In) (ho : i.op = 28) : acall T (k + 5) 62 0 [.agg a.c, .agg i.c] [] = some ⟨.tup [.agg (beh a i).1.c, .v (.int .i64 (beh a i).2)], [], 1⟩ := by
  obtain ⟨op, ik, ar, at_, nn⟩ := i
  simp only at ho
  subst ho
  obtain ⟨ak, an, bs⟩ := a
  have e : beh ⟨ak, an, bs⟩ ⟨28, ik, ar, at_, nn⟩ = ((⟨ak, an, bs⟩ : Ah), if (28 : Int) ≠ 28 ∧ ak ≠ 1 then 6 else if 0 < bs.length then 3 else 0) := rfl
  rw [e, acall_go (body := b_verify_ahead_behind) rfl rfl (Nat.zero_le _)]
  have h2 := ret_a (k + 3) _ ha 28
  generalize (if (28 : Int) ≠ 28 ∧ ak ≠ 1 then (6 : Int) else if 0 < bs.length then 3 else 0) = r at *
  cases an <;> simp only [Ah.c, openA, Bool.false_eq_true, if_false, if_true] at h2 ⊢ <;> simp -implicitDefEqProofs only [eqs, eqd, eqe, lh_some, ↓reduceIte, reduceCtorEq, Nat.reduceEqDiff, Nat.reduceAdd, Nat.reduceSub, Nat.reduceMul, Nat.reduceLT, Nat.reduceLeDiff, Nat.reduceBEq, Nat.reduceBNe, Nat.reduceGT, Int.reduceEq, Int.reduceLT, Int.reduceLE, Int.reduceToNat, Int.reduceAdd, Int.reduceSub, Int.reduceMul, Int.reduceNeg, Int.reduceBEq, Int.reduceBNe, b_verify_ahead_behind, gs_verify_ahead_behind, Ins.c, h2]
theorem beh_29 (k : Nat) (a : Ah) (i : Ins) (ha : a.In) (ho : i.op = 29) : acall T (k + 5) 62 0 [.agg a.c, .agg i.c] [] = some ⟨.tup [.agg (beh a i).1.c, .v (.int .i64 (beh a i).2)], [], 1⟩ := by
  obtain ⟨op, ik, ar, at_, nn⟩ := i
  simp only at ho
  subst ho
  obtain ⟨ak, an, bs⟩ := a
  have e : beh ⟨ak, an, bs⟩ ⟨29, ik, ar, at_, nn⟩ = ((⟨ak, an, bs⟩ : Ah), if (29 : Int) ≠ 28 ∧ ak ≠ 1 then 6 else if 0 < bs.length then 3 else 0) := rfl
  rw [e, acall_go (body := b_verify_ahead_behind) rfl rfl (Nat.zero_le _)]
  have h2 := ret_a (k + 3) _ ha 29
  generalize (if (29 : Int) ≠ 28 ∧ ak ≠ 1 then (6 : Int) else if 0 < bs.length then 3 else 0) = r at *
  cases an <;> simp only [Ah.c, openA, Bool.false_eq_true, if_false, if_true] at h2 ⊢ <;> simp -implicitDefEqProofs only [eqs, eqd, eqe, lh_some, ↓reduceIte, reduceCtorEq, Nat.reduceEqDiff, Nat.reduceAdd, Nat.reduceSub, Nat.reduceMul, Nat.reduceLT, Nat.reduceLeDiff, Nat.reduceBEq, Nat.reduceBNe, Nat.reduceGT, Int.reduceEq, Int.reduceLT, Int.reduceLE, Int.reduceToNat, Int.reduceAdd, Int.reduceSub, Int.reduceMul, Int.reduceNeg, Int.reduceBEq, Int.reduceBNe, b_verify_ahead_behind, gs_verify_ahead_behind, Ins.c, h2]
theorem beh_30 (k : Nat) (a : Ah) (i : Ins) (ha : a.In) (ho : i.op = 30) : acall T (k + 5) 62 0 [.agg a.c, .agg i.c] [] = some ⟨.tup [.agg (beh a i).1.c, .v (.int .i64 (beh a i).2)], [], 1⟩ := by
  obtain ⟨op, ik, ar, at_, nn⟩ := i
  simp only at ho
  subst ho
  obtain ⟨ak, an, bs⟩ := a
  have e : beh ⟨ak, an, bs⟩ ⟨30, ik, ar, at_, nn⟩ = ((⟨ak, an, bs⟩ : Ah), if (30 : Int) ≠ 28 ∧ ak ≠ 1 then 6 else if 0 < bs.length then 3 else 0) := rfl
  rw [e, acall_go (body := b_verify_ahead_behind) rfl rfl (Nat.zero_le _)]
  have h2 := ret_a (k + 3) _ ha 30
  generalize (if (30 : Int) ≠ 28 ∧ ak ≠ 1 then (6 : Int) else if 0 < bs.length then 3 else 0) = r at *
  cases an <;> simp only [Ah.c, openA, Bool.false_eq_true, if_false, if_true] at h2 ⊢ <;> simp -implicitDefEqProofs only [eqs, eqd, eqe, lh_some, ↓reduceIte, reduceCtorEq, Nat.reduceEqDiff, Nat.reduceAdd, Nat.reduceSub, Nat.reduceMul, Nat.reduceLT, Nat.reduceLeDiff, Nat.reduceBEq, Nat.reduceBNe, Nat.reduceGT, Int.reduceEq, Int.reduceLT, Int.reduceLE, Int.reduceToNat, Int.reduceAdd, Int.reduceSub, Int.reduceMul, Int.reduceNeg, Int.reduceBEq, Int.reduceBNe, b_verify_ahead_behind, gs_verify_ahead_behind, Ins.c, h2]
theorem beh_31 (k : Nat) (a : Ah) (i : Ins) (ha : a.In) (ho : i.op = 31) : acall T (k + 5) 62 0 [.agg a.c, .agg i.c] [] = some ⟨.tup [.agg (beh a i).1.c, .v (.int .i64 (beh a i).2)], [], 1⟩ := by
  obtain ⟨op, ik, ar, at_, nn⟩ := i
  simp only at ho
  subst ho
  obtain ⟨ak, an, bs⟩ := a
  have e : beh ⟨ak, an, bs⟩ ⟨31, ik, ar, at_, nn⟩ = (⟨ik, an, bs⟩, must (ak != 0)) := rfl
  rw [e, acall_go (body := b_verify_ahead_behind) rfl rfl (Nat.zero_le _)]
  have hw := with_a (k + 3) ak (.shr bs.length false (brs bs)) rfl rfl rfl (fun _ => rfl) ik
  have hw' := with_a (k + 3) ak (.v (.slice none 0 0)) rfl rfl rfl (fun _ => rfl) ik
  have h2 := must_a (k + 3) (ak != 0)
  cases an <;> simp only [Ah.c, openA, Bool.false_eq_true, if_false, if_true] <;> simp -implicitDefEqProofs only [eqs, eqd, eqe, lh_some, ↓reduceIte, reduceCtorEq, Nat.reduceEqDiff, Nat.reduceAdd, Nat.reduceSub, Nat.reduceMul, Nat.reduceLT, Nat.reduceLeDiff, Nat.reduceBEq, Nat.reduceBNe, Nat.reduceGT, Int.reduceEq, Int.reduceLT, Int.reduceLE, Int.reduceToNat, Int.reduceAdd, Int.reduceSub, Int.reduceMul, Int.reduceNeg, Int.reduceBEq, Int.reduceBNe, b_verify_ahead_behind, gs_verify_ahead_behind, Ins.c, hw, hw', h2]
theorem beh_32 (k : Nat) (a : Ah) (i : Ins) (ha : a.In) (ho : i.op = 32) : acall T (k + 5) 62 0 [.agg a.c, .agg i.c] [] = some ⟨.tup [.agg (beh a i).1.c, .v (.int .i64 (beh a i).2)], [], 1⟩ := by
  obtain ⟨op, ik, ar, at_, nn⟩ := i
  simp only at ho
  subst ho
  obtain ⟨ak, an, bs⟩ := a
  have e : beh ⟨ak, an, bs⟩ ⟨32, ik, ar, at_, nn⟩ = push (⟨ak, an, bs⟩ : Ah) at_ := rfl
  rw [e, acall_go (body := b_verify_ahead_behind) rfl rfl (Nat.zero_le _)]
  have h2 := push_a k _ ha at_
  generalize push (⟨ak, an, bs⟩ : Ah) at_ = r at *
  obtain ⟨⟨rk, rn, rb⟩, re⟩ := r
  cases rn <;>
  cases an <;> simp only [Ah.c, openA, Bool.false_eq_true, if_false, if_true] at h2 ⊢ <;> simp -implicitDefEqProofs only [eqs, eqd, eqe, lh_some, ↓reduceIte, reduceCtorEq, Nat.reduceEqDiff, Nat.reduceAdd, Nat.reduceSub, Nat.reduceMul, Nat.reduceLT, Nat.reduceLeDiff, Nat.reduceBEq, Nat.reduceBNe, Nat.reduceGT, Int.reduceEq, Int.reduceLT, Int.reduceLE, Int.reduceToNat, Int.reduceAdd, Int.reduceSub, Int.reduceMul, Int.reduceNeg, Int.reduceBEq, Int.reduceBNe, b_verify_ahead_behind, gs_verify_ahead_behind, Ins.c, h2]
theorem beh_33 (k : Nat) (a : Ah) (i : Ins) (ha : a.In) (ho : i.op = 33) : acall T (k + 5) 62 0 [.agg a.c, .agg i.c] [] = some ⟨.tup [.agg (beh a i).1.c, .v (.int .i64 (beh a i).2)], [], 1⟩ := by
  obtain ⟨op, ik, ar, at_, nn⟩ := i
  simp only at ho
  subst ho
  obtain ⟨ak, an, bs⟩ := a
  have e : beh ⟨ak, an, bs⟩ ⟨33, ik, ar, at_, nn⟩ = pop (⟨ak, an, bs⟩ : Ah) := rfl
  rw [e, acall_go (body := b_verify_ahead_behind) rfl rfl (Nat.zero_le _)]
  have h2 := pop_a (k + 2) _ ha
  generalize pop (⟨ak, an, bs⟩ : Ah) = r at *
  obtain ⟨⟨rk, rn, rb⟩, re⟩ := r
  cases rn <;>
  cases an <;> simp only [Ah.c, openA, Bool.false_eq_true, if_false, if_true] at h2 ⊢ <;> simp -implicitDefEqProofs only [eqs, eqd, eqe, lh_some, ↓reduceIte, reduceCtorEq, Nat.reduceEqDiff, Nat.reduceAdd, Nat.reduceSub, Nat.reduceMul, Nat.reduceLT, Nat.reduceLeDiff, Nat.reduceBEq, Nat.reduceBNe, Nat.reduceGT, Int.reduceEq, Int.reduceLT, Int.reduceLE, Int.reduceToNat, Int.reduceAdd, Int.reduceSub, Int.reduceMul, Int.reduceNeg, Int.reduceBEq, Int.reduceBNe, b_verify_ahead_behind, gs_verify_ahead_behind, Ins.c, h2]
theorem beh_0 (k : Nat) (a : Ah) (i : Ins) (ha : a.In) (ho : (7 ≤ i.op ∧ i.op ≤ 12) ∨ (14 ≤ i.op ∧ i.op ≤ 24)) : acall T (k + 5) 62 0 [.agg a.c, .agg i.c] [] = some ⟨.tup [.agg (beh a i).1.c, .v (.int .i64 (beh a i).2)], [], 1⟩ := by
  have e : beh a i = ({ a with k := made i.op i.k }, must ((a.k == i.k) && may i.op i.k)) := by unfold beh; repeat (rw [if_neg (by omega)])
  rw [e, acall_go (body := b_verify_ahead_behind) rfl rfl (Nat.zero_le _)]
  obtain ⟨op, ik, ar, at_, nn⟩ := i
  obtain ⟨ak, an, bs⟩ := a
  simp only at ho ⊢
  have n1 : (op == 1) = false := by rw [beq_eq_false_iff_ne]; omega
  have n2 : (op == 2) = false := by rw [beq_eq_false_iff_ne]; omega
  have n3 : (op == 3) = false := by rw [beq_eq_false_iff_ne]; omega
  have n4 : (op == 4) = false := by rw [beq_eq_false_iff_ne]; omega
  have n5 : (op == 5) = false := by rw [beq_eq_false_iff_ne]; omega
  have n6 : (op == 6) = false := by rw [beq_eq_false_iff_ne]; omega
  have n13 : (op == 13) = false := by rw [beq_eq_false_iff_ne]; omega
  have n25 : (op == 25) = false := by rw [beq_eq_false_iff_ne]; omega
  have n26 : (op == 26) = false := by rw [beq_eq_false_iff_ne]; omega
  have n27 : (op == 27) = false := by rw [beq_eq_false_iff_ne]; omega
  have n28 : (op == 28) = false := by rw [beq_eq_false_iff_ne]; omega
  have n29 : (op == 29) = false := by rw [beq_eq_false_iff_ne]; omega
  have n30 : (op == 30) = false := by rw [beq_eq_false_iff_ne]; omega
  have n31 : (op == 31) = false := by rw [beq_eq_false_iff_ne]; omega
  have n32 : (op == 32) = false := by rw [beq_eq_false_iff_ne]; omega
  have n33 : (op == 33) = false := by rw [beq_eq_false_iff_ne]; omega
  have n34 : (op == 34) = false := by rw [beq_eq_false_iff_ne]; omega
  have n35 : (op == 35) = false := by rw [beq_eq_false_iff_ne]; omega
  have n36 : (op == 36) = false := by rw [beq_eq_false_iff_ne]; omega
  have hw := with_a (k + 3) ak (.shr bs.length false (brs bs)) rfl rfl rfl (fun _ => rfl) (made op ik)
  have hw' := with_a (k + 3) ak (.v (.slice none 0 0)) rfl rfl rfl (fun _ => rfl) (made op ik)
  have h1 := made_a (k + 3) op ik
  have h2 := may_a (k + 1) op ik
  have h3 := must_a (k + 3) (may op ik)
  have h4 := must_a (k + 3) false
  cases c : (ak == ik)
  · cases an <;> simp only [Ah.c, openA, Bool.false_eq_true, if_false, if_true] <;> simp -implicitDefEqProofs only [eqs, eqd, eqe, lh_some, ↓reduceIte, reduceCtorEq, Nat.reduceEqDiff, Nat.reduceAdd, Nat.reduceSub, Nat.reduceMul, Nat.reduceLT, Nat.reduceLeDiff, Nat.reduceBEq, Nat.reduceBNe, Nat.reduceGT, Int.reduceEq, Int.reduceLT, Int.reduceLE, Int.reduceToNat, Int.reduceAdd, Int.reduceSub, Int.reduceMul, Int.reduceNeg, Int.reduceBEq, Int.reduceBNe, b_verify_ahead_behind, gs_verify_ahead_behind, Ins.c, hw, hw', h1, h4, c, n1, n2, n3, n4, n5, n6, n13, n25, n26, n27, n28, n29, n30, n31, n32, n33, n34, n35, n36]
  cases an <;> simp only [Ah.c, openA, Bool.false_eq_true, if_false, if_true] <;> simp -implicitDefEqProofs only [eqs, eqd, eqe, lh_some, ↓reduceIte, reduceCtorEq, Nat.reduceEqDiff, Nat.reduceAdd, Nat.reduceSub, Nat.reduceMul, Nat.reduceLT, Nat.reduceLeDiff, Nat.reduceBEq, Nat.reduceBNe, Nat.reduceGT, Int.reduceEq, Int.reduceLT, Int.reduceLE, Int.reduceToNat, Int.reduceAdd, Int.reduceSub, Int.reduceMul, Int.reduceNeg, Int.reduceBEq, Int.reduceBNe, b_verify_ahead_behind, gs_verify_ahead_behind, Ins.c, hw, hw', h1, h2, h3, c, n1, n2, n3, n4, n5, n6, n13, n25, n26, n27, n28, n29, n30, n31, n32, n33, n34, n35, n36]
theorem beh_a (k : Nat) (a : Ah) (i : Ins) (ha : a.In) (ho : 1 ≤ i.op ∧ i.op ≤ 36) : acall T (k + 5) 62 0 [.agg a.c, .agg i.c] [] = some ⟨.tup [.agg (beh a i).1.c, .v (.int .i64 (beh a i).2)], [], 1⟩ := by
  have h : ((7 ≤ i.op ∧ i.op ≤ 12) ∨ (14 ≤ i.op ∧ i.op ≤ 24)) ∨ i.op = 1 ∨ i.op = 2 ∨ i.op = 3 ∨ i.op = 4 ∨ i.op = 5 ∨ i.op = 6 ∨ i.op = 13 ∨ i.op = 25 ∨ i.op = 26 ∨ i.op = 27 ∨ i.op = 28 ∨ i.op = 29 ∨ i.op = 30 ∨ i.op = 31 ∨ i.op = 32 ∨ i.op = 33 ∨ i.op = 34 ∨ i.op = 35 ∨ i.op = 36 := by omega
  rcases h with h | h | h | h | h | h | h | h | h | h | h | h | h | h | h | h | h | h | h | h
  · exact beh_0 k a i ha h
  · exact beh_1 k a i ha h
  · exact beh_2 k a i ha h
  · exact beh_3 k a i ha h
  · exact beh_4 k a i ha h
  · exact beh_5 k a i ha h
  · exact beh_6 k a i ha h
  · exact beh_13 k a i ha h
  · exact beh_25 k a i ha h
  · exact beh_26 k a i ha h
  · exact beh_27 k a i ha h
  · exact beh_28 k a i ha h
  · exact beh_29 k a i ha h
  · exact beh_30 k a i ha h
  · exact beh_31 k a i ha h
  · exact beh_32 k a i ha h
  · exact beh_33 k a i ha h
  · exact beh_34 k a i ha h
  · exact beh_35 k a i ha h
  · exact beh_36 k a i ha h
end Go.Proofs.Ytcfokbhmchcgbaa.Ver

/- What is ahead of an instruction: the document's behind. Written by a program for this claim. -/
namespace Go.Proofs.Ytcfokbhmchcgbaa.Ver
open Go Go.Proofs.Ytcfokbhmchcgbaa.Sym Go.Proofs.Ytcfokbhmchcgbaa.Tab
set_option linter.unusedVariables false
set_option linter.unusedSimpArgs false
set_option maxHeartbeats 4000000
set_option maxRecDepth 20000
def numsB (bs : List (Int × Int)) : List Int := bs.flatMap fun p => [p.1, p.2]
/-- Brackets as a text. -/
def enc (bs : List (Int × Int)) : ByteArray := strOfNums (numsB bs)
def rc (k : Int) (bs : List (Int × Int)) : List AV := [.v (.bool true), .v (.int .i64 k), .v (.string (enc bs))]
/-- Brackets that may be. -/
def BrIn (bs : List (Int × Int)) : Prop := bs.length ≤ 8 ∧ ∀ p ∈ bs, 7 ≤ p.1 ∧ p.1 ≤ 24 ∧ 1 ≤ p.2 ∧ p.2 ≤ 7
theorem may_in {op k : Int} (h : may op k = true) : 7 ≤ op ∧ op ≤ 24 ∧ 1 ≤ k ∧ k ≤ 7 := by
  unfold may kok at h
  simp only [Bool.and_eq_true, decide_eq_true_eq] at h
  obtain ⟨⟨h1, h2⟩, h⟩ := h
  split at h
  · omega
  · split at h
    · omega
    · simp only [Bool.and_eq_true, decide_eq_true_eq] at h
      omega
end Go.Proofs.Ytcfokbhmchcgbaa.Ver

/- A table of pointers to objects of which none leads any further: what can be reached, and the new numbers. -/
namespace Go.Proofs.Ytcfokbhmchcgbaa.Ver
open Go Go.Proofs.Ytcfokbhmchcgbaa.Sym
set_option linter.unusedVariables false
set_option linter.unusedSimpArgs false
def nilp : AV := .v (.pointer none)
/-- A table's cells, its pointers one behind the other. -/
def tcl : List Nat → List (Option Ah) → List AV
  | _, [] => []
  | ps, none :: r => nilp :: tcl ps r
  | p :: ps, some _ :: r => .ptr p 0 :: tcl ps r
  | [], some _ :: r => nilp :: tcl [] r
/-- Those that there are. -/
def som (t : List (Option Ah)) : List Ah := t.filterMap id
theorem som_none {t : List (Option Ah)} : som (none :: t) = som t := rfl
theorem som_some {a : Ah} {t : List (Option Ah)} : som (some a :: t) = a :: som t := rfl
theorem tcl_len : ∀ (ps : List Nat) (t : List (Option Ah)), (tcl ps t).length = t.length
  | _, [] => rfl
  | ps, none :: r => by rw [tcl, List.length_cons, List.length_cons, tcl_len]
  | p :: ps, some _ :: r => by rw [tcl, List.length_cons, List.length_cons, tcl_len]
  | [], some _ :: r => by rw [tcl, List.length_cons, List.length_cons, tcl_len]
theorem tcl_refs : ∀ (ps : List Nat) (t : List (Option Ah)), ps.length = (som t).length → (tcl ps t).flatMap refs0 = ps
  | [], [], _ => rfl
  | p :: ps, [], h => by cases h
  | ps, none :: r, h => by
    rw [tcl, List.flatMap_cons, tcl_refs ps r h]
    rfl
  | p :: ps, some a :: r, h => by
    rw [tcl, List.flatMap_cons, tcl_refs ps r (by simpa [som_some] using h)]
    rfl
  | [], some a :: r, h => by simp [som_some] at h
theorem tcl_ren (g : Nat → Nat) : ∀ (ps : List Nat) (t : List (Option Ah)), (tcl ps t).map (ren0 g) = tcl (ps.map g) t
  | _, [] => by rw [tcl, tcl]; rfl
  | ps, none :: r => by rw [tcl, tcl, List.map_cons, tcl_ren g ps r]; rfl
  | p :: ps, some _ :: r => by rw [tcl, List.map_cons, tcl_ren g ps r, List.map_cons, tcl]; rfl
  | [], some _ :: r => by rw [tcl, List.map_cons, tcl_ren g [] r]; rfl
theorem tcl_atom : ∀ (ps : List Nat) (t : List (Option Ah)), (tcl ps t).all atom = true
  | _, [] => by rw [tcl]; rfl
  | ps, none :: r => by rw [tcl, List.all_cons, tcl_atom ps r]; rfl
  | p :: ps, some _ :: r => by rw [tcl, List.all_cons, tcl_atom ps r]; rfl
  | [], some _ :: r => by rw [tcl, List.all_cons, tcl_atom [] r]; rfl
/-- How many there are ahead of one. -/
def cnt (t : List (Option Ah)) (i : Nat) : Nat := (som (t.take i)).length
theorem tcl_none : ∀ (ps : List Nat) (t : List (Option Ah)) (i : Nat), t[i]? = some none → (tcl ps t)[i]? = some nilp
  | _, [], i, h => by simp at h
  | ps, none :: r, 0, h => by rw [tcl]; rfl
  | ps, none :: r, i + 1, h => by rw [tcl, List.getElem?_cons_succ]; exact tcl_none ps r i (by simpa using h)
  | p :: ps, some _ :: r, 0, h => by simp at h
  | p :: ps, some _ :: r, i + 1, h => by rw [tcl, List.getElem?_cons_succ]; exact tcl_none ps r i (by simpa using h)
  | [], some _ :: r, 0, h => by simp at h
  | [], some _ :: r, i + 1, h => by rw [tcl, List.getElem?_cons_succ]; exact tcl_none [] r i (by simpa using h)
theorem tcl_some : ∀ (ps : List Nat) (t : List (Option Ah)) (i : Nat) (a : Ah), ps.length = (som t).length → t[i]? = some (some a) → ∃ p, ps[cnt t i]? = some p ∧ (tcl ps t)[i]? = some (.ptr p 0) ∧ (som t)[cnt t i]? = some a
  | _, [], i, a, _, h => by simp at h
  | ps, none :: r, 0, a, _, h => by simp at h
  | ps, none :: r, i + 1, a, hl, h => by
    obtain ⟨p, h1, h2, h3⟩ := tcl_some ps r i a hl (by simpa using h)
    exact ⟨p, h1, by rw [tcl]; exact h2, h3⟩
  | p :: ps, some b :: r, 0, a, hl, h => by
    obtain rfl : b = a := by simpa using h
    exact ⟨p, rfl, by rw [tcl]; rfl, rfl⟩
  | p :: ps, some b :: r, i + 1, a, hl, h => by
    obtain ⟨q, h1, h2, h3⟩ := tcl_some ps r i a (by simpa [som_some] using hl) (by simpa using h)
    have e : cnt (some b :: r) (i + 1) = cnt r i + 1 := by simp [cnt, som_some]
    exact ⟨q, by rw [e]; exact h1, by rw [tcl]; exact h2, by rw [e, som_some]; exact h3⟩
  | [], some b :: r, i, a, hl, h => by simp [som_some] at hl
/-- A new one. -/
theorem tcl_new : ∀ (ps : List Nat) (t : List (Option Ah)) (i : Nat) (a : Ah) (q : Nat), ps.length = (som t).length → t[i]? = some none → (tcl ps t).set i (.ptr q 0) = tcl (ps.take (cnt t i) ++ q :: ps.drop (cnt t i)) (t.set i (some a)) ∧ som (t.set i (some a)) = (som t).take (cnt t i) ++ a :: (som t).drop (cnt t i)
  | _, [], i, a, q, _, h => by simp at h
  | ps, none :: r, 0, a, q, hl, h => by
    have e : cnt (none :: r) 0 = 0 := rfl
    rw [e, tcl, List.set_cons_zero, List.set_cons_zero, List.take_zero, List.nil_append, List.drop_zero, tcl]
    exact ⟨rfl, rfl⟩
  | ps, none :: r, i + 1, a, q, hl, h => by
    obtain ⟨h1, h2⟩ := tcl_new ps r i a q hl (by simpa using h)
    have e : cnt (none :: r) (i + 1) = cnt r i := rfl
    rw [e, tcl, List.set_cons_succ, List.set_cons_succ, h1, som_none, som_none, h2]
    refine ⟨?_, rfl⟩
    rw [tcl]
  | p :: ps, some b :: r, 0, a, q, hl, h => by simp at h
  | p :: ps, some b :: r, i + 1, a, q, hl, h => by
    obtain ⟨h1, h2⟩ := tcl_new ps r i a q (by simpa [som_some] using hl) (by simpa using h)
    have e : cnt (some b :: r) (i + 1) = cnt r i + 1 := by simp [cnt, som_some]
    rw [e, tcl, List.set_cons_succ, List.set_cons_succ, h1, som_some, som_some, h2]
    exact ⟨rfl, rfl⟩
  | [], some b :: r, i, a, q, hl, h => by simp [som_some] at hl
/-- Another one in the place of one. -/
theorem tcl_put : ∀ (ps : List Nat) (t : List (Option Ah)) (i : Nat) (a b : Ah), t[i]? = some (some a) → tcl ps (t.set i (some b)) = tcl ps t ∧ som (t.set i (some b)) = (som t).set (cnt t i) b
  | _, [], i, a, b, h => by simp at h
  | ps, none :: r, 0, a, b, h => by simp at h
  | ps, none :: r, i + 1, a, b, h => by
    obtain ⟨h1, h2⟩ := tcl_put ps r i a b (by simpa using h)
    rw [List.set_cons_succ, tcl, tcl, h1, som_none, som_none, h2]
    exact ⟨rfl, rfl⟩
  | p :: ps, some c :: r, 0, a, b, h => by
    rw [List.set_cons_zero, tcl, tcl]
    exact ⟨rfl, rfl⟩
  | p :: ps, some c :: r, i + 1, a, b, h => by
    obtain ⟨h1, h2⟩ := tcl_put ps r i a b (by simpa using h)
    have e : cnt (some c :: r) (i + 1) = cnt r i + 1 := by simp [cnt, som_some]
    rw [List.set_cons_succ, tcl, tcl, h1, som_some, som_some, h2, e]
    exact ⟨rfl, rfl⟩
  | [], some c :: r, 0, a, b, h => by
    rw [List.set_cons_zero, tcl, tcl]
    exact ⟨rfl, rfl⟩
  | [], some c :: r, i + 1, a, b, h => by
    obtain ⟨h1, h2⟩ := tcl_put [] r i a b (by simpa using h)
    have e : cnt (some c :: r) (i + 1) = cnt r i + 1 := by simp [cnt, som_some]
    rw [List.set_cons_succ, tcl, tcl, h1, som_some, som_some, h2, e]
    exact ⟨rfl, rfl⟩
/-- What flat objects lead to. -/
theorem reach_flat {Ω : List Sym.Obj} : ∀ (ks seen : List Nat) (f : Nat), (∀ k ∈ ks, ∃ o, Ω[k]? = some o ∧ o.flat = true) → ks.Nodup → (∀ k ∈ ks, k ∉ seen) → ks.length < f → reach Ω f ks seen = some (seen ++ ks)
  | [], seen, f, _, _, _, hf => by
    obtain ⟨f, rfl⟩ : ∃ g, f = g + 1 := ⟨f - 1, by simp at hf; omega⟩
    rw [reach, List.append_nil]
  | k :: ks, seen, f, h, hd, hs, hf => by
    obtain ⟨f, rfl⟩ : ∃ g, f = g + 1 := ⟨f - 1, by simp at hf; omega⟩
    obtain ⟨o, ho, hfl⟩ := h k (by simp)
    have hc : seen.contains k = false := by simpa using hs k (by simp)
    rw [reach, hc, if_neg (by decide), ho]
    simp only [hfl, if_true, ite_self, List.append_nil]
    rw [reach_flat ks (seen ++ [k]) f (fun j hj => h j (by simp [hj])) (List.nodup_cons.1 hd).2 (fun j hj => by
      rw [List.mem_append, List.mem_singleton, not_or]
      exact ⟨hs j (by simp [hj]), fun e => (List.nodup_cons.1 hd).1 (e ▸ hj)⟩) (by simp at hf; omega), List.append_assoc]
    rfl
/-- A table in memory, at the number 0. -/
structure HasT (Ω : List Sym.Obj) (ps : List Nat) (t : List (Option Ah)) (fr : Bool) : Prop where
  tab : ∃ f, Ω[0]? = some ⟨true, f, false, tcl ps t⟩ ∧ (fr = true → f = true)
  len : ps.length = (som t).length
  obj : ∀ (j : Nat) p a, ps[j]? = some p → (som t)[j]? = some a → ∃ f, Ω[p]? = some ⟨true, f, true, a.c⟩ ∧ (fr = true → f = true)
  nodup : ps.Nodup
  zero : 0 ∉ ps
  small : ps.length ≤ 300
theorem HasT.reach {Ω : List Sym.Obj} {ps : List Nat} {t : List (Option Ah)} {fr : Bool} (h : HasT Ω ps t fr) : reach Ω 400 [0] [] = some (0 :: ps) := by
  show Sym.reach Ω (399 + 1) [0] [] = _
  obtain ⟨f0, ht, _⟩ := h.tab
  rw [Sym.reach, List.contains_nil, if_neg (by decide), ht]
  simp only [if_true, Bool.false_eq_true, if_false, List.nil_append]
  rw [tcl_refs _ _ h.len, reach_flat ps [0] 399 (fun k hk => ?_) h.nodup (fun k hk => ?_) (by have := h.small; omega)]
  · rfl
  · obtain ⟨j, hj⟩ := List.mem_iff_getElem?.1 hk
    have hlt := (List.getElem?_eq_some_iff.1 hj).1
    obtain ⟨f, hf, _⟩ := h.obj j k _ hj (List.getElem?_eq_getElem (by rw [← h.len]; exact hlt))
    exact ⟨_, hf, rfl⟩
  · rw [List.mem_singleton]
    intro e
    exact h.zero (e ▸ hk)
theorem pos_list {ps : List Nat} (hd : ps.Nodup) (h0 : 0 ∉ ps) : ps.map (pos (0 :: ps)) = List.range' 1 ps.length := by
  apply List.ext_getElem?
  intro j
  rw [List.getElem?_map]
  by_cases c : j < ps.length
  · rw [List.getElem?_eq_getElem c, List.getElem?_range' c]
    have hne : ps[j] ≠ 0 := fun e => h0 (e ▸ List.getElem_mem c)
    show some (List.idxOf ps[j] (0 :: ps)) = _
    rw [List.idxOf_cons, show ((0 : Nat) == ps[j]) = false by rw [beq_eq_false_iff_ne]; exact fun e => hne e.symm, cond_false, hd.idxOf_getElem j c]
    congr 1
    omega
  · rw [List.getElem?_eq_none (by omega), List.getElem?_eq_none (by simp; omega)]
    rfl
/-- The table as it stands where it is handed over. -/
def canT (t : List (Option Ah)) (fr : Bool) : List Sym.Obj := ⟨true, fr, false, tcl (List.range' 1 (som t).length) t⟩ :: (som t).map fun a => ⟨true, fr, true, a.c⟩
theorem HasT.sub {Ω : List Sym.Obj} {ps : List Nat} {t : List (Option Ah)} {fr : Bool} (h : HasT Ω ps t fr) (keep : Bool) (hk : keep = true → fr = true) : sub Ω (0 :: ps) keep = canT t (fr && keep) := by
  have hf : ∀ f, (fr = true → f = true) → (f && keep) = (fr && keep) := fun f hf => by
    cases keep
    · rw [Bool.and_false, Bool.and_false]
    · rw [hk rfl, hf (hk rfl)]
  obtain ⟨f0, ht, hf0⟩ := h.tab
  unfold Sym.sub canT
  rw [List.map_cons]
  have e0 : Ω.getD 0 dead0 = ⟨true, f0, false, tcl ps t⟩ := by rw [List.getD_eq_getElem?_getD, ht]; rfl
  rw [e0, ← hf f0 hf0]
  congr 1
  · simp only [renO, if_true, Bool.false_eq_true, if_false]
    rw [tcl_ren, pos_list h.nodup h.zero, h.len]
  · apply List.ext_getElem?
    intro j
    rw [List.getElem?_map, List.getElem?_map]
    by_cases c : j < ps.length
    · have c' : j < (som t).length := by rw [← h.len]; exact c
      obtain ⟨f1, ho, hf1⟩ := h.obj j _ _ (List.getElem?_eq_getElem c) (List.getElem?_eq_getElem c')
      rw [List.getElem?_eq_getElem c, List.getElem?_eq_getElem c']
      have e1 : Ω.getD ps[j] dead0 = ⟨true, f1, true, ((som t)[j]).c⟩ := by rw [List.getD_eq_getElem?_getD, ho]; rfl
      simp only [Option.map_some, e1, renO, if_true]
      rw [hf f0 hf0, hf f1 hf1]
    · rw [List.getElem?_eq_none (by omega), List.getElem?_eq_none (by rw [← h.len]; omega)]
      rfl
theorem canT_has (t : List (Option Ah)) (fr : Bool) (hs : (som t).length ≤ 300) : HasT (canT t fr) (List.range' 1 (som t).length) t fr where
  tab := ⟨fr, rfl, id⟩
  len := by simp
  obj := fun j p a hp ha => by
    have hj := (List.getElem?_eq_some_iff.1 ha).1
    rw [List.getElem?_range' hj] at hp
    obtain rfl := Option.some.inj hp
    unfold canT
    rw [show 1 + 1 * j = j + 1 by omega, List.getElem?_cons_succ, List.getElem?_map, ha]
    exact ⟨fr, rfl, id⟩
  nodup := List.nodup_range'
  zero := by simp
  small := by simpa using hs
theorem cnt_le (t : List (Option Ah)) (i : Nat) : cnt t i ≤ (som t).length := ((List.take_sublist i t).filterMap id).length_le
/-- With a new one, which lies at q. -/
theorem HasT.new {Ω : List Sym.Obj} {ps : List Nat} {t : List (Option Ah)} {fr : Bool} (h : HasT Ω ps t fr) {i q : Nat} {a : Ah} (hi : t[i]? = some none) {Ω' : List Sym.Obj} (h0 : ∃ f, Ω'[0]? = some ⟨true, f, false, (tcl ps t).set i (.ptr q 0)⟩ ∧ (fr = true → f = true)) (hs : ∀ p ∈ ps, Ω'[p]? = Ω[p]?) (hq : ∃ f, Ω'[q]? = some ⟨true, f, true, a.c⟩ ∧ (fr = true → f = true)) (hq0 : q ≠ 0) (hqp : q ∉ ps) (hsm : ps.length < 300) :
    HasT Ω' (ps.take (cnt t i) ++ q :: ps.drop (cnt t i)) (t.set i (some a)) fr := by
  obtain ⟨e1, e2⟩ := tcl_new ps t i a q h.len hi
  have hc := cnt_le t i
  have hl := h.len
  generalize cnt t i = c at *
  refine ⟨?_, ?_, fun j p b hp hb => ?_, ?_, ?_, ?_⟩
  · obtain ⟨f, h1, h2⟩ := h0
    exact ⟨f, by rw [h1, e1], h2⟩
  · rw [e2]; simp; omega
  · rw [e2] at hb
    have l1 : (ps.take c).length = c := by rw [List.length_take]; omega
    have l2 : ((som t).take c).length = c := by rw [List.length_take]; omega
    rcases Nat.lt_trichotomy j c with hj | hj | hj
    · rw [List.getElem?_append_left (by omega), List.getElem?_take_of_lt hj] at hp hb
      rw [hs p (List.mem_of_getElem? hp)]
      exact h.obj j p b hp hb
    · subst hj
      rw [List.getElem?_append_right (by omega), l1, Nat.sub_self] at hp
      rw [List.getElem?_append_right (by omega), l2, Nat.sub_self] at hb
      obtain rfl : q = p := by simpa using hp
      obtain rfl : a = b := by simpa using hb
      exact hq
    · obtain ⟨d, hd⟩ : ∃ d, j = c + (d + 1) := ⟨j - c - 1, by omega⟩
      rw [List.getElem?_append_right (by omega), l1, hd, show c + (d + 1) - c = d + 1 by omega, List.getElem?_cons_succ, List.getElem?_drop] at hp
      rw [List.getElem?_append_right (by omega), l2, hd, show c + (d + 1) - c = d + 1 by omega, List.getElem?_cons_succ, List.getElem?_drop] at hb
      rw [hs p (List.mem_of_getElem? hp)]
      exact h.obj _ p b hp hb
  · rw [List.perm_middle.nodup_iff, List.take_append_drop, List.nodup_cons]
    exact ⟨hqp, h.nodup⟩
  · intro hm
    have := (List.perm_middle (l₁ := ps.take c) (a := q) (l₂ := ps.drop c)).mem_iff.1 hm
    rw [List.take_append_drop, List.mem_cons] at this
    rcases this with e | e
    · exact hq0 e.symm
    · exact h.zero e
  · simp; omega
/-- With another one in the place of one. -/
theorem HasT.put {Ω : List Sym.Obj} {ps : List Nat} {t : List (Option Ah)} {fr : Bool} (h : HasT Ω ps t fr) {i : Nat} {a b : Ah} (hi : t[i]? = some (some a)) {p : Nat} (hp : ps[cnt t i]? = some p) {Ω' : List Sym.Obj} (hs : ∀ q, q ≠ p → Ω'[q]? = Ω[q]?) (hb : ∃ f, Ω'[p]? = some ⟨true, f, true, b.c⟩ ∧ (fr = true → f = true)) : HasT Ω' ps (t.set i (some b)) fr := by
  obtain ⟨e1, e2⟩ := tcl_put ps t i a b hi
  have hp0 : p ≠ 0 := fun e => h.zero (e ▸ List.mem_of_getElem? hp)
  refine ⟨?_, ?_, fun j q c hq hc => ?_, h.nodup, h.zero, h.small⟩
  · obtain ⟨f, h1, h2⟩ := h.tab
    exact ⟨f, by rw [hs 0 (fun e => hp0 e.symm), h1, e1], h2⟩
  · rw [e2, List.length_set, h.len]
  · rw [e2] at hc
    by_cases hj : j = cnt t i
    · subst hj
      rw [hp] at hq
      cases hq
      rw [List.getElem?_set] at hc
      simp only [if_true] at hc
      split at hc
      · cases hc; exact hb
      · cases hc
    · rw [List.getElem?_set, if_neg (fun e => hj e.symm)] at hc
      have hne : q ≠ p := by
        rintro rfl
        obtain ⟨l1, g1⟩ := List.getElem?_eq_some_iff.1 hq
        obtain ⟨l2, g2⟩ := List.getElem?_eq_some_iff.1 hp
        exact hj ((List.getElem_inj h.nodup).1 (g1.trans g2.symm))
      rw [hs q hne]
      exact h.obj j q c hq hc
end Go.Proofs.Ytcfokbhmchcgbaa.Ver

/- Brackets compared. -/
namespace Go.Proofs.Ytcfokbhmchcgbaa.Ver
open Go Go.Proofs.Ytcfokbhmchcgbaa.Sym Go.Proofs.Ytcfokbhmchcgbaa.Tab
set_option linter.unusedVariables false
set_option linter.unusedSimpArgs false
set_option maxHeartbeats 4000000
set_option maxRecDepth 20000
theorem brs_get : ∀ (bs : List (Int × Int)) (i : Nat) (h : i < bs.length), ((brs bs).drop (i * 2)).take 2 = [.v (.int .i64 bs[i].1), .v (.int .i64 bs[i].2)]
  | p :: bs, 0, _ => rfl
  | p :: bs, i + 1, h => by
    have ih := brs_get bs i (by simpa using h)
    rw [show (i + 1) * 2 = i * 2 + 2 by omega]
    exact ih
theorem eq_loop (C : CT) (lf : Nat) (bs cs : List (Int × Int)) (hlen : bs.length = cs.length) (hl : bs.length ≤ 8) : ∀ (n i d : Nat), i ≤ bs.length → bs.length - i ≤ n → d ≤ 1 →
    FnR [.t 4] false false (Lh C lf (some ⟨[(0, .shr bs.length false (brs bs)), (1, .shr cs.length false (brs cs)), (12, .v (.int .i64 bs.length)), (13, .v (.int .i64 i))], [], d, []⟩) [0, 1, 12, 13] l_verify_bracket_88_0 n [.b 0, .c l_verify_bracket_88_1]) = some ⟨.v (.bool (decide (bs.drop i = cs.drop i))), [], if i < bs.length then 1 else d⟩
  | n, i, d, hi, hn, hd => by
    rw [lh_as l_verify_bracket_88_0.eq_1]
    by_cases c : i < bs.length
    · obtain ⟨n, rfl⟩ : ∃ m, n = m + 1 := ⟨n - 1, by omega⟩
      have c' : (i : Int) < bs.length := by omega
      have c2 : (i : Int) < cs.length := by omega
      have c0 : (0 : Int) ≤ i := by omega
      have g1 := brs_get bs i c
      have g2 := brs_get cs i (by omega)
      have l1 : i * 2 + 2 ≤ bs.length * 2 := by omega
      have l2 : i * 2 + 2 ≤ cs.length * 2 := by omega
      have w : IntKind.i64.wrap ((i : Int) + 1) = i + 1 := w64 (by omega) (by omega)
      have dr1 : bs.drop i = bs[i] :: bs.drop (i + 1) := List.drop_eq_getElem_cons c
      have dr2 : cs.drop i = cs[i] :: cs.drop (i + 1) := List.drop_eq_getElem_cons (by omega)
      rw [if_pos c, dr1, dr2]
      have hdd : d = 0 ∨ d = 1 := by omega
      by_cases e : bs[i] = cs[i]
      · have ih := eq_loop C lf bs cs hlen hl n (i + 1) 1 c (by omega) (Nat.le_refl 1)
        rw [Int.natCast_add, Int.natCast_one, ite_self] at ih
        have e' : decide (bs[i] :: bs.drop (i + 1) = cs[i] :: cs.drop (i + 1)) = decide (bs.drop (i + 1) = cs.drop (i + 1)) := by
          rw [e, decide_eq_decide, List.cons.injEq]
          exact ⟨fun h => h.2, fun h => ⟨rfl, h⟩⟩
        rw [e', ← ih]
        rw [← e] at g2
        have m1 : max 0 1 = 1 := rfl
        rcases hdd with rfl | rfl <;> simp -implicitDefEqProofs only [eqs, eqd, eqe, ↓reduceIte, reduceCtorEq, Nat.reduceEqDiff, Nat.reduceAdd, Nat.reduceSub, Nat.reduceMul, Nat.reduceLT, Nat.reduceLeDiff, Nat.reduceBEq, Nat.reduceBNe, Nat.reduceGT, Int.reduceEq, Int.reduceLT, Int.reduceLE, Int.reduceToNat, Int.reduceAdd, Int.reduceSub, Int.reduceMul, Int.reduceNeg, Int.reduceBEq, Int.reduceBNe, c', c2, c0, g1, g2, l1, l2, w, brs_len, Int.toNat_natCast, m1]
      · have e' : decide (bs[i] :: bs.drop (i + 1) = cs[i] :: cs.drop (i + 1)) = false := decide_eq_false (fun h => e (List.cons.inj h).1)
        rw [e']
        have f : (((bs[i].1 == cs[i].1) && (bs[i].2 == cs[i].2)) != true) = true := by
          cases h1 : (bs[i].1 == cs[i].1)
          · rfl
          · cases h2 : (bs[i].2 == cs[i].2)
            · rfl
            · exact absurd (Prod.ext (by simpa using h1) (by simpa using h2)) e
        generalize bs[i] = x at *
        generalize cs[i] = y at *
        have m1 : max 0 1 = 1 := rfl
        cases h1 : (x.1 == y.1)
        · rcases hdd with rfl | rfl <;> simp -implicitDefEqProofs only [eqs, eqd, eqe, ↓reduceIte, reduceCtorEq, Nat.reduceEqDiff, Nat.reduceAdd, Nat.reduceSub, Nat.reduceMul, Nat.reduceLT, Nat.reduceLeDiff, Nat.reduceBEq, Nat.reduceBNe, Nat.reduceGT, Int.reduceEq, Int.reduceLT, Int.reduceLE, Int.reduceToNat, Int.reduceAdd, Int.reduceSub, Int.reduceMul, Int.reduceNeg, Int.reduceBEq, Int.reduceBNe, c', c2, c0, g1, g2, l1, l2, w, brs_len, Int.toNat_natCast, m1, h1]
        · rw [h1, Bool.true_and] at f
          have h2 : (x.2 == y.2) = false := by cases h : (x.2 == y.2); rfl; rw [h] at f; cases f
          rcases hdd with rfl | rfl <;> simp -implicitDefEqProofs only [eqs, eqd, eqe, ↓reduceIte, reduceCtorEq, Nat.reduceEqDiff, Nat.reduceAdd, Nat.reduceSub, Nat.reduceMul, Nat.reduceLT, Nat.reduceLeDiff, Nat.reduceBEq, Nat.reduceBNe, Nat.reduceGT, Int.reduceEq, Int.reduceLT, Int.reduceLE, Int.reduceToNat, Int.reduceAdd, Int.reduceSub, Int.reduceMul, Int.reduceNeg, Int.reduceBEq, Int.reduceBNe, c', c2, c0, g1, g2, l1, l2, w, brs_len, Int.toNat_natCast, m1, h1, h2]
    · have c' : ¬ (i : Int) < bs.length := by omega
      have e1 : bs.drop i = [] := List.drop_eq_nil_of_le (by omega)
      have e2 : cs.drop i = [] := List.drop_eq_nil_of_le (by omega)
      rw [if_neg c, e1, e2]
      have hdd : d = 0 ∨ d = 1 := by omega
      rcases hdd with rfl | rfl <;> simp -implicitDefEqProofs only [eqs, eqd, eqe, ↓reduceIte, reduceCtorEq, Nat.reduceEqDiff, Nat.reduceAdd, Nat.reduceSub, Nat.reduceMul, Nat.reduceLT, Nat.reduceLeDiff, Nat.reduceBEq, Nat.reduceBNe, Nat.reduceGT, Int.reduceEq, Int.reduceLT, Int.reduceLE, Int.reduceToNat, Int.reduceAdd, Int.reduceSub, Int.reduceMul, Int.reduceNeg, Int.reduceBEq, Int.reduceBNe, l_verify_bracket_88_1, c']
theorem eq_a (k : Nat) (n m : Bool) (bs cs : List (Int × Int)) (h1 : n = true → bs = []) (h2 : m = true → cs = []) (hl : bs.length ≤ 8) (hl2 : cs.length ≤ 8) : ∃ d, d ≤ 1 ∧ acall T (k + 12) 88 0 [openA n bs, openA m cs] [] = some ⟨.v (.bool (decide (bs = cs))), [], d⟩ := by
  have lp : ∀ (ks : List It) (s : St), Lp (acall T (k + 11)) (k + 11) [0, 1, 12, 13] l_verify_bracket_88_0 (k + 11) ks s = Lh (acall T (k + 11)) (k + 11) (canon [0, 1, 12, 13] s) [0, 1, 12, 13] l_verify_bracket_88_0 (k + 10) ks := fun ks s => lp_succ (n := k + 10)
  by_cases c : bs.length = cs.length
  · cases n
    · cases m
      · have h := eq_loop (acall T (k + 11)) (k + 11) bs cs c hl (k + 10) 0 0 (Nat.zero_le _) (by omega) (Nat.zero_le _)
        refine ⟨if 0 < bs.length then 1 else 0, by split <;> omega, ?_⟩
        rw [acall_go (body := b_verify_bracket_88) rfl rfl (Nat.zero_le _)]
        have c' : ((bs.length : Int) != (cs.length : Int)) = false := by rw [c]; simp
        rw [List.drop_zero, List.drop_zero, Int.natCast_zero] at h
        rw [← h]
        simp only [openA, Bool.false_eq_true, if_false]
        simp -implicitDefEqProofs only [eqs, eqd, eqe, ↓reduceIte, reduceCtorEq, Nat.reduceEqDiff, Nat.reduceAdd, Nat.reduceSub, Nat.reduceMul, Nat.reduceLT, Nat.reduceLeDiff, Nat.reduceBEq, Nat.reduceBNe, Nat.reduceGT, Int.reduceEq, Int.reduceLT, Int.reduceLE, Int.reduceToNat, Int.reduceAdd, Int.reduceSub, Int.reduceMul, Int.reduceNeg, Int.reduceBEq, Int.reduceBNe, b_verify_bracket_88, c', lp]
      · obtain rfl := h2 rfl
        have : bs = [] := List.length_eq_zero_iff.1 c
        subst this
        refine ⟨0, Nat.zero_le _, ?_⟩
        rw [acall_go (body := b_verify_bracket_88) rfl rfl (Nat.zero_le _)]
        simp only [openA, Bool.false_eq_true, if_false, if_true]
        simp -implicitDefEqProofs only [eqs, eqd, eqe, lh_some, ↓reduceIte, reduceCtorEq, Nat.reduceEqDiff, Nat.reduceAdd, Nat.reduceSub, Nat.reduceMul, Nat.reduceLT, Nat.reduceLeDiff, Nat.reduceBEq, Nat.reduceBNe, Nat.reduceGT, Int.reduceEq, Int.reduceLT, Int.reduceLE, Int.reduceToNat, Int.reduceAdd, Int.reduceSub, Int.reduceMul, Int.reduceNeg, Int.reduceBEq, Int.reduceBNe, b_verify_bracket_88, l_verify_bracket_88_0, l_verify_bracket_88_1]
    · obtain rfl := h1 rfl
      have : cs = [] := List.length_eq_zero_iff.1 c.symm
      subst this
      refine ⟨0, Nat.zero_le _, ?_⟩
      rw [acall_go (body := b_verify_bracket_88) rfl rfl (Nat.zero_le _)]
      cases m
      · simp only [openA, Bool.false_eq_true, if_false, if_true]
        simp -implicitDefEqProofs only [eqs, eqd, eqe, lh_some, ↓reduceIte, reduceCtorEq, Nat.reduceEqDiff, Nat.reduceAdd, Nat.reduceSub, Nat.reduceMul, Nat.reduceLT, Nat.reduceLeDiff, Nat.reduceBEq, Nat.reduceBNe, Nat.reduceGT, Int.reduceEq, Int.reduceLT, Int.reduceLE, Int.reduceToNat, Int.reduceAdd, Int.reduceSub, Int.reduceMul, Int.reduceNeg, Int.reduceBEq, Int.reduceBNe, b_verify_bracket_88, l_verify_bracket_88_0, l_verify_bracket_88_1]
      · simp only [openA, Bool.false_eq_true, if_false, if_true]
        simp -implicitDefEqProofs only [eqs, eqd, eqe, lh_some, ↓reduceIte, reduceCtorEq, Nat.reduceEqDiff, Nat.reduceAdd, Nat.reduceSub, Nat.reduceMul, Nat.reduceLT, Nat.reduceLeDiff, Nat.reduceBEq, Nat.reduceBNe, Nat.reduceGT, Int.reduceEq, Int.reduceLT, Int.reduceLE, Int.reduceToNat, Int.reduceAdd, Int.reduceSub, Int.reduceMul, Int.reduceNeg, Int.reduceBEq, Int.reduceBNe, b_verify_bracket_88, l_verify_bracket_88_0, l_verify_bracket_88_1]
  · have hne : decide (bs = cs) = false := by simp; intro e; exact c (by rw [e])
    have c' : ((bs.length : Int) != (cs.length : Int)) = true := by simp; omega
    refine ⟨0, Nat.zero_le _, ?_⟩
    rw [hne, acall_go (body := b_verify_bracket_88) rfl rfl (Nat.zero_le _)]
    cases n
    · cases m
      · simp only [openA, Bool.false_eq_true, if_false]
        simp -implicitDefEqProofs only [eqs, eqd, eqe, lh_some, ↓reduceIte, reduceCtorEq, Nat.reduceEqDiff, Nat.reduceAdd, Nat.reduceSub, Nat.reduceMul, Nat.reduceLT, Nat.reduceLeDiff, Nat.reduceBEq, Nat.reduceBNe, Nat.reduceGT, Int.reduceEq, Int.reduceLT, Int.reduceLE, Int.reduceToNat, Int.reduceAdd, Int.reduceSub, Int.reduceMul, Int.reduceNeg, Int.reduceBEq, Int.reduceBNe, b_verify_bracket_88, c']
      · obtain rfl := h2 rfl
        rw [List.length_nil, Int.natCast_zero] at c'
        simp only [openA, Bool.false_eq_true, if_false, if_true]
        simp -implicitDefEqProofs only [eqs, eqd, eqe, lh_some, ↓reduceIte, reduceCtorEq, Nat.reduceEqDiff, Nat.reduceAdd, Nat.reduceSub, Nat.reduceMul, Nat.reduceLT, Nat.reduceLeDiff, Nat.reduceBEq, Nat.reduceBNe, Nat.reduceGT, Int.reduceEq, Int.reduceLT, Int.reduceLE, Int.reduceToNat, Int.reduceAdd, Int.reduceSub, Int.reduceMul, Int.reduceNeg, Int.reduceBEq, Int.reduceBNe, b_verify_bracket_88, c']
    · obtain rfl := h1 rfl
      rw [List.length_nil, Int.natCast_zero] at c'
      cases m
      · simp only [openA, Bool.false_eq_true, if_false, if_true]
        simp -implicitDefEqProofs only [eqs, eqd, eqe, lh_some, ↓reduceIte, reduceCtorEq, Nat.reduceEqDiff, Nat.reduceAdd, Nat.reduceSub, Nat.reduceMul, Nat.reduceLT, Nat.reduceLeDiff, Nat.reduceBEq, Nat.reduceBNe, Nat.reduceGT, Int.reduceEq, Int.reduceLT, Int.reduceLE, Int.reduceToNat, Int.reduceAdd, Int.reduceSub, Int.reduceMul, Int.reduceNeg, Int.reduceBEq, Int.reduceBNe, b_verify_bracket_88, c']
      · obtain rfl := h2 rfl
        exact absurd rfl c
end Go.Proofs.Ytcfokbhmchcgbaa.Ver

/- One more leads to an instruction. -/
namespace Go.Proofs.Ytcfokbhmchcgbaa.Ver
open Go Go.Proofs.Ytcfokbhmchcgbaa.Sym Go.Proofs.Ytcfokbhmchcgbaa.Tab
set_option linter.unusedVariables false
set_option linter.unusedSimpArgs false
set_option maxHeartbeats 4000000
set_option maxRecDepth 20000
theorem r0 (Ω : List Sym.Obj) : reach Ω 400 [] [] = some [] := rfl
theorem s0 (Ω : List Sym.Obj) (b : Bool) : sub Ω [] b = [] := rfl
theorem c_atom (a : Ah) : a.c.all atom = true := by obtain ⟨k, n, bs⟩ := a; cases n <;> rfl
def objs (t : List (Option Ah)) : List Sym.Obj := (som t).map fun a => ⟨true, false, true, a.c⟩
theorem canT_eq (t : List (Option Ah)) : canT t false = ⟨true, false, false, tcl (List.range' 1 (som t).length) t⟩ :: objs t := rfl
theorem objs_len (t : List (Option Ah)) : (objs t).length = (som t).length := by simp [objs]
theorem lead_new (k : Nat) (t : List (Option Ah)) (to : Nat) (hto : t[to]? = some none) (hs : (som t).length < 300) (a : Ah) :
    acall T (k + 14) 64 1 [.view 0 0 t.length 1 (some t.length), .v (.int .i64 to), .agg a.c] (canT t false) = some ⟨.v (.bool true), canT (t.set to (some a)) false, 2⟩ := by
  have hlt := (List.getElem?_eq_some_iff.1 hto).1
  rw [acall_go (body := b_verify_table_lead) rfl rfl (by rw [canT_eq]; show 1 ≤ _ + 1; omega)]
  have hcan := canT_has t false (by omega)
  rw [canT_eq] at hcan
  have ht := tcl_none (List.range' 1 (som t).length) t to hto
  have htl := tcl_len (List.range' 1 (som t).length) t
  have hta := tcl_atom (List.range' 1 (som t).length) t
  have c1 : (to : Int) < t.length := by omega
  have c0 : (0 : Int) ≤ to := by omega
  have c2 : to + 1 ≤ t.length := hlt
  have key : ∀ (fl : Bool) (B : List AV), B = a.c → HasT (⟨true, false, false, (tcl (List.range' 1 (som t).length) t).set to (.ptr ((objs t).length + 1) 0)⟩ :: (objs t ++ [⟨true, true, true, B⟩])) ((List.range' 1 (som t).length).take (cnt t to) ++ ((objs t).length + 1) :: (List.range' 1 (som t).length).drop (cnt t to)) (t.set to (some a)) false := fun fl B hB => by
    subst hB
    refine hcan.new hto ⟨false, rfl, id⟩ (fun p hp => ?_) ⟨true, ?_, fun _ => rfl⟩ (by omega) ?_ (by rw [List.length_range']; exact hs)
    · rw [List.mem_range'_1] at hp
      obtain ⟨p, rfl⟩ : ∃ q, p = q + 1 := ⟨p - 1, by omega⟩
      rw [List.getElem?_cons_succ, List.getElem?_cons_succ, List.getElem?_append_left (by rw [objs_len]; omega)]
    · rw [List.getElem?_cons_succ, List.getElem?_append_right (Nat.le_refl _), Nat.sub_self]
      rfl
    · rw [List.mem_range'_1, objs_len]
      omega
  have hk := key true _ rfl
  have hr := hk.reach
  have hsb := hk.sub false (fun h => by cases h)
  rw [Bool.false_and] at hsb
  generalize hP : (List.range' 1 (som t).length).take (cnt t to) ++ ((objs t).length + 1) :: (List.range' 1 (som t).length).drop (cnt t to) = P at *
  have hX : ∃ X, canT (t.set to (some a)) false = X := ⟨_, rfl⟩
  obtain ⟨X, hX⟩ := hX
  rw [hX] at hsb ⊢
  rw [canT_eq]
  generalize objs t = L at *
  generalize tcl (List.range' 1 (som t).length) t = tc at *
  obtain ⟨ak, an, bs⟩ := a
  cases an <;> simp only [Ah.c, openA, Bool.false_eq_true, if_false, if_true] at hr hsb ⊢ <;>
  simp -implicitDefEqProofs only [eqs, eqd, aCall, Sym.pos, ↓reduceIte, reduceCtorEq, Nat.reduceEqDiff, Nat.reduceAdd, Nat.reduceSub, Nat.reduceMul, Nat.reduceLT, Nat.reduceLeDiff, Nat.reduceBEq, Nat.reduceBNe, Nat.reduceGT, Int.reduceEq, Int.reduceLT, Int.reduceLE, Int.reduceToNat, Int.reduceAdd, Int.reduceSub, Int.reduceMul, Int.reduceNeg, Int.reduceBEq, Int.reduceBNe, b_verify_table_lead, gs_verify_table_lead, r0, s0, nilp, ht, htl, hta, c0, c1, c2, hr, hsb, Int.toNat_natCast, List.length_set, Nat.add_comm 1]
end Go.Proofs.Ytcfokbhmchcgbaa.Ver

/- One more leads to an instruction to which others lead. -/
namespace Go.Proofs.Ytcfokbhmchcgbaa.Ver
open Go Go.Proofs.Ytcfokbhmchcgbaa.Sym Go.Proofs.Ytcfokbhmchcgbaa.Tab
set_option linter.unusedVariables false
set_option linter.unusedSimpArgs false
set_option maxHeartbeats 4000000
set_option maxRecDepth 20000
theorem HasT.mono {Ω Ω' : List Sym.Obj} {ps : List Nat} {t : List (Option Ah)} {fr : Bool} (h : HasT Ω ps t fr) (h0 : Ω'[0]? = Ω[0]?) (hs : ∀ p ∈ ps, Ω'[p]? = Ω[p]?) : HasT Ω' ps t fr where
  tab := by rw [h0]; exact h.tab
  len := h.len
  obj := fun j p a hp ha => by rw [hs p (List.mem_of_getElem? hp)]; exact h.obj j p a hp ha
  nodup := h.nodup
  zero := h.zero
  small := h.small
def meet (b a : Ah) : Ah := if b.k = a.k then b else { b with k := 0 }
theorem set_same {t : List (Option Ah)} {i : Nat} {x : Option Ah} (h : t[i]? = some x) : t.set i x = t := by
  obtain ⟨h1, h2⟩ := List.getElem?_eq_some_iff.1 h
  rw [← h2, List.set_getElem_self]
theorem lead_put (k : Nat) (t : List (Option Ah)) (to : Nat) (b : Ah) (hto : t[to]? = some (some b)) (hs : (som t).length < 300) (a : Ah) (ha : a.In) (hb : b.In) :
    acall T (k + 14) 64 1 [.view 0 0 t.length 1 (some t.length), .v (.int .i64 to), .agg a.c] (canT t false) = some ⟨.v (.bool (decide (b.bs = a.bs))), canT (t.set to (some (meet b a))) false, 2⟩ := by
  have hlt := (List.getElem?_eq_some_iff.1 hto).1
  rw [acall_go (body := b_verify_table_lead) rfl rfl (by rw [canT_eq]; show 1 ≤ _ + 1; omega)]
  have hcan := canT_has t false (by omega)
  rw [canT_eq] at hcan
  obtain ⟨p, hp, ht, hsb0⟩ := tcl_some (List.range' 1 (som t).length) t to b (by simp) hto
  have hcl := (List.getElem?_eq_some_iff.1 hsb0).1
  have hpc : p = cnt t to + 1 := by
    rw [List.getElem?_range' hcl] at hp
    have := Option.some.inj hp
    omega
  have htl := tcl_len (List.range' 1 (som t).length) t
  have c1 : (to : Int) < t.length := by omega
  have c0 : (0 : Int) ≤ to := by omega
  have c2 : to + 1 ≤ t.length := hlt
  have hL : (objs t)[cnt t to]? = some ⟨true, false, true, b.c⟩ := by unfold objs; rw [List.getElem?_map, hsb0]; rfl
  have hll := objs_len t
  have hg : ∀ B : Sym.Obj, (objs t ++ [B])[cnt t to]? = some ⟨true, false, true, b.c⟩ := fun B => by rw [List.getElem?_append_left (by omega), hL]
  have key1 : ∀ B : Sym.Obj, HasT (⟨true, false, false, tcl (List.range' 1 (som t).length) t⟩ :: (objs t ++ [B])) (List.range' 1 (som t).length) t false := fun B => by
    refine hcan.mono rfl fun q hq => ?_
    rw [List.mem_range'_1] at hq
    obtain ⟨q, rfl⟩ : ∃ r, q = r + 1 := ⟨q - 1, by omega⟩
    rw [List.getElem?_cons_succ, List.getElem?_cons_succ, List.getElem?_append_left (by omega)]
  have key2 : ∀ (B : Sym.Obj) (c : Ah), HasT (⟨true, false, false, tcl (List.range' 1 (som t).length) t⟩ :: (objs t ++ [B]).set (cnt t to) ⟨true, false, true, c.c⟩) (List.range' 1 (som t).length) (t.set to (some c)) false := fun B c => by
    refine (key1 B).put hto hp (fun q hq => ?_) ⟨false, ?_, id⟩
    · cases q with
      | zero => rfl
      | succ q => rw [List.getElem?_cons_succ, List.getElem?_cons_succ, List.getElem?_set, if_neg (by omega)]
    · rw [hpc, List.getElem?_cons_succ, List.getElem?_set]
      rw [if_pos rfl, if_pos (by rw [List.length_append]; omega)]
  obtain ⟨d, hd, he⟩ := eq_a (k + 1) b.nil a.nil b.bs a.bs hb.nil ha.nil hb.len ha.len
  by_cases c : b.k = a.k
  · have hm : meet b a = b := by unfold meet; rw [if_pos c]
    rw [hm, set_same hto]
    have hk := key1 ⟨true, true, true, a.c⟩
    have hr := hk.reach
    have hsb := hk.sub false (fun h => by cases h)
    rw [Bool.false_and] at hsb
    have hg := hg ⟨true, true, true, a.c⟩
    have hg4 : (objs t ++ [(⟨true, true, true, a.c⟩ : Sym.Obj)])[(objs t).length]? = some ⟨true, true, true, a.c⟩ := by
      rw [List.getElem?_append_right (Nat.le_refl _), Nat.sub_self]
      rfl
    obtain ⟨X, hX⟩ : ∃ X, canT t false = X := ⟨_, rfl⟩
    rw [hX] at hsb
    have hXe : canT t false = _ := canT_eq t
    rw [hpc] at ht
    have cb : (b.k != a.k) = false := by simp [c]
    clear key1 key2 hk hcan
    rw [show (some (⟨AV.v (.bool (decide (b.bs = a.bs))), canT t false, 2⟩ : Res)) = some ⟨AV.v (.bool (decide (b.bs = a.bs))), X, 2⟩ by rw [hX], hXe]
    generalize objs t = L at *
    generalize tcl (List.range' 1 (som t).length) t = tc at *
    generalize cnt t to = cc at *
    obtain ⟨ak, an, as1⟩ := a
    obtain ⟨bk, bn, bs⟩ := b
    simp only at cb he
    have hdd : d = 0 ∨ d = 1 := by omega
    generalize decide (bs = as1) = res at *
    cases an <;> cases bn <;> simp only [Ah.c, openA, Bool.false_eq_true, if_false, if_true] at hr hsb hg hg4 he ⊢ <;> rcases hdd with rfl | rfl <;>
    simp -implicitDefEqProofs only [eqs, eqd, aCall, Sym.pos, ↓reduceIte, reduceCtorEq, Nat.reduceEqDiff, Nat.reduceAdd, Nat.reduceSub, Nat.reduceMul, Nat.reduceLT, Nat.reduceLeDiff, Nat.reduceBEq, Nat.reduceBNe, Nat.reduceGT, Int.reduceEq, Int.reduceLT, Int.reduceLE, Int.reduceToNat, Int.reduceAdd, Int.reduceSub, Int.reduceMul, Int.reduceNeg, Int.reduceBEq, Int.reduceBNe, b_verify_table_lead, gs_verify_table_lead, r0, s0, nilp, ht, htl, hg, hg4, he, cb, c0, c1, c2, hr, hsb, Int.toNat_natCast]
  · have hm : meet b a = { b with k := 0 } := by unfold meet; rw [if_neg c]
    rw [hm]
    have hk := key2 ⟨true, true, true, a.c⟩ { b with k := 0 }
    have hr := hk.reach
    have hsb := hk.sub false (fun h => by cases h)
    rw [Bool.false_and] at hsb
    have hg1 := hg ⟨true, true, true, a.c⟩
    have hg2 : ((objs t ++ [(⟨true, true, true, a.c⟩ : Sym.Obj)]).set (cnt t to) (⟨true, false, true, ({ b with k := 0 } : Ah).c⟩ : Sym.Obj))[cnt t to]? = some ⟨true, false, true, ({ b with k := 0 } : Ah).c⟩ := by
      rw [List.getElem?_set, if_pos rfl, if_pos (by rw [List.length_append]; omega)]
    have hg3 : ((objs t ++ [(⟨true, true, true, a.c⟩ : Sym.Obj)]).set (cnt t to) (⟨true, false, true, ({ b with k := 0 } : Ah).c⟩ : Sym.Obj))[(objs t).length]? = some ⟨true, true, true, a.c⟩ := by
      rw [List.getElem?_set, if_neg (by omega), List.getElem?_append_right (Nat.le_refl _), Nat.sub_self]
      rfl
    have hg4 : (objs t ++ [(⟨true, true, true, a.c⟩ : Sym.Obj)])[(objs t).length]? = some ⟨true, true, true, a.c⟩ := by
      rw [List.getElem?_append_right (Nat.le_refl _), Nat.sub_self]
      rfl
    obtain ⟨X, hX⟩ : ∃ X, canT (t.set to (some { b with k := 0 })) false = X := ⟨_, rfl⟩
    rw [hX] at hsb ⊢
    rw [hpc] at ht
    have cb : (b.k != a.k) = true := by simpa using c
    have hw0 := with_a (k + 12) b.k (.shr b.bs.length false (brs b.bs)) rfl rfl rfl (fun _ => rfl) 0
    have hw1 := with_a (k + 12) b.k (.v (.slice none 0 0)) rfl rfl rfl (fun _ => rfl) 0
    clear key1 key2 hk hcan hg
    rw [canT_eq]
    generalize objs t = L at *
    generalize tcl (List.range' 1 (som t).length) t = tc at *
    generalize cnt t to = cc at *
    obtain ⟨ak, an, as1⟩ := a
    obtain ⟨bk, bn, bs⟩ := b
    simp only at cb he hw0 hw1
    have hdd : d = 0 ∨ d = 1 := by omega
    generalize decide (bs = as1) = res at *
    cases an <;> cases bn <;> simp only [Ah.c, openA, Bool.false_eq_true, if_false, if_true] at hr hsb hg1 hg2 hg3 hg4 he ⊢ <;> rcases hdd with rfl | rfl <;>
    simp -implicitDefEqProofs only [eqs, eqd, aCall, Sym.pos, ↓reduceIte, reduceCtorEq, Nat.reduceEqDiff, Nat.reduceAdd, Nat.reduceSub, Nat.reduceMul, Nat.reduceLT, Nat.reduceLeDiff, Nat.reduceBEq, Nat.reduceBNe, Nat.reduceGT, Int.reduceEq, Int.reduceLT, Int.reduceLE, Int.reduceToNat, Int.reduceAdd, Int.reduceSub, Int.reduceMul, Int.reduceNeg, Int.reduceBEq, Int.reduceBNe, b_verify_table_lead, gs_verify_table_lead, r0, s0, nilp, ht, htl, hg1, hg2, hg3, hg4, he, hw0, hw1, cb, c0, c1, c2, hr, hsb, Int.toNat_natCast]
end Go.Proofs.Ytcfokbhmchcgbaa.Ver

/- A call that has a table. -/
namespace Go.Proofs.Ytcfokbhmchcgbaa.Ver
open Go Go.Proofs.Ytcfokbhmchcgbaa.Sym Go.Proofs.Ytcfokbhmchcgbaa.Tab
set_option linter.unusedVariables false
set_option linter.unusedSimpArgs false
theorem mergeOld_get (Ω : List Sym.Obj) (ord : List Nat) (n : Nat) (ob : List Sym.Obj) : ∀ (L : List Sym.Obj) (k i : Nat), (mergeOld Ω ord n ob k L)[i]? = (L[i]?).map fun o => if ord.contains (k + i) = true then (if pos ord (k + i) < n then mergeO Ω ord n (ob.getD (pos ord (k + i)) dead0) else dead0) else o
  | [], k, i => by simp [mergeOld]
  | o :: os, k, 0 => by rw [mergeOld]; rfl
  | o :: os, k, i + 1 => by
    rw [mergeOld, List.getElem?_cons_succ, List.getElem?_cons_succ, mergeOld_get Ω ord n ob os (k + 1) i, show k + 1 + i = k + (i + 1) by omega]
theorem mergeOld_len (Ω : List Sym.Obj) (ord : List Nat) (n : Nat) (ob : List Sym.Obj) : ∀ (L : List Sym.Obj) (k : Nat), (mergeOld Ω ord n ob k L).length = L.length
  | [], k => rfl
  | o :: os, k => by rw [mergeOld, List.length_cons, List.length_cons, mergeOld_len Ω ord n ob os (k + 1)]
theorem c_refs (a : Ah) : a.c.flatMap refs0 = [] := by obtain ⟨k, n, bs⟩ := a; cases n <;> rfl
theorem c_ren (g : Nat → Nat) (a : Ah) : a.c.map (ren0 g) = a.c := by obtain ⟨k, n, bs⟩ := a; cases n <;> rfl
theorem HasT.fresh {Ω : List Sym.Obj} {ps : List Nat} {t : List (Option Ah)} (h : HasT Ω ps t true) : allFresh Ω (0 :: ps) = true := by
  unfold allFresh
  rw [List.all_eq_true]
  intro k hk
  rcases List.mem_cons.1 hk with rfl | hk
  · obtain ⟨f, hf, h1⟩ := h.tab
    rw [List.getD_eq_getElem?_getD, hf]
    simp [h1 rfl]
  · obtain ⟨j, hj⟩ := List.mem_iff_getElem?.1 hk
    have hlt := (List.getElem?_eq_some_iff.1 hj).1
    obtain ⟨f, hf, h1⟩ := h.obj j k _ hj (List.getElem?_eq_getElem (by rw [← h.len]; exact hlt))
    rw [List.getD_eq_getElem?_getD, hf]
    simp [h1 rfl]
/-- What is there behind a call that had a table and changed it. -/
def after (Ω : List Sym.Obj) (ps : List Nat) (t' : List (Option Ah)) : List Sym.Obj := mergeOld Ω (0 :: ps) 1 (canT t' false) 0 Ω ++ mergeNew Ω (0 :: ps) 1 (canT t' false)
theorem after_has {Ω : List Sym.Obj} {ps : List Nat} {t t' : List (Option Ah)} (h : HasT Ω ps t true) (hs : (som t').length ≤ 300) (h0 : 0 < Ω.length) : HasT (after Ω ps t') (List.range' Ω.length (som t').length) t' true := by
  have hf := h.fresh
  have hg : (List.range' 1 (som t').length).map (gmap (0 :: ps) 1 Ω.length) = List.range' Ω.length (som t').length := by
    apply List.ext_getElem?
    intro j
    rw [List.getElem?_map]
    by_cases c : j < (som t').length
    · rw [List.getElem?_range' c, List.getElem?_range' c]
      show some (gmap (0 :: ps) 1 Ω.length (1 + 1 * j)) = _
      unfold gmap
      rw [if_neg (by omega)]
      congr 1
      omega
    · rw [List.getElem?_eq_none (by simp; omega), List.getElem?_eq_none (by simp; omega)]
      rfl
  refine ⟨⟨true, ?_, fun _ => rfl⟩, by simp, fun j p a hp ha => ⟨true, ?_, fun _ => rfl⟩, List.nodup_range', ?_, by simpa using hs⟩
  · obtain ⟨f, ht, _⟩ := h.tab
    unfold after
    rw [List.getElem?_append_left (by rw [mergeOld_len]; exact h0), mergeOld_get, ht]
    have e1 : (0 :: ps).contains (0 + 0) = true := by simp
    have e2 : pos (0 :: ps) (0 + 0) = 0 := by show List.idxOf 0 (0 :: ps) = 0; simp
    simp only [Option.map_some, e1, if_true, e2, Nat.zero_lt_one]
    have e3 : (canT t' false).getD 0 dead0 = ⟨true, false, false, tcl (List.range' 1 (som t').length) t'⟩ := rfl
    rw [e3]
    simp only [mergeO, renO, if_true, Bool.false_eq_true, if_false, Bool.false_or, hf]
    rw [tcl_ren, hg]
  · have hj := (List.getElem?_eq_some_iff.1 ha).1
    rw [List.getElem?_range' hj] at hp
    obtain rfl := Option.some.inj hp
    unfold after
    rw [List.getElem?_append_right (by rw [mergeOld_len]; omega), mergeOld_len, show Ω.length + 1 * j - Ω.length = j by omega]
    unfold mergeNew
    have e4 : (canT t' false).drop 1 = (som t').map fun a => ⟨true, false, true, a.c⟩ := rfl
    rw [e4, List.getElem?_map, List.getElem?_map, ha]
    simp only [Option.map_some, mergeO, renO, if_true, Bool.false_or, hf]
  · rw [List.mem_range'_1]
    omega
theorem after_other {Ω : List Sym.Obj} {ps : List Nat} {t' : List (Option Ah)} {k : Nat} (h0 : k ≠ 0) (hk : k ∉ ps) (hl : k < Ω.length) : (after Ω ps t')[k]? = Ω[k]? := by
  unfold after
  rw [List.getElem?_append_left (by rw [mergeOld_len]; exact hl), mergeOld_get, Nat.zero_add]
  have e : (0 :: ps).contains k = false := by simp [h0, hk]
  rw [e]
  cases Ω[k]? <;> rfl
theorem after_len (Ω : List Sym.Obj) (ps : List Nat) (t' : List (Option Ah)) : (after Ω ps t').length = Ω.length + (som t').length := by
  unfold after mergeNew
  rw [List.length_append, mergeOld_len, List.length_map, List.length_drop]
  simp [canT]
theorem lead_call {C : CT} {Ω : List Sym.Obj} {ps : List Nat} {t t' : List (Option Ah)} (h : HasT Ω ps t true) (n to : Nat) (b : Ah) (ok : Bool)
    (hc : C 64 1 [.view 0 0 n 1 (some n), .v (.int .i64 to), .agg b.c] (canT t false) = some ⟨.v (.bool ok), canT t' false, 2⟩) :
    aCall C Ω (.fn 64 []) [.view 0 0 n 1 (some n), .v (.int .i64 to), .agg b.c] = some (.v (.bool ok), after Ω ps t', 1) := by
  have e1 : ([AV.view 0 0 n 1 (some n), .v (.int .i64 to), .agg b.c] ++ []).all okv = true := by
    simp only [List.append_nil, List.all_cons, List.all_nil, okv, ok1, atom, c_atom, Bool.and_true]
  have e2 : dedup (([AV.view 0 0 n 1 (some n), .v (.int .i64 to), .agg b.c] ++ []).flatMap refs) [] = [0] := by
    simp only [List.append_nil, List.flatMap_cons, List.flatMap_nil, refs, refs1, refs0, c_refs]
    rfl
  have e3 : ([AV.view 0 0 n 1 (some n), .v (.int .i64 to), .agg b.c] ++ []).map (ren (pos (0 :: ps))) = [.view 0 0 n 1 (some n), .v (.int .i64 to), .agg b.c] := by
    have e : pos (0 :: ps) 0 = 0 := by show List.idxOf 0 (0 :: ps) = 0; simp
    simp only [List.append_nil, List.map_cons, List.map_nil, ren, ren1, ren0, c_ren, e]
  have e4 := h.sub false (fun h => by cases h)
  rw [Bool.and_false] at e4
  unfold aCall
  simp only [e1, e2, if_true, h.reach, Option.bind_some, e3, e4, List.length_singleton, hc]
  unfold finishCall
  simp only [okv, ok1, atom, if_true, h.fresh, ren, ren1, ren0]
  rfl
end Go.Proofs.Ytcfokbhmchcgbaa.Ver

/- The document's join. -/
namespace Go.Proofs.Ytcfokbhmchcgbaa.Ver
open Go Go.Proofs.Ytcfokbhmchcgbaa.Sym Go.Proofs.Ytcfokbhmchcgbaa.Tab
set_option linter.unusedVariables false
set_option linter.unusedSimpArgs false
set_option maxHeartbeats 4000000
set_option maxRecDepth 20000
/-- An entry of the document's table. -/
def ra : Option Ah → List AV
  | none => [.v (.bool false), .v (.int .i64 0), .v (.string ByteArray.empty)]
  | some a => rc a.k a.bs
end Go.Proofs.Ytcfokbhmchcgbaa.Ver

/- One instruction more: of both, what becomes of what is ahead of each. -/
namespace Go.Proofs.Ytcfokbhmchcgbaa.Ver
open Go Go.Proofs.Ytcfokbhmchcgbaa.Sym Go.Proofs.Ytcfokbhmchcgbaa.Tab
set_option linter.unusedVariables false
set_option linter.unusedSimpArgs false
/-- One more leads to an instruction. -/
def lead1 (t : List (Option Ah)) (to : Nat) (b : Ah) : List (Option Ah) × Bool := match t[to]? with
  | some (some a) => (t.set to (some (meet a b)), decide (a.bs = b.bs))
  | _ => (t.set to (some b), true)
def onI (i : Ins) : Bool := i.op != 25 && i.op != 28
def jmp (i : Ins) : Bool := decide (25 ≤ i.op) && decide (i.op ≤ 27)
/-- Where it leads to: a table, or not all brackets are alike. -/
def lead2 (t : List (Option Ah)) (i : Nat) (ins : Ins) (b : Ah) : List (Option Ah) × Bool :=
  let r := if onI ins = true then lead1 t (i + 1) b else (t, true)
  if r.2 = true ∧ jmp ins = true then lead1 r.1 ins.at_.toNat b else r
/-- An instruction more: the error (0: none), the table. -/
def stp (n i : Nat) (t : List (Option Ah)) (ins : Ins) : Int × List (Option Ah) :=
  if right ins = false then (3, t) else match t[i]? with
  | some (some a) =>
    if jmp ins = true ∧ ¬ ((i : Int) < ins.at_ ∧ ins.at_ ≤ n) then (7, t)
    else if (beh a ins).2 ≠ 0 then ((beh a ins).2, t)
    else if (lead2 t i ins (beh a ins).1).2 = true then (0, (lead2 t i ins (beh a ins).1).1) else (7, t)
  | _ => (0, t)
/-- All that are ahead may be. -/
def AllIn (t : List (Option Ah)) : Prop := ∀ (i : Nat) (a : Ah), t[i]? = some (some a) → a.In ∧ BrIn a.bs
theorem meet_bs (a b : Ah) : (meet a b).bs = a.bs ∧ (meet a b).nil = a.nil := by unfold meet; split <;> exact ⟨rfl, rfl⟩
theorem AllIn.set {t : List (Option Ah)} (h : AllIn t) {i : Nat} {b : Ah} (hb : b.In ∧ BrIn b.bs) : AllIn (t.set i (some b)) := fun j a hj => by
  rw [List.getElem?_set] at hj
  split at hj
  · split at hj
    · cases hj; exact hb
    · cases hj
  · exact h j a hj
theorem AllIn.lead1 {t : List (Option Ah)} (h : AllIn t) {to : Nat} {b : Ah} (hb : b.In ∧ BrIn b.bs) : AllIn (lead1 t to b).1 := by
  unfold Ver.lead1
  split
  · rename_i a ha
    obtain ⟨h1, h2⟩ := h to a ha
    obtain ⟨e1, e2⟩ := meet_bs a b
    exact h.set ⟨⟨by rw [e1, e2]; exact h1.nil, by rw [e1]; exact h1.len⟩, by rw [e1]; exact h2⟩
  · exact h.set hb
theorem lead1_len (t : List (Option Ah)) (to : Nat) (b : Ah) : (Ver.lead1 t to b).1.length = t.length := by
  unfold Ver.lead1
  split <;> simp
theorem beh_same (a : Ah) (i : Ins) (h1 : i.op ≠ 32) (h2 : i.op ≠ 33) : ∃ k, (beh a i).1 = ⟨k, a.nil, a.bs⟩ := by
  unfold beh
  by_cases c1 : i.op = 1; · rw [if_pos c1]; exact ⟨_, rfl⟩
  by_cases c2 : i.op = 2; · rw [if_neg c1, if_pos c2]; exact ⟨_, rfl⟩
  by_cases c3 : i.op = 3; · rw [if_neg c1, if_neg c2, if_pos c3]; exact ⟨_, rfl⟩
  by_cases c4 : i.op = 4; · rw [if_neg c1, if_neg c2, if_neg c3, if_pos c4]; exact ⟨_, rfl⟩
  by_cases c5 : i.op = 5 ∨ i.op = 6; · rw [if_neg c1, if_neg c2, if_neg c3, if_neg c4, if_pos c5]; exact ⟨_, rfl⟩
  by_cases c6 : i.op = 13; · rw [if_neg c1, if_neg c2, if_neg c3, if_neg c4, if_neg c5, if_pos c6]; exact ⟨_, rfl⟩
  by_cases c7 : i.op = 25; · rw [if_neg c1, if_neg c2, if_neg c3, if_neg c4, if_neg c5, if_neg c6, if_pos c7]; exact ⟨_, rfl⟩
  rw [if_neg c1, if_neg c2, if_neg c3, if_neg c4, if_neg c5, if_neg c6, if_neg c7]
  by_cases c8 : i.op = 26 ∨ i.op = 27 ∨ i.op = 34 ∨ i.op = 35 ∨ i.op = 36; · rw [if_pos c8]; exact ⟨_, rfl⟩
  by_cases c9 : i.op = 28 ∨ i.op = 29 ∨ i.op = 30; · rw [if_neg c8, if_pos c9]; exact ⟨_, rfl⟩
  by_cases c10 : i.op = 31; · rw [if_neg c8, if_neg c9, if_pos c10]; exact ⟨_, rfl⟩
  rw [if_neg c8, if_neg c9, if_neg c10, if_neg h1, if_neg h2]
  exact ⟨_, rfl⟩
theorem beh_in {a : Ah} (h : a.In ∧ BrIn a.bs) (i : Ins) (h0 : (beh a i).2 = 0) : (beh a i).1.In ∧ BrIn (beh a i).1.bs := by
  by_cases c1 : i.op = 32
  · have e : beh a i = push a i.at_ := by unfold beh; rw [c1]; rfl
    rw [e] at h0 ⊢
    unfold push at h0 ⊢
    by_cases c : may i.at_ a.k = false
    · rw [if_pos c] at h0; simp at h0
    · rw [if_neg c] at h0 ⊢
      have c' : may i.at_ a.k = true := by simpa using c
      by_cases d : a.bs.length = 8
      · rw [if_pos d] at h0; simp at h0
      · rw [if_neg d]
        obtain ⟨m1, m2, m3, m4⟩ := may_in c'
        have hl := h.1.len
        refine ⟨⟨fun e => (by cases e), by show (a.bs ++ [(i.at_, a.k)]).length ≤ 8; simp; omega⟩, by show (a.bs ++ [(i.at_, a.k)]).length ≤ 8; simp; omega, fun p hp => ?_⟩
        rcases List.mem_append.1 hp with hp | hp
        · exact h.2.2 p hp
        · obtain rfl : p = (i.at_, a.k) := by simpa using hp
          exact ⟨m1, m2, m3, m4⟩
  · by_cases c2 : i.op = 33
    · have e : beh a i = pop a := by unfold beh; rw [c2]; rfl
      rw [e]
      unfold pop
      split
      · exact h
      · split
        · exact h
        · have hl := h.1.len
          refine ⟨⟨fun e => (by cases e), by show a.bs.dropLast.length ≤ 8; simp; omega⟩, by show a.bs.dropLast.length ≤ 8; simp; omega, fun p hp => h.2.2 p (List.dropLast_subset _ hp)⟩
    · obtain ⟨k, e⟩ := beh_same a i c1 c2
      rw [e]
      exact ⟨⟨h.1.nil, h.1.len⟩, h.2⟩
end Go.Proofs.Ytcfokbhmchcgbaa.Ver

/- The document's table in memory. -/
namespace Go.Proofs.Ytcfokbhmchcgbaa.Ver
open Go Go.Proofs.Ytcfokbhmchcgbaa.Sym Go.Proofs.Ytcfokbhmchcgbaa.Tab
set_option linter.unusedVariables false
set_option linter.unusedSimpArgs false
set_option maxHeartbeats 4000000
set_option maxRecDepth 20000
def rr (t : List (Option Ah)) : List AV := t.flatMap ra
theorem ins_len (L : List Ins) : (L.flatMap Ins.c).length = L.length * 5 := by
  induction L with
  | nil => rfl
  | cons x L ih => rw [List.flatMap_cons, List.length_append, ih, List.length_cons]; show 5 + _ = _; omega
theorem ins_at : ∀ (L : List Ins) (i : Nat) (h : i < L.length), ((L.flatMap Ins.c).drop (i * 5)).take 5 = L[i].c
  | x :: L, 0, _ => by rw [List.flatMap_cons]; simp [Ins.c]
  | x :: L, i + 1, h => by
    have ih := ins_at L i (by simpa using h)
    rw [List.flatMap_cons, show (i + 1) * 5 = x.c.length + i * 5 by show _ = 5 + i * 5; omega, ← List.drop_drop, List.drop_left, ih]
    rfl
end Go.Proofs.Ytcfokbhmchcgbaa.Ver

/- The document's All: one round. -/
namespace Go.Proofs.Ytcfokbhmchcgbaa.Ver
open Go Go.Proofs.Ytcfokbhmchcgbaa.Sym Go.Proofs.Ytcfokbhmchcgbaa.Tab
set_option linter.unusedVariables false
set_option linter.unusedSimpArgs false
set_option maxHeartbeats 4000000
set_option maxRecDepth 20000
end Go.Proofs.Ytcfokbhmchcgbaa.Ver

/- The document's All: an instruction that leads on. -/
namespace Go.Proofs.Ytcfokbhmchcgbaa.Ver
open Go Go.Proofs.Ytcfokbhmchcgbaa.Sym Go.Proofs.Ytcfokbhmchcgbaa.Tab
set_option linter.unusedVariables false
set_option linter.unusedSimpArgs false
set_option maxHeartbeats 4000000
set_option maxRecDepth 20000
end Go.Proofs.Ytcfokbhmchcgbaa.Ver

/- The document's All: an instruction that leads elsewhere, or to none. -/
namespace Go.Proofs.Ytcfokbhmchcgbaa.Ver
open Go Go.Proofs.Ytcfokbhmchcgbaa.Sym Go.Proofs.Ytcfokbhmchcgbaa.Tab
set_option linter.unusedVariables false
set_option linter.unusedSimpArgs false
set_option maxHeartbeats 4000000
set_option maxRecDepth 20000
end Go.Proofs.Ytcfokbhmchcgbaa.Ver

/- The document's All: an instruction that leads on and elsewhere. -/
namespace Go.Proofs.Ytcfokbhmchcgbaa.Ver
open Go Go.Proofs.Ytcfokbhmchcgbaa.Sym Go.Proofs.Ytcfokbhmchcgbaa.Tab
set_option linter.unusedVariables false
set_option linter.unusedSimpArgs false
set_option maxHeartbeats 4000000
set_option maxRecDepth 20000
end Go.Proofs.Ytcfokbhmchcgbaa.Ver

/- The document's All: each round is a step. -/
namespace Go.Proofs.Ytcfokbhmchcgbaa.Ver
open Go Go.Proofs.Ytcfokbhmchcgbaa.Sym Go.Proofs.Ytcfokbhmchcgbaa.Tab
set_option linter.unusedVariables false
set_option linter.unusedSimpArgs false
set_option maxHeartbeats 4000000
theorem right_op {i : Ins} (h : right i = true) : 1 ≤ i.op ∧ i.op ≤ 36 := by
  rcases cl_in i.op with ⟨h', _⟩ | h' | h' | ⟨h', _⟩ | ⟨h', _⟩ | ⟨h', _⟩ | ⟨h', _⟩ | ⟨h', _⟩ | ⟨h', _⟩
  · unfold right at h
    rw [h'] at h
    simp at h
  · unfold cl at h'
    split at h'
    · omega
    · repeat' split at h'
      all_goals omega
  · unfold cl at h'
    split at h'
    · omega
    · split at h'
      · omega
      · repeat' split at h'
        all_goals omega
  all_goals omega
end Go.Proofs.Ytcfokbhmchcgbaa.Ver

/- The document's All. -/
namespace Go.Proofs.Ytcfokbhmchcgbaa.Ver
open Go Go.Proofs.Ytcfokbhmchcgbaa.Sym Go.Proofs.Ytcfokbhmchcgbaa.Tab
set_option linter.unusedVariables false
set_option linter.unusedSimpArgs false
set_option maxHeartbeats 4000000
set_option maxRecDepth 20000
/-- What is wrong at the end, and where. -/
def endE (n : Nat) (t : List (Option Ah)) : Int × Int := match t[n]? with
  | some (some a) => if a.bs = [] then (0, 0) else (3, n)
  | _ => (0, 0)
/-- All instructions: the error, where, the table. -/
def run (L : List Ins) : Nat → Nat → List (Option Ah) → Int × Int × List (Option Ah)
  | 0, i, t => ((endE L.length t).1, (endE L.length t).2, t)
  | m + 1, i, t => if h : i < L.length then
      (if (stp L.length i t L[i]).1 = 0 then run L m (i + 1) (stp L.length i t L[i]).2 else ((stp L.length i t L[i]).1, i, t))
    else (0, 0, t)
end Go.Proofs.Ytcfokbhmchcgbaa.Ver

/- The document's All, from its beginning. -/
namespace Go.Proofs.Ytcfokbhmchcgbaa.Ver
open Go Go.Proofs.Ytcfokbhmchcgbaa.Sym Go.Proofs.Ytcfokbhmchcgbaa.Tab
set_option linter.unusedVariables false
set_option linter.unusedSimpArgs false
set_option maxHeartbeats 4000000
set_option maxRecDepth 20000
def t00 (n : Nat) : List (Option Ah) := some ⟨0, true, []⟩ :: List.replicate n none
theorem t00_len (n : Nat) : (t00 n).length = n + 1 := by simp [t00]
theorem t00_in (n : Nat) : AllIn (t00 n) := fun i a h => by
  cases i with
  | zero =>
    obtain rfl : (⟨0, true, []⟩ : Ah) = a := by simpa [t00] using h
    exact ⟨⟨fun _ => rfl, Nat.zero_le _⟩, Nat.zero_le _, fun p hp => by cases hp⟩
  | succ i =>
    rw [t00, List.getElem?_cons_succ] at h
    have := List.mem_of_getElem? h
    rw [List.mem_replicate] at this
    cases this.2
end Go.Proofs.Ytcfokbhmchcgbaa.Ver

/- The program's all: a round that ends or goes on at once. -/
namespace Go.Proofs.Ytcfokbhmchcgbaa.Ver
open Go Go.Proofs.Ytcfokbhmchcgbaa.Sym Go.Proofs.Ytcfokbhmchcgbaa.Tab
set_option linter.unusedVariables false
set_option linter.unusedSimpArgs false
set_option maxHeartbeats 4000000
set_option maxRecDepth 20000
def penv (L : List Ins) (i : Nat) : Env := [(0, .shr L.length false (L.flatMap Ins.c)), (5, .view 0 0 (L.length + 1) 1 (some (L.length + 1))), (22, .shr L.length false (L.flatMap Ins.c)), (23, .v (.int .i64 L.length)), (24, .v (.int .i64 i))]
def pst (L : List Ins) (t : List (Option Ah)) (i : Nat) : St := ⟨penv L i, canT t true, 1, []⟩
abbrev plive : List Nat := [0, 5, 22, 23, 24]
theorem wz1 {α : Type} (W : List α) (z : α) : (W ++ [z])[W.length]? = some z := by
  rw [List.getElem?_append_right (Nat.le_refl _), Nat.sub_self]
  rfl
theorem wz2 {α : Type} (W : List α) (z y : α) : (W ++ [z]).set W.length y = W ++ [y] := by
  rw [List.set_append_right _ _ (Nat.le_refl _), Nat.sub_self]
  rfl
noncomputable abbrev pfin (k lf : Nat) (L : List Ins) (t : List (Option Ah)) (i N : Nat) : Option Res := FnR [.t 2, .t 3, .t 4] false false (Lh (acall T (k + 16)) lf (some (pst L t i)) plive l_verify_all_0 N [.b 0, .c l_verify_all_1])
theorem all_bad (k lf : Nat) (L : List Ins) (hL : L.length ≤ 200) (t : List (Option Ah)) (hlen : t.length = L.length + 1) (i : Nat) (hi : i < L.length) (hin : L[i].In) (hr : right L[i] = false) (N : Nat) :
    pfin k lf L t i N = some ⟨.tup [.v (.slice none 0 0), .v (.int .i64 3), .v (.int .i64 i)], [], 1⟩ := by
  have c1 : (i : Int) < L.length := by omega
  have c0 : (0 : Int) ≤ i := by omega
  have h5 := ins_at L i hi
  have l5 : i * 5 + 5 ≤ L.length * 5 := by omega
  have hri := right_a (k + 11) L[i]
  rw [hr] at hri
  unfold pfin pst penv plive
  rw [lh_as l_verify_all_0.eq_1]
  generalize L[i] = ins at *
  generalize hM : L.length + 1 = M at *
  generalize canT t true = W at *
  simp only [Ins.c] at hri
  simp -implicitDefEqProofs only [eqs, eqd, aCall, Sym.pos, ↓reduceIte, reduceCtorEq, Nat.reduceEqDiff, Nat.reduceAdd, Nat.reduceSub, Nat.reduceMul, Nat.reduceLT, Nat.reduceLeDiff, Nat.reduceBEq, Nat.reduceBNe, Nat.reduceGT, Int.reduceEq, Int.reduceLT, Int.reduceLE, Int.reduceToNat, Int.reduceAdd, Int.reduceSub, Int.reduceMul, Int.reduceNeg, Int.reduceBEq, Int.reduceBNe, nx_nil, Ins.c, c0, c1, h5, l5, ins_len, hri, Int.toNat_natCast, r0, s0, wz1, wz2]
theorem canT_len (t : List (Option Ah)) (fr : Bool) : (canT t fr).length = (som t).length + 1 := by unfold canT; simp
theorem som_le (t : List (Option Ah)) : (som t).length ≤ t.length := List.length_filterMap_le _ _
/-- The table with more behind it. -/
theorem has_more (t : List (Option Ah)) (hs : (som t).length ≤ 300) (E : List Sym.Obj) : HasT (canT t true ++ E) (List.range' 1 (som t).length) t true := by
  have h := canT_len t true
  refine (canT_has t true hs).mono ?_ fun q hq => ?_
  · rw [List.getElem?_append_left (by omega)]
  · rw [List.mem_range'_1] at hq
    rw [List.getElem?_append_left (by omega)]
theorem more_reach (t : List (Option Ah)) (hs : (som t).length ≤ 300) (E : List Sym.Obj) : reach (canT t true ++ E) 400 [0] [] = some (0 :: List.range' 1 (som t).length) := (has_more t hs E).reach
theorem more_sub (t : List (Option Ah)) (hs : (som t).length ≤ 300) (E : List Sym.Obj) : sub (canT t true ++ E) (0 :: List.range' 1 (som t).length) true = canT t true := (has_more t hs E).sub true (fun _ => rfl)
theorem more_tab (t : List (Option Ah)) (E : List Sym.Obj) : (canT t true ++ E)[0]? = some ⟨true, true, false, tcl (List.range' 1 (som t).length) t⟩ := rfl
theorem all_skip (k lf : Nat) (L : List Ins) (hL : L.length ≤ 200) (t : List (Option Ah)) (hlen : t.length = L.length + 1) (i : Nat) (hi : i < L.length) (hin : L[i].In) (hr : right L[i] = true) (hx : t[i]? = some none) (N : Nat) (ks : List It) :
    Lh (acall T (k + 16)) lf (some (pst L t i)) plive l_verify_all_0 (N + 1) ks = Lh (acall T (k + 16)) lf (some (pst L t (i + 1))) plive l_verify_all_0 N ks := by
  have c1 : (i : Int) < L.length := by omega
  have c0 : (0 : Int) ≤ i := by omega
  have c2 : (i : Int) < ((L.length + 1 : Nat) : Int) := by omega
  have w : IntKind.i64.wrap ((i : Int) + 1) = i + 1 := w64 (by omega) (by omega)
  have h5 := ins_at L i hi
  have l5 : i * 5 + 5 ≤ L.length * 5 := by omega
  have hri := right_a (k + 11) L[i]
  rw [hr] at hri
  have hs : (som t).length ≤ 300 := by have := som_le t; omega
  have ht := tcl_none (List.range' 1 (som t).length) t i hx
  have htl := tcl_len (List.range' 1 (som t).length) t
  rw [hlen] at htl
  have l1 : i + 1 ≤ L.length + 1 := by omega
  have m1 := more_reach t hs
  have m2 := more_sub t hs
  have m3 := more_tab t
  unfold pst penv plive
  rw [lh_as l_verify_all_0.eq_1]
  generalize L[i] = ins at *
  generalize hM : L.length + 1 = M at *
  generalize canT t true = W at *
  generalize tcl (List.range' 1 (som t).length) t = tc at *
  generalize List.range' 1 (som t).length = ps at *
  simp only [Ins.c] at hri
  simp -implicitDefEqProofs only [eqs, eqd, aCall, Sym.pos, ↓reduceIte, reduceCtorEq, Nat.reduceEqDiff, Nat.reduceAdd, Nat.reduceSub, Nat.reduceMul, Nat.reduceLT, Nat.reduceLeDiff, Nat.reduceBEq, Nat.reduceBNe, Nat.reduceGT, Int.reduceEq, Int.reduceLT, Int.reduceLE, Int.reduceToNat, Int.reduceAdd, Int.reduceSub, Int.reduceMul, Int.reduceNeg, Int.reduceBEq, Int.reduceBNe, nx_nil, Ins.c, nilp, c0, c1, c2, w, h5, l5, l1, ins_len, hri, ht, htl, m1, m2, m3, Int.toNat_natCast, Int.natCast_add, r0, s0, wz1, wz2]
end Go.Proofs.Ytcfokbhmchcgbaa.Ver

/- The program's all: an instruction that leads to no place, or that fails. -/
namespace Go.Proofs.Ytcfokbhmchcgbaa.Ver
open Go Go.Proofs.Ytcfokbhmchcgbaa.Sym Go.Proofs.Ytcfokbhmchcgbaa.Tab
set_option linter.unusedVariables false
set_option linter.unusedSimpArgs false
set_option maxHeartbeats 4000000
set_option maxRecDepth 20000
theorem jumps_a (k : Nat) (i : Ins) : acall T (k + 1) 61 0 [.agg i.c] [] = some ⟨.v (.bool (jmp i)), [], 1⟩ := by
  rw [acall_go (body := b_verify_jumps) rfl rfl (Nat.zero_le _)]
  unfold jmp
  obtain ⟨op, ik, ar, at_, nn⟩ := i
  by_cases c : 25 ≤ op
  · by_cases d : op ≤ 27 <;> simp -implicitDefEqProofs only [eqs, eqd, eqe, lh_some, ↓reduceIte, reduceCtorEq, Nat.reduceEqDiff, Nat.reduceAdd, Nat.reduceSub, Nat.reduceMul, Nat.reduceLT, Nat.reduceLeDiff, Nat.reduceBEq, Nat.reduceBNe, Nat.reduceGT, Int.reduceEq, Int.reduceLT, Int.reduceLE, Int.reduceToNat, Int.reduceAdd, Int.reduceSub, Int.reduceMul, Int.reduceNeg, Int.reduceBEq, Int.reduceBNe, b_verify_jumps, Ins.c, c, d]
  · simp -implicitDefEqProofs only [eqs, eqd, eqe, lh_some, ↓reduceIte, reduceCtorEq, Nat.reduceEqDiff, Nat.reduceAdd, Nat.reduceSub, Nat.reduceMul, Nat.reduceLT, Nat.reduceLeDiff, Nat.reduceBEq, Nat.reduceBNe, Nat.reduceGT, Int.reduceEq, Int.reduceLT, Int.reduceLE, Int.reduceToNat, Int.reduceAdd, Int.reduceSub, Int.reduceMul, Int.reduceNeg, Int.reduceBEq, Int.reduceBNe, b_verify_jumps, Ins.c, c]
theorem on_a (k : Nat) (i : Ins) : acall T (k + 1) 63 0 [.agg i.c] [] = some ⟨.v (.bool (onI i)), [], 1⟩ := by
  rw [acall_go (body := b_verify_on) rfl rfl (Nat.zero_le _)]
  unfold onI
  obtain ⟨op, ik, ar, at_, nn⟩ := i
  simp only
  cases c : (op != 25)
  · simp -implicitDefEqProofs only [eqs, eqd, eqe, lh_some, ↓reduceIte, reduceCtorEq, Nat.reduceEqDiff, Nat.reduceAdd, Nat.reduceSub, Nat.reduceMul, Nat.reduceLT, Nat.reduceLeDiff, Nat.reduceBEq, Nat.reduceBNe, Nat.reduceGT, Int.reduceEq, Int.reduceLT, Int.reduceLE, Int.reduceToNat, Int.reduceAdd, Int.reduceSub, Int.reduceMul, Int.reduceNeg, Int.reduceBEq, Int.reduceBNe, b_verify_on, Ins.c, c]
  · cases d : (op != 28) <;> simp -implicitDefEqProofs only [eqs, eqd, eqe, lh_some, ↓reduceIte, reduceCtorEq, Nat.reduceEqDiff, Nat.reduceAdd, Nat.reduceSub, Nat.reduceMul, Nat.reduceLT, Nat.reduceLeDiff, Nat.reduceBEq, Nat.reduceBNe, Nat.reduceGT, Int.reduceEq, Int.reduceLT, Int.reduceLE, Int.reduceToNat, Int.reduceAdd, Int.reduceSub, Int.reduceMul, Int.reduceNeg, Int.reduceBEq, Int.reduceBNe, b_verify_on, Ins.c, c, d]
theorem all_jump (k lf : Nat) (L : List Ins) (hL : L.length ≤ 200) (t : List (Option Ah)) (hlen : t.length = L.length + 1) (i : Nat) (hi : i < L.length) (hr : right L[i] = true) (a : Ah) (hx : t[i]? = some (some a)) (hj : jmp L[i] = true) (hb : ¬ ((i : Int) < L[i].at_ ∧ L[i].at_ ≤ L.length)) (N : Nat) :
    pfin k lf L t i N = some ⟨.tup [.v (.slice none 0 0), .v (.int .i64 7), .v (.int .i64 i)], [], 1⟩ := by
  have c1 : (i : Int) < L.length := by omega
  have c0 : (0 : Int) ≤ i := by omega
  have c2 : (i : Int) < ((L.length + 1 : Nat) : Int) := by omega
  have h5 := ins_at L i hi
  have l5 : i * 5 + 5 ≤ L.length * 5 := by omega
  have hri := right_a (k + 11) L[i]
  rw [hr] at hri
  have hja := jumps_a (k + 15) L[i]
  rw [hj] at hja
  obtain ⟨p, hp, ht, hso⟩ := tcl_some (List.range' 1 (som t).length) t i a (by simp) hx
  have htl := tcl_len (List.range' 1 (som t).length) t
  rw [hlen] at htl
  have l1 : i + 1 ≤ L.length + 1 := by omega
  have m3 := more_tab t
  clear hx hp hso
  unfold pfin pst penv plive
  rw [lh_as l_verify_all_0.eq_1]
  generalize L[i] = ins at *
  generalize hM : L.length + 1 = M at *
  generalize canT t true = W at *
  generalize tcl (List.range' 1 (som t).length) t = tc at *
  simp only [Ins.c] at hri hja
  by_cases d1 : ins.at_ ≤ (i : Int)
  · simp -implicitDefEqProofs only [eqs, eqd, aCall, Sym.pos, ↓reduceIte, reduceCtorEq, Nat.reduceEqDiff, Nat.reduceAdd, Nat.reduceSub, Nat.reduceMul, Nat.reduceLT, Nat.reduceLeDiff, Nat.reduceBEq, Nat.reduceBNe, Nat.reduceGT, Int.reduceEq, Int.reduceLT, Int.reduceLE, Int.reduceToNat, Int.reduceAdd, Int.reduceSub, Int.reduceMul, Int.reduceNeg, Int.reduceBEq, Int.reduceBNe, nx_nil, Ins.c, nilp, c0, c1, c2, h5, l5, l1, ins_len, hri, hja, ht, htl, m3, d1, Int.toNat_natCast, Int.natCast_add, r0, s0, wz1, wz2]
  · have d2 : (L.length : Int) < ins.at_ := by omega
    simp -implicitDefEqProofs only [eqs, eqd, aCall, Sym.pos, ↓reduceIte, reduceCtorEq, Nat.reduceEqDiff, Nat.reduceAdd, Nat.reduceSub, Nat.reduceMul, Nat.reduceLT, Nat.reduceLeDiff, Nat.reduceBEq, Nat.reduceBNe, Nat.reduceGT, Int.reduceEq, Int.reduceLT, Int.reduceLE, Int.reduceToNat, Int.reduceAdd, Int.reduceSub, Int.reduceMul, Int.reduceNeg, Int.reduceBEq, Int.reduceBNe, nx_nil, Ins.c, nilp, c0, c1, c2, h5, l5, l1, ins_len, hri, hja, ht, htl, m3, d1, d2, Int.toNat_natCast, Int.natCast_add, r0, s0, wz1, wz2]
end Go.Proofs.Ytcfokbhmchcgbaa.Ver

/- The program's all: an instruction that fails. -/
namespace Go.Proofs.Ytcfokbhmchcgbaa.Ver
open Go Go.Proofs.Ytcfokbhmchcgbaa.Sym Go.Proofs.Ytcfokbhmchcgbaa.Tab
set_option linter.unusedVariables false
set_option linter.unusedSimpArgs false
set_option maxHeartbeats 4000000
set_option maxRecDepth 20000
theorem wz3 {α : Type} (W : List α) (y z : α) : (W ++ [y] ++ [z])[W.length]? = some y := by
  rw [List.append_assoc, List.getElem?_append_right (Nat.le_refl _), Nat.sub_self]
  rfl
theorem more_obj (t : List (Option Ah)) (hs : (som t).length ≤ 300) {i p : Nat} {a : Ah} (hp : (List.range' 1 (som t).length)[cnt t i]? = some p) (ha : (som t)[cnt t i]? = some a) (E : List Sym.Obj) : (canT t true ++ E)[p]? = some ⟨true, true, true, a.c⟩ := by
  obtain ⟨f, h1, h2⟩ := (has_more t hs E).obj _ p a hp ha
  rw [h1, h2 rfl]
/-- The target, where it jumps. -/
def okJ (n i : Nat) (ins : Ins) : Prop := jmp ins = true → (i : Int) < ins.at_ ∧ ins.at_ ≤ n
theorem all_err (k lf : Nat) (L : List Ins) (hL : L.length ≤ 200) (t : List (Option Ah)) (hlen : t.length = L.length + 1) (i : Nat) (hi : i < L.length) (hr : right L[i] = true) (a : Ah) (hx : t[i]? = some (some a)) (hj : okJ L.length i L[i]) (b : Ah) (e : Int) (he : e ≠ 0)
    (hb : acall T (k + 16) 62 0 [.agg a.c, .agg L[i].c] [] = some ⟨.tup [.agg b.c, .v (.int .i64 e)], [], 1⟩) (N : Nat) :
    pfin k lf L t i N = some ⟨.tup [.v (.slice none 0 0), .v (.int .i64 e), .v (.int .i64 i)], [], 1⟩ := by
  have c1 : (i : Int) < L.length := by omega
  have c0 : (0 : Int) ≤ i := by omega
  have c2 : (i : Int) < ((L.length + 1 : Nat) : Int) := by omega
  have h5 := ins_at L i hi
  have l5 : i * 5 + 5 ≤ L.length * 5 := by omega
  have hri := right_a (k + 11) L[i]
  rw [hr] at hri
  have hja := jumps_a (k + 15) L[i]
  have hs : (som t).length ≤ 300 := by have := som_le t; omega
  obtain ⟨p, hp, ht, hso⟩ := tcl_some (List.range' 1 (som t).length) t i a (by simp) hx
  have htl := tcl_len (List.range' 1 (som t).length) t
  rw [hlen] at htl
  have l1 : i + 1 ≤ L.length + 1 := by omega
  have m3 := more_tab t
  have m4 := more_obj t hs hp hso
  have he' : (e != 0) = true := by simpa using he
  clear hx hp hso
  unfold pfin pst penv plive
  rw [lh_as l_verify_all_0.eq_1]
  unfold okJ at hj
  generalize L[i] = ins at *
  generalize hM : L.length + 1 = M at *
  generalize canT t true = W at *
  generalize tcl (List.range' 1 (som t).length) t = tc at *
  obtain ⟨ak, an, as1⟩ := a
  obtain ⟨bk, bn, bs⟩ := b
  simp only [Ins.c] at hri hja hb
  cases hjj : jmp ins
  · rw [hjj] at hja
    clear hj
    cases an <;> cases bn <;> simp only [Ah.c, openA, Bool.false_eq_true, if_false, if_true] at hb m4 <;>
    simp -implicitDefEqProofs only [eqs, eqd, aCall, Sym.pos, ↓reduceIte, reduceCtorEq, Nat.reduceEqDiff, Nat.reduceAdd, Nat.reduceSub, Nat.reduceMul, Nat.reduceLT, Nat.reduceLeDiff, Nat.reduceBEq, Nat.reduceBNe, Nat.reduceGT, Int.reduceEq, Int.reduceLT, Int.reduceLE, Int.reduceToNat, Int.reduceAdd, Int.reduceSub, Int.reduceMul, Int.reduceNeg, Int.reduceBEq, Int.reduceBNe, nx_nil, Ins.c, nilp, c0, c1, c2, h5, l5, l1, ins_len, hri, hja, hb, he', ht, htl, m3, m4, Int.toNat_natCast, Int.natCast_add, r0, s0, wz1, wz2, wz3]
  · rw [hjj] at hja
    obtain ⟨j1, j2⟩ := hj hjj
    have d1 : ¬ ins.at_ ≤ (i : Int) := by omega
    have d2 : ¬ (L.length : Int) < ins.at_ := by omega
    clear hj
    cases an <;> cases bn <;> simp only [Ah.c, openA, Bool.false_eq_true, if_false, if_true] at hb m4 <;>
    simp -implicitDefEqProofs only [eqs, eqd, aCall, Sym.pos, ↓reduceIte, reduceCtorEq, Nat.reduceEqDiff, Nat.reduceAdd, Nat.reduceSub, Nat.reduceMul, Nat.reduceLT, Nat.reduceLeDiff, Nat.reduceBEq, Nat.reduceBNe, Nat.reduceGT, Int.reduceEq, Int.reduceLT, Int.reduceLE, Int.reduceToNat, Int.reduceAdd, Int.reduceSub, Int.reduceMul, Int.reduceNeg, Int.reduceBEq, Int.reduceBNe, nx_nil, Ins.c, nilp, c0, c1, c2, h5, l5, l1, ins_len, hri, hja, d1, d2, hb, he', ht, htl, m3, m4, Int.toNat_natCast, Int.natCast_add, r0, s0, wz1, wz2, wz3]
end Go.Proofs.Ytcfokbhmchcgbaa.Ver

/- A call of lead, and one of a flat function, on any state. -/
namespace Go.Proofs.Ytcfokbhmchcgbaa.Ver
open Go Go.Proofs.Ytcfokbhmchcgbaa.Sym Go.Proofs.Ytcfokbhmchcgbaa.Tab
set_option linter.unusedVariables false
set_option linter.unusedSimpArgs false
set_option maxHeartbeats 4000000
set_option maxRecDepth 20000
theorem lead1_a (k : Nat) (t : List (Option Ah)) (to : Nat) (hto : to < t.length) (hs : (som t).length < 300) (ht : AllIn t) (a : Ah) (ha : a.In) :
    acall T (k + 14) 64 1 [.view 0 0 t.length 1 (some t.length), .v (.int .i64 to), .agg a.c] (canT t false) = some ⟨.v (.bool (lead1 t to a).2), canT (lead1 t to a).1 false, 2⟩ := by
  have hx : t[to]? = some t[to] := List.getElem?_eq_getElem hto
  unfold lead1
  rw [hx]
  generalize t[to] = x at hx
  cases x with
  | none => exact lead_new k t to hx hs a
  | some b => exact lead_put k t to b hx hs a ha (ht to b hx).1
theorem lead1_call (k : Nat) {Ω : List Sym.Obj} {ps : List Nat} {t : List (Option Ah)} (h : HasT Ω ps t true) (to : Nat) (hto : to < t.length) (hs : (som t).length < 300) (ht : AllIn t) (a : Ah) (ha : a.In) :
    aCall (acall T (k + 14)) Ω (.fn 64 []) [.view 0 0 t.length 1 (some t.length), .v (.int .i64 to), .agg a.c] = some (.v (.bool (lead1 t to a).2), after Ω ps (lead1 t to a).1, 1) :=
  lead_call h t.length to a _ (lead1_a k t to hto hs ht a ha)
theorem flat_call {C : CT} {g : Nat} {i : Ins} {b : Bool} (h : C g 0 [.agg i.c] [] = some ⟨.v (.bool b), [], 1⟩) (Ω : List Sym.Obj) : aCall C Ω (.fn g []) [.agg i.c] = some (.v (.bool b), Ω, 1) := by
  obtain ⟨op, ik, ar, at_, nn⟩ := i
  simp only [Ins.c] at h ⊢
  simp -implicitDefEqProofs only [eqs, eqd, eqe, lh_some, ↓reduceIte, reduceCtorEq, Nat.reduceEqDiff, Nat.reduceAdd, Nat.reduceSub, Nat.reduceMul, Nat.reduceLT, Nat.reduceLeDiff, Nat.reduceBEq, Nat.reduceBNe, Nat.reduceGT, Int.reduceEq, Int.reduceLT, Int.reduceLE, Int.reduceToNat, Int.reduceAdd, Int.reduceSub, Int.reduceMul, Int.reduceNeg, Int.reduceBEq, Int.reduceBNe, h, r0, s0]
end Go.Proofs.Ytcfokbhmchcgbaa.Ver

/- The program's all: an instruction that leads on. -/
namespace Go.Proofs.Ytcfokbhmchcgbaa.Ver
open Go Go.Proofs.Ytcfokbhmchcgbaa.Sym Go.Proofs.Ytcfokbhmchcgbaa.Tab
set_option linter.unusedVariables false
set_option linter.unusedSimpArgs false
set_option maxHeartbeats 4000000
set_option maxRecDepth 20000
theorem after_X (t t' : List (Option Ah)) (hs : (som t).length ≤ 300) (o7 o8 : Sym.Obj) : (after (canT t true ++ [o7] ++ [o8]) (List.range' 1 (som t).length) t')[(canT t true).length]? = some o7 ∧ (after (canT t true ++ [o7] ++ [o8]) (List.range' 1 (som t).length) t')[(canT t true ++ [o7]).length]? = some o8 := by
  have hl := canT_len t true
  constructor
  · rw [after_other (by omega) (by rw [List.mem_range'_1]; omega) (by simp)]
    exact wz3 _ _ _
  · rw [after_other (by simp) (by rw [List.mem_range'_1, List.length_append]; simp; omega) (by simp)]
    exact wz1 _ _
theorem has_more2 (t : List (Option Ah)) (hs : (som t).length ≤ 300) (o7 o8 : Sym.Obj) : HasT (canT t true ++ [o7] ++ [o8]) (List.range' 1 (som t).length) t true := by
  rw [List.append_assoc]
  exact has_more t hs _
theorem all_on (k lf : Nat) (L : List Ins) (hL : L.length ≤ 200) (t : List (Option Ah)) (hA : AllIn t) (hlen : t.length = L.length + 1) (i : Nat) (hi : i < L.length) (hr : right L[i] = true) (a : Ah) (hx : t[i]? = some (some a)) (b : Ah) (hbi : b.In) (on : onI L[i] = true) (jm : jmp L[i] = false)
    (hb : acall T (k + 16) 62 0 [.agg a.c, .agg L[i].c] [] = some ⟨.tup [.agg b.c, .v (.int .i64 0)], [], 1⟩) (N : Nat) :
    ((lead1 t (i + 1) b).2 = true → pfin k lf L t i (N + 1) = pfin k lf L (lead1 t (i + 1) b).1 (i + 1) N) ∧
    ((lead1 t (i + 1) b).2 = false → pfin k lf L t i (N + 1) = some ⟨.tup [.v (.slice none 0 0), .v (.int .i64 7), .v (.int .i64 i)], [], 1⟩) := by
  have c1 : (i : Int) < L.length := by omega
  have c0 : (0 : Int) ≤ i := by omega
  have c2 : (i : Int) < ((L.length + 1 : Nat) : Int) := by omega
  have w : IntKind.i64.wrap ((i : Int) + 1) = i + 1 := w64 (by omega) (by omega)
  have h5 := ins_at L i hi
  have l5 : i * 5 + 5 ≤ L.length * 5 := by omega
  have hri := right_a (k + 11) L[i]
  rw [hr] at hri
  have hja := jumps_a (k + 15) L[i]
  rw [jm] at hja
  have hoa := on_a (k + 15) L[i]
  rw [on] at hoa
  have hri := flat_call hri
  have hja := flat_call hja
  have hoa := flat_call hoa
  have hs := som_le t
  have hs1 := som_le (lead1 t (i + 1) b).1
  rw [lead1_len] at hs1
  obtain ⟨p, hp, ht, hso⟩ := tcl_some (List.range' 1 (som t).length) t i a (by simp) hx
  have htl := tcl_len (List.range' 1 (som t).length) t
  rw [hlen] at htl
  have l1 : i + 1 ≤ L.length + 1 := by omega
  have m3 := more_tab t
  have m4 := more_obj t (by omega) hp hso
  have hT := has_more2 t (by omega) ⟨true, true, true, L[i].c⟩ ⟨true, true, true, b.c⟩
  have hld := lead1_call (k + 2) hT (i + 1) (by omega) (by omega) hA b hbi
  rw [hlen] at hld
  have hX := after_X t (lead1 t (i + 1) b).1 (by omega) ⟨true, true, true, L[i].c⟩ ⟨true, true, true, b.c⟩
  have hT2 := after_has (t' := (lead1 t (i + 1) b).1) hT (by omega) (by simp)
  have hX7 := hX.1
  have q1 := hT2.reach
  have q2 := hT2.sub true (fun _ => rfl)
  rw [Bool.and_true] at q2
  clear hx hp hso hT hT2 hX
  unfold pfin pst penv plive
  rw [lh_as l_verify_all_0.eq_1]
  generalize (lead1 t (i + 1) b).1 = t' at *
  generalize (lead1 t (i + 1) b).2 = r at *
  generalize L[i] = ins at *
  generalize hM : L.length + 1 = M at *
  generalize after (canT t true ++ [(⟨true, true, true, ins.c⟩ : Sym.Obj)] ++ [(⟨true, true, true, b.c⟩ : Sym.Obj)]) (List.range' 1 (som t).length) t' = X at *
  generalize canT t true = W at *
  generalize canT t' true = Y at *
  generalize tcl (List.range' 1 (som t).length) t = tc at *
  generalize List.range' _ (som t').length = ps' at *
  obtain ⟨ak, an, as1⟩ := a
  obtain ⟨bk, bn, bs⟩ := b
  simp only [Ins.c] at hri hja hoa hb hX7 hld
  refine ⟨fun hr => ?_, fun hr => ?_⟩
  · rw [hr] at hld
    cases an <;> cases bn <;> simp only [Ah.c, openA, Bool.false_eq_true, if_false, if_true, Int.natCast_add, Int.natCast_one] at hb m4 hld <;>
    simp -implicitDefEqProofs only [eqs, eqd, Sym.pos, ↓reduceIte, reduceCtorEq, Nat.reduceEqDiff, Nat.reduceAdd, Nat.reduceSub, Nat.reduceMul, Nat.reduceLT, Nat.reduceLeDiff, Nat.reduceBEq, Nat.reduceBNe, Nat.reduceGT, Int.reduceEq, Int.reduceLT, Int.reduceLE, Int.reduceToNat, Int.reduceAdd, Int.reduceSub, Int.reduceMul, Int.reduceNeg, Int.reduceBEq, Int.reduceBNe, nx_nil, Ins.c, nilp, c0, c1, c2, w, h5, l5, l1, ins_len, hri, hja, hoa, hb, hld, hX7, q1, q2, ht, htl, m3, m4, Int.toNat_natCast, Int.natCast_add, r0, s0, wz1, wz2, wz3]
  · rw [hr] at hld
    cases an <;> cases bn <;> simp only [Ah.c, openA, Bool.false_eq_true, if_false, if_true, Int.natCast_add, Int.natCast_one] at hb m4 hld <;>
    simp -implicitDefEqProofs only [eqs, eqd, Sym.pos, ↓reduceIte, reduceCtorEq, Nat.reduceEqDiff, Nat.reduceAdd, Nat.reduceSub, Nat.reduceMul, Nat.reduceLT, Nat.reduceLeDiff, Nat.reduceBEq, Nat.reduceBNe, Nat.reduceGT, Int.reduceEq, Int.reduceLT, Int.reduceLE, Int.reduceToNat, Int.reduceAdd, Int.reduceSub, Int.reduceMul, Int.reduceNeg, Int.reduceBEq, Int.reduceBNe, nx_nil, Ins.c, nilp, c0, c1, c2, w, h5, l5, l1, ins_len, hri, hja, hoa, hb, hld, hX7, q1, q2, ht, htl, m3, m4, Int.toNat_natCast, Int.natCast_add, r0, s0, wz1, wz2, wz3]
end Go.Proofs.Ytcfokbhmchcgbaa.Ver

/- The program's all: an instruction that only jumps, and one that ends. -/
namespace Go.Proofs.Ytcfokbhmchcgbaa.Ver
open Go Go.Proofs.Ytcfokbhmchcgbaa.Sym Go.Proofs.Ytcfokbhmchcgbaa.Tab
set_option linter.unusedVariables false
set_option linter.unusedSimpArgs false
set_option maxHeartbeats 4000000
set_option maxRecDepth 20000
theorem all_to (k lf : Nat) (L : List Ins) (hL : L.length ≤ 200) (t : List (Option Ah)) (hA : AllIn t) (hlen : t.length = L.length + 1) (i : Nat) (hi : i < L.length) (hr : right L[i] = true) (a : Ah) (hx : t[i]? = some (some a)) (b : Ah) (hbi : b.In) (on : onI L[i] = false) (jm : jmp L[i] = true) (J : Nat) (hJ : L[i].at_ = J) (hj : i < J ∧ J ≤ L.length)
    (hb : acall T (k + 16) 62 0 [.agg a.c, .agg L[i].c] [] = some ⟨.tup [.agg b.c, .v (.int .i64 0)], [], 1⟩) (N : Nat) :
    ((lead1 t J b).2 = true → pfin k lf L t i (N + 1) = pfin k lf L (lead1 t J b).1 (i + 1) N) ∧
    ((lead1 t J b).2 = false → pfin k lf L t i (N + 1) = some ⟨.tup [.v (.slice none 0 0), .v (.int .i64 7), .v (.int .i64 i)], [], 1⟩) := by
  have c1 : (i : Int) < L.length := by omega
  have c0 : (0 : Int) ≤ i := by omega
  have c2 : (i : Int) < ((L.length + 1 : Nat) : Int) := by omega
  have d1 : ¬ (J : Int) ≤ i := by omega
  have d2 : ¬ (L.length : Int) < J := by omega
  have w : IntKind.i64.wrap ((i : Int) + 1) = i + 1 := w64 (by omega) (by omega)
  have h5 := ins_at L i hi
  have l5 : i * 5 + 5 ≤ L.length * 5 := by omega
  have hri := right_a (k + 11) L[i]
  rw [hr] at hri
  have hja := jumps_a (k + 15) L[i]
  rw [jm] at hja
  have hoa := on_a (k + 15) L[i]
  rw [on] at hoa
  have hri := flat_call hri
  have hja := flat_call hja
  have hoa := flat_call hoa
  have hs := som_le t
  have hs1 := som_le (lead1 t J b).1
  rw [lead1_len] at hs1
  obtain ⟨p, hp, ht, hso⟩ := tcl_some (List.range' 1 (som t).length) t i a (by simp) hx
  have htl := tcl_len (List.range' 1 (som t).length) t
  rw [hlen] at htl
  have l1 : i + 1 ≤ L.length + 1 := by omega
  have m3 := more_tab t
  have m4 := more_obj t (by omega) hp hso
  have hT := has_more2 t (by omega) ⟨true, true, true, L[i].c⟩ ⟨true, true, true, b.c⟩
  have hld := lead1_call (k + 2) hT J (by omega) (by omega) hA b hbi
  rw [hlen] at hld
  have hX := after_X t (lead1 t J b).1 (by omega) ⟨true, true, true, L[i].c⟩ ⟨true, true, true, b.c⟩
  have hT2 := after_has (t' := (lead1 t J b).1) hT (by omega) (by simp)
  have hX7 := hX.1
  have q1 := hT2.reach
  have q2 := hT2.sub true (fun _ => rfl)
  rw [Bool.and_true] at q2
  clear hx hp hso hT hT2 hX
  unfold pfin pst penv plive
  rw [lh_as l_verify_all_0.eq_1]
  generalize (lead1 t J b).1 = t' at *
  generalize (lead1 t J b).2 = r at *
  generalize L[i] = ins at *
  generalize hM : L.length + 1 = M at *
  generalize after (canT t true ++ [(⟨true, true, true, ins.c⟩ : Sym.Obj)] ++ [(⟨true, true, true, b.c⟩ : Sym.Obj)]) (List.range' 1 (som t).length) t' = X at *
  generalize canT t true = W at *
  generalize canT t' true = Y at *
  generalize tcl (List.range' 1 (som t).length) t = tc at *
  generalize List.range' _ (som t').length = ps' at *
  obtain ⟨ak, an, as1⟩ := a
  obtain ⟨bk, bn, bs⟩ := b
  simp only [Ins.c, hJ] at hri hja hoa hb hX7 hld
  refine ⟨fun hr => ?_, fun hr => ?_⟩
  · rw [hr] at hld
    cases an <;> cases bn <;> simp only [Ah.c, openA, Bool.false_eq_true, if_false, if_true, Int.natCast_add, Int.natCast_one] at hb m4 hld <;>
    simp -implicitDefEqProofs only [eqs, eqd, Sym.pos, ↓reduceIte, reduceCtorEq, Nat.reduceEqDiff, Nat.reduceAdd, Nat.reduceSub, Nat.reduceMul, Nat.reduceLT, Nat.reduceLeDiff, Nat.reduceBEq, Nat.reduceBNe, Nat.reduceGT, Int.reduceEq, Int.reduceLT, Int.reduceLE, Int.reduceToNat, Int.reduceAdd, Int.reduceSub, Int.reduceMul, Int.reduceNeg, Int.reduceBEq, Int.reduceBNe, nx_nil, Ins.c, hJ, d1, d2, nilp, c0, c1, c2, w, h5, l5, l1, ins_len, hri, hja, hoa, hb, hld, hX7, q1, q2, ht, htl, m3, m4, Int.toNat_natCast, Int.natCast_add, r0, s0, wz1, wz2, wz3]
  · rw [hr] at hld
    cases an <;> cases bn <;> simp only [Ah.c, openA, Bool.false_eq_true, if_false, if_true, Int.natCast_add, Int.natCast_one] at hb m4 hld <;>
    simp -implicitDefEqProofs only [eqs, eqd, Sym.pos, ↓reduceIte, reduceCtorEq, Nat.reduceEqDiff, Nat.reduceAdd, Nat.reduceSub, Nat.reduceMul, Nat.reduceLT, Nat.reduceLeDiff, Nat.reduceBEq, Nat.reduceBNe, Nat.reduceGT, Int.reduceEq, Int.reduceLT, Int.reduceLE, Int.reduceToNat, Int.reduceAdd, Int.reduceSub, Int.reduceMul, Int.reduceNeg, Int.reduceBEq, Int.reduceBNe, nx_nil, Ins.c, hJ, d1, d2, nilp, c0, c1, c2, w, h5, l5, l1, ins_len, hri, hja, hoa, hb, hld, hX7, q1, q2, ht, htl, m3, m4, Int.toNat_natCast, Int.natCast_add, r0, s0, wz1, wz2, wz3]
theorem all_end (k lf : Nat) (L : List Ins) (hL : L.length ≤ 200) (t : List (Option Ah)) (hA : AllIn t) (hlen : t.length = L.length + 1) (i : Nat) (hi : i < L.length) (hr : right L[i] = true) (a : Ah) (hx : t[i]? = some (some a)) (b : Ah) (hbi : b.In) (on : onI L[i] = false) (jm : jmp L[i] = false)
    (hb : acall T (k + 16) 62 0 [.agg a.c, .agg L[i].c] [] = some ⟨.tup [.agg b.c, .v (.int .i64 0)], [], 1⟩) (N : Nat) :
    pfin k lf L t i (N + 1) = pfin k lf L t (i + 1) N := by
  have c1 : (i : Int) < L.length := by omega
  have c0 : (0 : Int) ≤ i := by omega
  have c2 : (i : Int) < ((L.length + 1 : Nat) : Int) := by omega
  have w : IntKind.i64.wrap ((i : Int) + 1) = i + 1 := w64 (by omega) (by omega)
  have h5 := ins_at L i hi
  have l5 : i * 5 + 5 ≤ L.length * 5 := by omega
  have hri := right_a (k + 11) L[i]
  rw [hr] at hri
  have hja := jumps_a (k + 15) L[i]
  rw [jm] at hja
  have hoa := on_a (k + 15) L[i]
  rw [on] at hoa
  have hri := flat_call hri
  have hja := flat_call hja
  have hoa := flat_call hoa
  have hs := som_le t
  obtain ⟨p, hp, ht, hso⟩ := tcl_some (List.range' 1 (som t).length) t i a (by simp) hx
  have htl := tcl_len (List.range' 1 (som t).length) t
  rw [hlen] at htl
  have l1 : i + 1 ≤ L.length + 1 := by omega
  have m3 := more_tab t
  have m4 := more_obj t (by omega) hp hso
  have hT := has_more2 t (by omega) ⟨true, true, true, L[i].c⟩ ⟨true, true, true, b.c⟩
  have q1 := hT.reach
  have q2 := hT.sub true (fun _ => rfl)
  rw [Bool.and_true] at q2
  clear hx hp hso hT
  unfold pfin pst penv plive
  rw [lh_as l_verify_all_0.eq_1]
  generalize L[i] = ins at *
  generalize hM : L.length + 1 = M at *
  generalize canT t true = W at *
  generalize tcl (List.range' 1 (som t).length) t = tc at *
  obtain ⟨ak, an, as1⟩ := a
  obtain ⟨bk, bn, bs⟩ := b
  simp only [Ins.c] at hri hja hoa hb q1 q2
  cases an <;> cases bn <;> simp only [Ah.c, openA, Bool.false_eq_true, if_false, if_true] at hb m4 q1 q2 <;>
  simp -implicitDefEqProofs only [eqs, eqd, Sym.pos, ↓reduceIte, reduceCtorEq, Nat.reduceEqDiff, Nat.reduceAdd, Nat.reduceSub, Nat.reduceMul, Nat.reduceLT, Nat.reduceLeDiff, Nat.reduceBEq, Nat.reduceBNe, Nat.reduceGT, Int.reduceEq, Int.reduceLT, Int.reduceLE, Int.reduceToNat, Int.reduceAdd, Int.reduceSub, Int.reduceMul, Int.reduceNeg, Int.reduceBEq, Int.reduceBNe, nx_nil, Ins.c, nilp, c0, c1, c2, w, h5, l5, l1, ins_len, hri, hja, hoa, hb, q1, q2, ht, htl, m3, m4, Int.toNat_natCast, Int.natCast_add, r0, s0, wz1, wz2, wz3]
end Go.Proofs.Ytcfokbhmchcgbaa.Ver

/- The program's all: an instruction that leads on and jumps. -/
namespace Go.Proofs.Ytcfokbhmchcgbaa.Ver
open Go Go.Proofs.Ytcfokbhmchcgbaa.Sym Go.Proofs.Ytcfokbhmchcgbaa.Tab
set_option linter.unusedVariables false
set_option linter.unusedSimpArgs false
set_option maxHeartbeats 4000000
set_option maxRecDepth 20000
theorem all_both (k lf : Nat) (L : List Ins) (hL : L.length ≤ 200) (t : List (Option Ah)) (hA : AllIn t) (hlen : t.length = L.length + 1) (i : Nat) (hi : i < L.length) (hr : right L[i] = true) (a : Ah) (hx : t[i]? = some (some a)) (b : Ah) (hbi : b.In ∧ BrIn b.bs) (on : onI L[i] = true) (jm : jmp L[i] = true) (J : Nat) (hJ : L[i].at_ = J) (hj : i < J ∧ J ≤ L.length)
    (hb : acall T (k + 16) 62 0 [.agg a.c, .agg L[i].c] [] = some ⟨.tup [.agg b.c, .v (.int .i64 0)], [], 1⟩) (N : Nat) :
    ((lead1 t (i + 1) b).2 = true → (lead1 (lead1 t (i + 1) b).1 J b).2 = true → pfin k lf L t i (N + 1) = pfin k lf L (lead1 (lead1 t (i + 1) b).1 J b).1 (i + 1) N) ∧
    ((lead1 t (i + 1) b).2 = true → (lead1 (lead1 t (i + 1) b).1 J b).2 = false → pfin k lf L t i (N + 1) = some ⟨.tup [.v (.slice none 0 0), .v (.int .i64 7), .v (.int .i64 i)], [], 1⟩) ∧
    ((lead1 t (i + 1) b).2 = false → pfin k lf L t i (N + 1) = some ⟨.tup [.v (.slice none 0 0), .v (.int .i64 7), .v (.int .i64 i)], [], 1⟩) := by
  have c1 : (i : Int) < L.length := by omega
  have c0 : (0 : Int) ≤ i := by omega
  have c2 : (i : Int) < ((L.length + 1 : Nat) : Int) := by omega
  have d1 : ¬ (J : Int) ≤ i := by omega
  have d2 : ¬ (L.length : Int) < J := by omega
  have w : IntKind.i64.wrap ((i : Int) + 1) = i + 1 := w64 (by omega) (by omega)
  have h5 := ins_at L i hi
  have l5 : i * 5 + 5 ≤ L.length * 5 := by omega
  have hri := right_a (k + 11) L[i]
  rw [hr] at hri
  have hja := jumps_a (k + 15) L[i]
  rw [jm] at hja
  have hoa := on_a (k + 15) L[i]
  rw [on] at hoa
  have hri := flat_call hri
  have hja := flat_call hja
  have hoa := flat_call hoa
  have hs := som_le t
  have hs1 := som_le (lead1 t (i + 1) b).1
  rw [lead1_len] at hs1
  obtain ⟨p, hp, ht, hso⟩ := tcl_some (List.range' 1 (som t).length) t i a (by simp) hx
  have htl := tcl_len (List.range' 1 (som t).length) t
  rw [hlen] at htl
  have l1 : i + 1 ≤ L.length + 1 := by omega
  have m3 := more_tab t
  have m4 := more_obj t (by omega) hp hso
  have hT := has_more2 t (by omega) ⟨true, true, true, L[i].c⟩ ⟨true, true, true, b.c⟩
  have hld := lead1_call (k + 2) hT (i + 1) (by omega) (by omega) hA b hbi.1
  rw [hlen] at hld
  have hX := after_X t (lead1 t (i + 1) b).1 (by omega) ⟨true, true, true, L[i].c⟩ ⟨true, true, true, b.c⟩
  have hT2 := after_has (t' := (lead1 t (i + 1) b).1) hT (by omega) (by simp)
  have hX7 := hX.1
  have hX8 := hX.2
  have hl1 : (lead1 t (i + 1) b).1.length = L.length + 1 := by rw [lead1_len, hlen]
  have hs2 := som_le (lead1 (lead1 t (i + 1) b).1 J b).1
  rw [lead1_len, lead1_len] at hs2
  have hld2 := lead1_call (k + 2) hT2 J (by omega) (by omega) (hA.lead1 hbi) b hbi.1
  rw [hl1] at hld2
  have hT3 := after_has (t' := (lead1 (lead1 t (i + 1) b).1 J b).1) hT2 (by omega) (by rw [after_len]; simp; omega)
  have q1 := hT3.reach
  have q2 := hT3.sub true (fun _ => rfl)
  rw [Bool.and_true] at q2
  clear hx hp hso hT hT2 hT3 hX hl1
  unfold pfin pst penv plive
  rw [lh_as l_verify_all_0.eq_1]
  generalize (lead1 (lead1 t (i + 1) b).1 J b).1 = t2 at *
  generalize (lead1 (lead1 t (i + 1) b).1 J b).2 = r2 at *
  generalize (lead1 t (i + 1) b).1 = t' at *
  generalize (lead1 t (i + 1) b).2 = r at *
  generalize L[i] = ins at *
  generalize hM : L.length + 1 = M at *
  generalize after (canT t true ++ [(⟨true, true, true, ins.c⟩ : Sym.Obj)] ++ [(⟨true, true, true, b.c⟩ : Sym.Obj)]) (List.range' 1 (som t).length) t' = X at *
  generalize List.range' (canT t true ++ [(⟨true, true, true, ins.c⟩ : Sym.Obj)] ++ [(⟨true, true, true, b.c⟩ : Sym.Obj)]).length (som t').length = ps' at *
  generalize after X ps' t2 = X2 at *
  generalize canT t2 true = Y at *
  generalize List.range' X.length (som t2).length = ps2 at *
  generalize canT t true = W at *
  generalize tcl (List.range' 1 (som t).length) t = tc at *
  obtain ⟨ak, an, as1⟩ := a
  obtain ⟨bk, bn, bs⟩ := b
  simp only [Ins.c, hJ] at hri hja hoa hb hX7 hX8 hld
  refine ⟨fun hr hr2 => ?_, fun hr hr2 => ?_, fun hr => ?_⟩
  · rw [hr] at hld
    rw [hr2] at hld2
    cases an <;> cases bn <;> simp only [Ah.c, openA, Bool.false_eq_true, if_false, if_true, Int.natCast_add, Int.natCast_one] at hb m4 hld hld2 hX8 <;>
    simp -implicitDefEqProofs only [eqs, eqd, Sym.pos, ↓reduceIte, reduceCtorEq, Nat.reduceEqDiff, Nat.reduceAdd, Nat.reduceSub, Nat.reduceMul, Nat.reduceLT, Nat.reduceLeDiff, Nat.reduceBEq, Nat.reduceBNe, Nat.reduceGT, Int.reduceEq, Int.reduceLT, Int.reduceLE, Int.reduceToNat, Int.reduceAdd, Int.reduceSub, Int.reduceMul, Int.reduceNeg, Int.reduceBEq, Int.reduceBNe, nx_nil, Ins.c, hJ, d1, d2, nilp, c0, c1, c2, w, h5, l5, l1, ins_len, hri, hja, hoa, hb, hld, hld2, hX7, hX8, q1, q2, ht, htl, m3, m4, Int.toNat_natCast, Int.natCast_add, r0, s0, wz1, wz2, wz3]
  · rw [hr] at hld
    rw [hr2] at hld2
    cases an <;> cases bn <;> simp only [Ah.c, openA, Bool.false_eq_true, if_false, if_true, Int.natCast_add, Int.natCast_one] at hb m4 hld hld2 hX8 <;>
    simp -implicitDefEqProofs only [eqs, eqd, Sym.pos, ↓reduceIte, reduceCtorEq, Nat.reduceEqDiff, Nat.reduceAdd, Nat.reduceSub, Nat.reduceMul, Nat.reduceLT, Nat.reduceLeDiff, Nat.reduceBEq, Nat.reduceBNe, Nat.reduceGT, Int.reduceEq, Int.reduceLT, Int.reduceLE, Int.reduceToNat, Int.reduceAdd, Int.reduceSub, Int.reduceMul, Int.reduceNeg, Int.reduceBEq, Int.reduceBNe, nx_nil, Ins.c, hJ, d1, d2, nilp, c0, c1, c2, w, h5, l5, l1, ins_len, hri, hja, hoa, hb, hld, hld2, hX7, hX8, q1, q2, ht, htl, m3, m4, Int.toNat_natCast, Int.natCast_add, r0, s0, wz1, wz2, wz3]
  · rw [hr] at hld
    clear hld2 q1 q2
    cases an <;> cases bn <;> simp only [Ah.c, openA, Bool.false_eq_true, if_false, if_true, Int.natCast_add, Int.natCast_one] at hb m4 hld <;>
    simp -implicitDefEqProofs only [eqs, eqd, Sym.pos, ↓reduceIte, reduceCtorEq, Nat.reduceEqDiff, Nat.reduceAdd, Nat.reduceSub, Nat.reduceMul, Nat.reduceLT, Nat.reduceLeDiff, Nat.reduceBEq, Nat.reduceBNe, Nat.reduceGT, Int.reduceEq, Int.reduceLT, Int.reduceLE, Int.reduceToNat, Int.reduceAdd, Int.reduceSub, Int.reduceMul, Int.reduceNeg, Int.reduceBEq, Int.reduceBNe, nx_nil, Ins.c, hJ, d1, d2, nilp, c0, c1, c2, w, h5, l5, l1, ins_len, hri, hja, hoa, hb, hld, hX7, ht, htl, m3, m4, Int.toNat_natCast, Int.natCast_add, r0, s0, wz1, wz2, wz3]
end Go.Proofs.Ytcfokbhmchcgbaa.Ver

/- The program's all: each round is a step. -/
namespace Go.Proofs.Ytcfokbhmchcgbaa.Ver
open Go Go.Proofs.Ytcfokbhmchcgbaa.Sym Go.Proofs.Ytcfokbhmchcgbaa.Tab
set_option linter.unusedVariables false
set_option linter.unusedSimpArgs false
set_option maxHeartbeats 4000000
theorem all_step (k lf : Nat) (L : List Ins) (hL : L.length ≤ 200) (t : List (Option Ah)) (ht : AllIn t) (hlen : t.length = L.length + 1) (i : Nat) (hi : i < L.length) (hin : L[i].In) (N : Nat) :
    ((stp L.length i t L[i]).1 = 0 → pfin k lf L t i (N + 1) = pfin k lf L (stp L.length i t L[i]).2 (i + 1) N ∧ AllIn (stp L.length i t L[i]).2 ∧ (stp L.length i t L[i]).2.length = L.length + 1) ∧
    ((stp L.length i t L[i]).1 ≠ 0 → pfin k lf L t i (N + 1) = some ⟨.tup [.v (.slice none 0 0), .v (.int .i64 (stp L.length i t L[i]).1), .v (.int .i64 i)], [], 1⟩) := by
  unfold stp
  by_cases hr : right L[i] = false
  · rw [if_pos hr]
    exact ⟨fun h => absurd h (by simp), fun _ => all_bad k lf L hL t hlen i hi hin hr (N + 1)⟩
  rw [if_neg hr]
  have hr : right L[i] = true := by simpa using hr
  have hop := right_op hr
  have hx : t[i]? = some t[i] := List.getElem?_eq_getElem (by omega)
  rw [hx]
  generalize hxx : t[i] = x at hx
  cases x with
  | none => exact ⟨fun _ => ⟨congrArg _ (all_skip k lf L hL t hlen i hi hin hr hx N _), ht, hlen⟩, fun h => absurd rfl h⟩
  | some a =>
    have ha := ht i a hx
    simp only
    by_cases hj : jmp L[i] = true ∧ ¬ ((i : Int) < L[i].at_ ∧ L[i].at_ ≤ L.length)
    · rw [if_pos hj]
      have hjo : 25 ≤ L[i].op ∧ L[i].op ≤ 27 := by have := hj.1; unfold jmp at this; simpa using this
      exact ⟨fun h => absurd h (by simp), fun _ => all_jump k lf L hL t hlen i hi hr a hx hj.1 hj.2 (N + 1)⟩
    rw [if_neg hj]
    have hj' : 25 ≤ L[i].op ∧ L[i].op ≤ 27 → (i : Int) < L[i].at_ ∧ L[i].at_ ≤ L.length := fun h => by
      refine Classical.byContradiction fun hc => hj ⟨?_, hc⟩
      unfold jmp
      simp [h.1, h.2]
    have hok : okJ L.length i L[i] := fun h => hj' (by unfold jmp at h; simpa using h)
    have hb := beh_a (k + 11) a L[i] ha.1 hop
    by_cases he : (beh a L[i]).2 ≠ 0
    · rw [if_pos he]
      exact ⟨fun h => absurd h he, fun _ => all_err k lf L hL t hlen i hi hr a hx hok _ _ he hb (N + 1)⟩
    rw [if_neg he]
    have he : (beh a L[i]).2 = 0 := by simpa using he
    have hbin := beh_in ha L[i] he
    rw [he] at hb
    generalize (beh a L[i]).1 = b at *
    unfold lead2
    have fin : ∀ {r : List (Option Ah) × Bool}, (r.2 = true → pfin k lf L t i (N + 1) = pfin k lf L r.1 (i + 1) N ∧ AllIn r.1 ∧ r.1.length = L.length + 1) → (r.2 = false → pfin k lf L t i (N + 1) = some ⟨.tup [.v (.slice none 0 0), .v (.int .i64 7), .v (.int .i64 i)], [], 1⟩) →
        ((if r.2 = true then ((0 : Int), r.1) else (7, t)).1 = 0 → pfin k lf L t i (N + 1) = pfin k lf L (if r.2 = true then ((0 : Int), r.1) else (7, t)).2 (i + 1) N ∧ AllIn (if r.2 = true then ((0 : Int), r.1) else (7, t)).2 ∧ (if r.2 = true then ((0 : Int), r.1) else (7, t)).2.length = L.length + 1) ∧
        ((if r.2 = true then ((0 : Int), r.1) else (7, t)).1 ≠ 0 → pfin k lf L t i (N + 1) = some ⟨.tup [.v (.slice none 0 0), .v (.int .i64 (if r.2 = true then ((0 : Int), r.1) else (7, t)).1), .v (.int .i64 i)], [], 1⟩) := fun {r} h1 h2 => by
      obtain ⟨r1, r2⟩ := r
      cases r2
      · exact ⟨fun h => absurd h (by simp), fun _ => h2 rfl⟩
      · exact ⟨fun _ => h1 rfl, fun h => absurd rfl h⟩
    by_cases o25 : L[i].op = 25
    · have on : onI L[i] = false := by unfold onI; rw [o25]; rfl
      have jm : jmp L[i] = true := by unfold jmp; rw [o25]; rfl
      obtain ⟨j1, j2⟩ := hj' (by omega)
      obtain ⟨J, hJ⟩ : ∃ J : Nat, L[i].at_ = J := ⟨L[i].at_.toNat, by omega⟩
      obtain ⟨key, key2⟩ := all_to k lf L hL t ht hlen i hi hr a hx b hbin.1 on jm J hJ (by omega) hb N
      simp only [on, jm, hJ, Bool.false_eq_true, if_false, if_true, and_self, Int.toNat_natCast]
      exact fin (fun h => ⟨key h, ht.lead1 hbin, by rw [lead1_len, hlen]⟩) key2
    by_cases o28 : L[i].op = 28
    · have on : onI L[i] = false := by unfold onI; rw [o28]; rfl
      have jm : jmp L[i] = false := by unfold jmp; rw [o28]; rfl
      simp only [on, jm, Bool.false_eq_true, if_false, and_false]
      exact fin (r := (t, true)) (fun _ => ⟨all_end k lf L hL t ht hlen i hi hr a hx b hbin.1 on jm hb N, ht, hlen⟩) (fun h => by cases h)
    have on : onI L[i] = true := by unfold onI; simp [o25, o28]
    by_cases o67 : L[i].op = 26 ∨ L[i].op = 27
    · have jm : jmp L[i] = true := by unfold jmp; rcases o67 with h | h <;> rw [h] <;> rfl
      obtain ⟨j1, j2⟩ := hj' (by omega)
      obtain ⟨J, hJ⟩ : ∃ J : Nat, L[i].at_ = J := ⟨L[i].at_.toNat, by omega⟩
      obtain ⟨key, key21, key22⟩ := all_both k lf L hL t ht hlen i hi hr a hx b hbin on jm J hJ (by omega) hb N
      simp only [on, jm, hJ, if_true, and_true, Int.toNat_natCast]
      by_cases q : (lead1 t (i + 1) b).2 = true
      · simp only [q, if_true]
        exact fin (fun h => ⟨key q h, (ht.lead1 hbin).lead1 hbin, by rw [lead1_len, lead1_len, hlen]⟩) (fun h => key21 q h)
      · have q' : (lead1 t (i + 1) b).2 = false := by simpa using q
        rw [if_neg q]
        exact fin (fun h => absurd h q) (fun _ => key22 q')
    · have jm : jmp L[i] = false := by
        unfold jmp
        cases h1 : decide (25 ≤ L[i].op)
        · rfl
        · have : ¬ L[i].op ≤ 27 := by have := of_decide_eq_true h1; omega
          simp [this]
      obtain ⟨key, key2⟩ := all_on k lf L hL t ht hlen i hi hr a hx b hbin.1 on jm hb N
      simp only [on, jm, Bool.false_eq_true, if_true, if_false, and_false]
      exact fin (fun h => ⟨key h, ht.lead1 hbin, by rw [lead1_len, hlen]⟩) key2
end Go.Proofs.Ytcfokbhmchcgbaa.Ver

/- The program's all. -/
namespace Go.Proofs.Ytcfokbhmchcgbaa.Ver
open Go Go.Proofs.Ytcfokbhmchcgbaa.Sym Go.Proofs.Ytcfokbhmchcgbaa.Tab
set_option linter.unusedVariables false
set_option linter.unusedSimpArgs false
set_option maxHeartbeats 4000000
set_option maxRecDepth 20000
def pres (n : Nat) (r : Int × Int × List (Option Ah)) : Res := if r.1 = 0 then ⟨.tup [.view 0 0 (n + 1) 1 (some (n + 1)), .v (.int .i64 0), .v (.int .i64 0)], canT r.2.2 true, 1⟩ else ⟨.tup [.v (.slice none 0 0), .v (.int .i64 r.1), .v (.int .i64 r.2.1)], [], 1⟩
theorem all_fin (k lf : Nat) (L : List Ins) (hL : L.length ≤ 200) (t : List (Option Ah)) (hA : AllIn t) (hlen : t.length = L.length + 1) (N : Nat) : pfin k lf L t L.length N = some (pres L.length ((endE L.length t).1, (endE L.length t).2, t)) := by
  have c1 : ¬ (L.length : Int) < L.length := by omega
  have c0 : (0 : Int) ≤ L.length := by omega
  have c2 : (L.length : Int) < ((L.length + 1 : Nat) : Int) := by omega
  have hx : t[L.length]? = some t[L.length] := List.getElem?_eq_getElem (by omega)
  have hs := som_le t
  have htl := tcl_len (List.range' 1 (som t).length) t
  rw [hlen] at htl
  have m1 := more_reach t (by omega) []
  have m2 := more_sub t (by omega) []
  have m3 := more_tab t []
  rw [List.append_nil] at m1 m2 m3
  have l1 : L.length + 1 ≤ L.length + 1 := Nat.le_refl _
  unfold pfin pst penv plive endE
  rw [hx, lh_as l_verify_all_0.eq_1]
  generalize t[L.length] = x at *
  cases x with
  | none =>
    have ht := tcl_none (List.range' 1 (som t).length) t _ hx
    unfold pres
    simp only [if_true]
    generalize hM : L.length + 1 = M at *
    generalize canT t true = W at *
    generalize tcl (List.range' 1 (som t).length) t = tc at *
    generalize List.range' 1 (som t).length = ps at *
    simp -implicitDefEqProofs only [eqs, eqd, aCall, Sym.pos, ↓reduceIte, reduceCtorEq, Nat.reduceEqDiff, Nat.reduceAdd, Nat.reduceSub, Nat.reduceMul, Nat.reduceLT, Nat.reduceLeDiff, Nat.reduceBEq, Nat.reduceBNe, Nat.reduceGT, Int.reduceEq, Int.reduceLT, Int.reduceLE, Int.reduceToNat, Int.reduceAdd, Int.reduceSub, Int.reduceMul, Int.reduceNeg, Int.reduceBEq, Int.reduceBNe, l_verify_all_1, nilp, c0, c1, c2, l1, ht, htl, m1, m2, m3, Int.toNat_natCast, r0, s0]
  | some a =>
    obtain ⟨p, hp, ht, hso⟩ := tcl_some (List.range' 1 (som t).length) t _ a (by simp) hx
    have m4 := more_obj t (by omega) hp hso []
    rw [List.append_nil] at m4
    have hn := (hA _ a hx).1.nil
    clear hp hso
    obtain ⟨ak, an, bs⟩ := a
    simp only at hn
    by_cases c : bs = []
    · subst c
      unfold pres
      simp only [if_true]
      generalize hM : L.length + 1 = M at *
      generalize canT t true = W at *
      generalize tcl (List.range' 1 (som t).length) t = tc at *
      generalize List.range' 1 (som t).length = ps at *
      cases an <;> simp only [Ah.c, openA, Bool.false_eq_true, if_false, if_true] at m4 <;>
      simp -implicitDefEqProofs only [eqs, eqd, aCall, Sym.pos, ↓reduceIte, reduceCtorEq, Nat.reduceEqDiff, Nat.reduceAdd, Nat.reduceSub, Nat.reduceMul, Nat.reduceLT, Nat.reduceLeDiff, Nat.reduceBEq, Nat.reduceBNe, Nat.reduceGT, Int.reduceEq, Int.reduceLT, Int.reduceLE, Int.reduceToNat, Int.reduceAdd, Int.reduceSub, Int.reduceMul, Int.reduceNeg, Int.reduceBEq, Int.reduceBNe, l_verify_all_1, nilp, c0, c1, c2, l1, ht, htl, m1, m2, m3, m4, Int.toNat_natCast, r0, s0]
    · have h0 : (0 : Int) < bs.length := by have := List.length_pos_iff.2 c; omega
      have an0 : an = false := by cases an; rfl; exact absurd (hn rfl) c
      subst an0
      simp only [c, if_false]
      unfold pres
      rw [if_neg (by simp)]
      generalize hM : L.length + 1 = M at *
      generalize canT t true = W at *
      generalize tcl (List.range' 1 (som t).length) t = tc at *
      generalize List.range' 1 (som t).length = ps at *
      simp only [Ah.c, openA, Bool.false_eq_true, if_false, if_true] at m4
      simp -implicitDefEqProofs only [eqs, eqd, aCall, Sym.pos, ↓reduceIte, reduceCtorEq, Nat.reduceEqDiff, Nat.reduceAdd, Nat.reduceSub, Nat.reduceMul, Nat.reduceLT, Nat.reduceLeDiff, Nat.reduceBEq, Nat.reduceBNe, Nat.reduceGT, Int.reduceEq, Int.reduceLT, Int.reduceLE, Int.reduceToNat, Int.reduceAdd, Int.reduceSub, Int.reduceMul, Int.reduceNeg, Int.reduceBEq, Int.reduceBNe, l_verify_all_1, nilp, c0, c1, c2, l1, ht, htl, h0, m3, m4, Int.toNat_natCast, r0, s0]
theorem all_run (k lf : Nat) (L : List Ins) (hL : L.length ≤ 200) (hin : ∀ (i : Nat) (h : i < L.length), L[i].In) : ∀ (m i N : Nat) (t : List (Option Ah)), i + m = L.length → m ≤ N → AllIn t → t.length = L.length + 1 → pfin k lf L t i N = some (pres L.length (run L m i t))
  | 0, i, N, t, hi, hN, ht, hlen => by
    obtain rfl : i = L.length := by omega
    exact all_fin k lf L hL t ht hlen N
  | m + 1, i, N, t, hi, hN, ht, hlen => by
    obtain ⟨N, rfl⟩ : ∃ M, N = M + 1 := ⟨N - 1, by omega⟩
    have h : i < L.length := by omega
    obtain ⟨h1, h2⟩ := all_step k lf L hL t ht hlen i h (hin i h) N
    rw [run, dif_pos h]
    by_cases c : (stp L.length i t L[i]).1 = 0
    · rw [if_pos c]
      obtain ⟨e, a1, a2⟩ := h1 c
      rw [e]
      exact all_run k lf L hL hin m (i + 1) N _ (by omega) (by omega) a1 a2
    · rw [if_neg c, h2 c]
      unfold pres
      rw [if_neg c]
end Go.Proofs.Ytcfokbhmchcgbaa.Ver

/- The program's all, from its beginning. -/
namespace Go.Proofs.Ytcfokbhmchcgbaa.Ver
open Go Go.Proofs.Ytcfokbhmchcgbaa.Sym Go.Proofs.Ytcfokbhmchcgbaa.Tab
set_option linter.unusedVariables false
set_option linter.unusedSimpArgs false
set_option maxHeartbeats 4000000
set_option maxRecDepth 20000
theorem all_long (k : Nat) (L : List Ins) (hL : 200 < L.length) : acall T (k + 17) 53 0 [.shr L.length false (L.flatMap Ins.c)] [] = some ⟨.tup [.v (.slice none 0 0), .v (.int .i64 2), .v (.int .i64 200)], [], 0⟩ := by
  rw [acall_go (body := b_verify_all) rfl rfl (Nat.zero_le _)]
  have c : (200 : Int) < L.length := by omega
  simp -implicitDefEqProofs only [eqs, eqd, eqe, ↓reduceIte, reduceCtorEq, Nat.reduceEqDiff, Nat.reduceAdd, Nat.reduceSub, Nat.reduceMul, Nat.reduceLT, Nat.reduceLeDiff, Nat.reduceBEq, Nat.reduceBNe, Nat.reduceGT, Int.reduceEq, Int.reduceLT, Int.reduceLE, Int.reduceToNat, Int.reduceAdd, Int.reduceSub, Int.reduceMul, Int.reduceNeg, Int.reduceBEq, Int.reduceBNe, b_verify_all, c]
theorem tcl_rep : ∀ (n : Nat) (ps : List Nat), tcl ps (List.replicate n none) = List.replicate n nilp
  | 0, ps => by rw [List.replicate_zero, tcl, List.replicate_zero]
  | n + 1, ps => by rw [List.replicate_succ, tcl, tcl_rep n ps, List.replicate_succ]
theorem som_00 (n : Nat) : som (t00 n) = [⟨0, true, []⟩] := by
  unfold t00 som
  rw [List.filterMap_cons]
  simp
theorem canT_00 (n : Nat) : canT (t00 n) true = [⟨true, true, false, (List.replicate (n + 1) nilp).set 0 (.ptr 1 0)⟩, ⟨true, true, true, [.v (.int .i64 0), .v (.slice none 0 0)]⟩] := by
  unfold canT
  rw [som_00]
  have : tcl [1] (t00 n) = (List.replicate (n + 1) nilp).set 0 (.ptr 1 0) := by
    unfold t00
    rw [tcl, tcl_rep, List.replicate_succ]
    rfl
  show (⟨true, true, false, tcl [1] (t00 n)⟩ : Sym.Obj) :: _ = _
  rw [this]
  rfl
theorem all_a (k : Nat) (hk : 200 ≤ k) (L : List Ins) (hL : L.length ≤ 200) (hin : ∀ (i : Nat) (h : i < L.length), L[i].In) : acall T (k + 17) 53 0 [.shr L.length false (L.flatMap Ins.c)] [] = some (pres L.length (run L L.length 0 (t00 L.length))) := by
  rw [acall_go (body := b_verify_all) rfl rfl (Nat.zero_le _)]
  have c : ¬ (200 : Int) < L.length := by omega
  have w : IntKind.i64.wrap ((L.length : Int) + 1) = ((L.length + 1 : Nat) : Int) := by rw [w64 (by omega) (by omega)]; omega
  have h := all_run k (k + 16) L hL hin L.length 0 (k + 15) (t00 L.length) (by omega) (by omega) (t00_in _) (t00_len _)
  have lp : ∀ (ks : List It) (s : St), Lp (acall T (k + 16)) (k + 16) [0, 5, 22, 23, 24] l_verify_all_0 (k + 16) ks s = Lh (acall T (k + 16)) (k + 16) (canon [0, 5, 22, 23, 24] s) [0, 5, 22, 23, 24] l_verify_all_0 (k + 15) ks := fun ks s => lp_succ (n := k + 15)
  have n1 : (0 : Int) ≤ ((L.length + 1 : Nat) : Int) := by omega
  have n2 : ((L.length + 1 : Nat) : Int) ≤ ((L.length + 1 : Nat) : Int) := Int.le_refl _
  have n3 : (L.length + 1) * 8 ≤ 140737488355328 := by omega
  have n4 : L.length + 1 ≤ 9223372036854775807 := by omega
  have n5 : (0 : Int) < ((L.length + 1 : Nat) : Int) := by omega
  have n6 : 1 ≤ L.length + 1 := by omega
  have hT := canT_has (t00 L.length) true (by rw [som_00]; decide)
  have q1 := hT.reach
  have q2 := hT.sub true (fun _ => rfl)
  rw [Bool.and_true] at q2
  rw [som_00] at q1 q2
  rw [canT_00] at q1 q2
  rw [← h]
  unfold pfin pst penv plive
  rw [canT_00]
  clear h hT
  simp only [List.length_singleton, List.range'_one, nilp] at q1 q2
  generalize hM : L.length + 1 = M at *
  simp -implicitDefEqProofs only [eqs, eqd, aCall, Sym.pos, ↓reduceIte, reduceCtorEq, Nat.reduceEqDiff, Nat.reduceAdd, Nat.reduceSub, Nat.reduceMul, Nat.reduceLT, Nat.reduceLeDiff, Nat.reduceBEq, Nat.reduceBNe, Nat.reduceGT, Int.reduceEq, Int.reduceLT, Int.reduceLE, Int.reduceToNat, Int.reduceAdd, Int.reduceSub, Int.reduceMul, Int.reduceNeg, Int.reduceBEq, Int.reduceBNe, b_verify_all, c, w, r0, s0, q1, q2, n1, n2, n3, n4, n5, n6, nilp, lp, Int.toNat_natCast, Int.natCast_zero, List.length_replicate]
end Go.Proofs.Ytcfokbhmchcgbaa.Ver
