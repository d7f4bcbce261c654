/- Both bursts are one. -/
import Derived.Test.YthmmgpdniijkeaaBRB
namespace Go.Proofs.Ythmmgpdniijkeaa.Bus
open Go Go.Proofs.Ythmmgpdniijkeaa.Sym
set_option linter.unusedVariables false
set_option linter.unusedSimpArgs false
/-- Bytes. -/
def Ok8 (l : List Int) : Prop := ∀ j, 0 ≤ l.getD j 0 ∧ l.getD j 0 ≤ 255
theorem xor8 {x y : Int} (hx : 0 ≤ x ∧ x ≤ 255) (hy : 0 ≤ y ∧ y ≤ 255) : bitsV .xor .u8 x y = ((x.toNat ^^^ y.toNat : Nat) : Int) ∧ x.toNat ^^^ y.toNat ≤ 255 := by
  obtain ⟨a, rfl⟩ : ∃ a : Nat, x = a := ⟨x.toNat, by omega⟩
  obtain ⟨b, rfl⟩ : ∃ a : Nat, y = a := ⟨y.toNat, by omega⟩
  have hlt : a ^^^ b < 2 ^ 8 := Nat.xor_lt_two_pow (by omega) (by omega)
  have h2 : a ^^^ b ≤ 255 := by omega
  rw [Int.toNat_natCast, Int.toNat_natCast]
  refine ⟨?_, h2⟩
  show IntKind.u8.wrap (((BitVec.ofInt 8 (a : Int) ^^^ BitVec.ofInt 8 (b : Int)).toNat : Nat) : Int) = _
  rw [BitVec.ofInt_natCast, BitVec.ofInt_natCast, BitVec.toNat_xor, BitVec.toNat_ofNat, BitVec.toNat_ofNat, Nat.mod_eq_of_lt (by omega), Nat.mod_eq_of_lt (by omega)]
  exact wu8 (by omega) (by omega)
theorem getD_set (l : List Int) (i j : Nat) (x : Int) : (l.set i x).getD j 0 = if i = j ∧ i < l.length then x else l.getD j 0 := by
  rw [List.getD_eq_getElem?_getD, List.getElem?_set, List.getD_eq_getElem?_getD]
  by_cases h : i = j
  · subst h
    rw [if_pos rfl]
    by_cases h2 : i < l.length
    · rw [if_pos h2, if_pos ⟨rfl, h2⟩]; rfl
    · rw [if_neg h2, if_neg (fun h => h2 h.2), List.getElem?_eq_none (by omega)]
  · rw [if_neg h, if_neg (fun hh => h hh.1)]
theorem bloop_get (w : Int) : ∀ (m i d : Nat) (l : List Int) (j : Nat), i + m ≤ l.length → (bloop w m i d l).getD j 0 = if i ≤ j ∧ j < i + m then bitsV .xor .u8 (l.getD j 0) (byteOf w (d + (j - i))) else l.getD j 0
  | 0, i, d, l, j, h => by rw [bloop, if_neg (by omega)]
  | m + 1, i, d, l, j, h => by
    rw [bloop, bloop_get w m (i + 1) (d + 1) _ j (by rw [List.length_set]; omega), getD_set]
    by_cases c : i = j
    · subst c
      rw [if_neg (by omega), if_pos ⟨rfl, by omega⟩, if_pos (by omega), Nat.sub_self, Nat.add_zero]
    · by_cases c2 : i + 1 ≤ j ∧ j < i + 1 + m
      · rw [if_pos c2, if_neg (fun h => c h.1), if_pos (by omega), show d + 1 + (j - (i + 1)) = d + (j - i) by omega]
      · rw [if_neg c2, if_neg (fun h => c h.1), if_neg (by omega)]
theorem wide_nat (pat r : Nat) (hp : pat ≤ 65535) (hr : r < 8) : wide pat r = ((pat * 2 ^ (8 - r) : Nat) : Int) := by
  unfold wide
  rw [show min (8 - r) IntKind.u32.bits = 8 - r by show min (8 - r) 32 = _; omega]
  have h1 : 2 ^ (8 - r) ≤ 2 ^ 8 := Nat.pow_le_pow_right (by decide) (by omega)
  have h2 : pat * 2 ^ (8 - r) ≤ 65535 * 256 := Nat.mul_le_mul hp h1
  rw [show ((pat : Int) * 2 ^ (8 - r)) = ((pat * 2 ^ (8 - r) : Nat) : Int) by simp]
  generalize pat * 2 ^ (8 - r) = q at *
  exact wu32 (by omega) (by omega)
theorem byteOf_nat (w d : Nat) : byteOf w d = ((w / 2 ^ (16 - 8 * d) % 256 : Nat) : Int) := by
  unfold byteOf
  rw [show min (16 - 8 * d) IntKind.u32.bits = 16 - 8 * d by show min (16 - 8 * d) 32 = _; omega, fdiv_nat]
  generalize w / 2 ^ (16 - 8 * d) = q
  have h : IntKind.u8.wrap (q : Int) = (q : Int) % 256 := by simp [IntKind.wrap, IntKind.bits, IntKind.signed]
  rw [h]
  omega
theorem turnOf_nat (q : Nat) : turnOf q = ((2 ^ (7 - q % 8) : Nat) : Int) ∧ 2 ^ (7 - q % 8) ≤ 255 := by
  have h1 : 2 ^ (7 - q % 8) ≤ 2 ^ 7 := Nat.pow_le_pow_right (by decide) (by omega)
  have h2 : 2 ^ (7 - q % 8) ≤ 255 := by omega
  refine ⟨?_, h2⟩
  unfold turnOf
  rw [show min (7 - q % 8) IntKind.u8.bits = 7 - q % 8 by show min (7 - q % 8) 8 = _; omega, Int.one_mul, show ((2 : Int) ^ (7 - q % 8)) = ((2 ^ (7 - q % 8) : Nat) : Int) by simp]
  generalize 2 ^ (7 - q % 8) = z at *
  exact wu8 (by omega) (by omega)
/-- Is a bit of a text turned, by those of a pattern from one on? -/
def turned (at_ pat i : Nat) (p : Nat) : Bool := decide (at_ + i ≤ p) && decide (p < at_ + 16) && pat.testBit (15 - (p - at_))
theorem rloop_spec (at_ pat n : Nat) : ∀ (m i : Nat) (l : List Int), i + m = 16 → l.length = n → Ok8 l → Ok8 (rloop at_ pat n m i l) ∧ (rloop at_ pat n m i l).length = n ∧ ∀ j t, j < n → t < 8 → ((rloop at_ pat n m i l).getD j 0).toNat.testBit t = ((l.getD j 0).toNat.testBit t ^^ turned at_ pat i (8 * j + (7 - t)))
  | 0, i, l, hi, hl, ho => ⟨ho, hl, fun j t hj ht => by
      rw [rloop]
      have : turned at_ pat i (8 * j + (7 - t)) = false := by
        unfold turned
        by_cases c : at_ + i ≤ 8 * j + (7 - t)
        · rw [decide_eq_false (p := 8 * j + (7 - t) < at_ + 16) (by omega), Bool.and_false, Bool.false_and]
        · rw [decide_eq_false c, Bool.false_and, Bool.false_and]
      rw [this, Bool.xor_false]⟩
  | m + 1, i, l, hi, hl, ho => by
    rw [rloop]
    have step : ∀ p, turned at_ pat i p = (turned at_ pat (i + 1) p ^^ (decide (p = at_ + i) && pat.testBit (15 - i))) := fun p => by
      unfold turned
      by_cases c : p = at_ + i
      · rw [decide_eq_true c, decide_eq_true (p := at_ + i ≤ p) (by omega), decide_eq_true (p := p < at_ + 16) (by omega), decide_eq_false (p := at_ + (i + 1) ≤ p) (by omega), show p - at_ = i by omega]
        simp
      · rw [decide_eq_false c, Bool.false_and, Bool.xor_false]
        by_cases c2 : at_ + i ≤ p
        · rw [decide_eq_true c2, decide_eq_true (p := at_ + (i + 1) ≤ p) (by omega)]
        · rw [decide_eq_false c2, decide_eq_false (p := at_ + (i + 1) ≤ p) (by omega)]
    by_cases c : pat.testBit (15 - i) = true ∧ at_ + i < 8 * n
    · rw [if_pos c]
      obtain ⟨tn1, tn2⟩ := turnOf_nat (at_ + i)
      have hx := ho ((at_ + i) / 8)
      obtain ⟨x1, x2⟩ := xor8 hx (y := turnOf (at_ + i)) (by rw [tn1]; generalize 2 ^ (7 - (at_ + i) % 8) = q at tn2 ⊢; omega)
      have hset : Ok8 (l.set ((at_ + i) / 8) (bitsV .xor .u8 (l.getD ((at_ + i) / 8) 0) (turnOf (at_ + i)))) := fun j => by
        rw [getD_set]
        split
        · rw [x1]; omega
        · exact ho j
      obtain ⟨r1, r2, r3⟩ := rloop_spec at_ pat n m (i + 1) _ (by omega) (by rw [List.length_set, hl]) hset
      refine ⟨r1, r2, fun j t hj ht => ?_⟩
      rw [r3 j t hj ht, getD_set, step]
      by_cases d : (at_ + i) / 8 = j
      · rw [if_pos ⟨d, by omega⟩, x1, Int.toNat_natCast, d, Nat.testBit_xor, tn1, Int.toNat_natCast, Nat.testBit_two_pow, c.1, Bool.and_true, Bool.xor_assoc, Bool.xor_comm (turned at_ pat (i + 1) _)]
        congr 2
        rw [Bool.eq_iff_iff, decide_eq_true_eq, decide_eq_true_eq]
        omega
      · rw [if_neg (fun h => d h.1), decide_eq_false (p := 8 * j + (7 - t) = at_ + i) (by omega), Bool.false_and, Bool.xor_false]
    · rw [if_neg c]
      obtain ⟨r1, r2, r3⟩ := rloop_spec at_ pat n m (i + 1) l (by omega) hl ho
      refine ⟨r1, r2, fun j t hj ht => ?_⟩
      rw [r3 j t hj ht, step]
      have : (decide (8 * j + (7 - t) = at_ + i) && pat.testBit (15 - i)) = false := by
        rw [Bool.eq_false_iff, ne_eq, Bool.and_eq_true, decide_eq_true_eq]
        exact fun h => c ⟨h.2, by omega⟩
      rw [this, Bool.xor_false]
theorem nums_ok (s : ByteArray) : Ok8 (numsOf s) := fun j => by
  unfold numsOf
  rw [List.getD_eq_getElem?_getD, List.getElem?_map]
  cases h : s.data.toList[j]? with
  | none => simp
  | some b =>
    have := b.toNat_lt
    simp
    omega
theorem list_ext8 {l m : List Int} (hl : l.length = m.length) (h1 : Ok8 l) (h2 : Ok8 m) (h : ∀ j t, j < l.length → t < 8 → (l.getD j 0).toNat.testBit t = (m.getD j 0).toNat.testBit t) : l = m := by
  apply List.ext_getElem hl
  intro j a b
  have e1 : l.getD j 0 = l[j] := by rw [List.getD_eq_getElem?_getD, List.getElem?_eq_getElem a]; rfl
  have e2 : m.getD j 0 = m[j] := by rw [List.getD_eq_getElem?_getD, List.getElem?_eq_getElem b]; rfl
  have g1 := h1 j
  have g2 := h2 j
  have : (l.getD j 0).toNat = (m.getD j 0).toNat := by
    apply Nat.eq_of_testBit_eq
    intro t
    by_cases ht : t < 8
    · exact h j t a ht
    · have k : ∀ x : Nat, x ≤ 255 → x.testBit t = false := fun x hx => Nat.testBit_lt_two_pow (Nat.lt_of_lt_of_le (by omega : x < 2 ^ 8) (Nat.pow_le_pow_right (by decide) (by omega)))
      rw [k _ (by omega), k _ (by omega)]
  rw [e1, e2] at this
  rw [e1] at g1
  rw [e2] at g2
  omega
theorem bursts_eq (s : ByteArray) (at_ pat : Int) (hp : 0 ≤ pat ∧ pat ≤ 65535) : burst s at_ pat = rburst s at_ pat := by
  unfold burst rburst
  by_cases c : at_ < 0 ∨ 8 * (s.size : Int) ≤ at_
  · rw [if_pos c, if_pos c]
  · rw [if_neg c, if_neg c]
    obtain ⟨a, rfl⟩ : ∃ a : Nat, at_ = a := ⟨at_.toNat, by omega⟩
    obtain ⟨p, rfl⟩ : ∃ a : Nat, pat = a := ⟨pat.toNat, by omega⟩
    rw [Int.toNat_natCast, Int.toNat_natCast]
    congr 1
    have hn := numsOf_len s
    have ho := nums_ok s
    obtain ⟨r1, r2, r3⟩ := rloop_spec a p s.size 16 0 (numsOf s) rfl hn ho
    have hbg := fun j => bloop_get (wide p (a % 8)) (min (a / 8 + 3) s.size - a / 8) (a / 8) 0 (numsOf s) j (by rw [hn]; omega)
    have hbyte : ∀ d, d ≤ 2 → 0 ≤ byteOf (wide p (a % 8)) d ∧ byteOf (wide p (a % 8)) d ≤ 255 := fun d _ => by
      rw [wide_nat p _ (by omega) (by omega), byteOf_nat]
      generalize p * 2 ^ (8 - a % 8) / 2 ^ (16 - 8 * d) = q
      omega
    refine list_ext8 (by rw [bloop_len, hn, r2]) (fun j => ?_) r1 fun j t hj ht => ?_
    · rw [hbg j]
      split
      · rename_i hc
        obtain ⟨x1, x2⟩ := xor8 (ho j) (hbyte (0 + (j - a / 8)) (by omega))
        rw [x1]
        omega
      · exact ho j
    · rw [bloop_len, hn] at hj
      rw [r3 j t hj ht, hbg j]
      split
      · rename_i hc
        obtain ⟨x1, x2⟩ := xor8 (ho j) (hbyte (0 + (j - a / 8)) (by omega))
        rw [x1, Int.toNat_natCast, Nat.testBit_xor]
        congr 1
        rw [wide_nat p _ (by omega) (by omega), byteOf_nat, Int.toNat_natCast, show (256 : Nat) = 2 ^ 8 from rfl, Nat.testBit_mod_two_pow, decide_eq_true ht, Bool.true_and, Nat.testBit_div_two_pow, Nat.testBit_mul_two_pow]
        unfold turned
        rw [Nat.add_zero]
        by_cases q1 : a ≤ 8 * j + (7 - t)
        · rw [decide_eq_true q1, Bool.true_and]
          by_cases q2 : 8 * j + (7 - t) < a + 16
          · rw [decide_eq_true q2, Bool.true_and, decide_eq_true (by omega), Bool.true_and]
            congr 1
            omega
          · rw [decide_eq_false q2, Bool.false_and, decide_eq_false (by omega), Bool.false_and]
        · rw [decide_eq_false q1, Bool.false_and, Bool.false_and]
          have hpl : p.testBit (t + (16 - 8 * (0 + (j - a / 8))) - (8 - a % 8)) = false := Nat.testBit_lt_two_pow (Nat.lt_of_lt_of_le (by omega : p < 2 ^ 16) (Nat.pow_le_pow_right (by decide) (by omega)))
          rw [hpl, Bool.and_false]
      · rename_i hc
        have : turned a p 0 (8 * j + (7 - t)) = false := by
          unfold turned
          by_cases q1 : a + 0 ≤ 8 * j + (7 - t)
          · rw [decide_eq_false (p := 8 * j + (7 - t) < a + 16) (by omega), Bool.and_false, Bool.false_and]
          · rw [decide_eq_false q1, Bool.false_and, Bool.false_and]
        rw [this, Bool.xor_false]
end Go.Proofs.Ythmmgpdniijkeaa.Bus
