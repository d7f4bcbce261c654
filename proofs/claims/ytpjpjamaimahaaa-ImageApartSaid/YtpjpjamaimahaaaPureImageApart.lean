/- What is left of ImageApart when the program's calls are told as functions over numbers and lists: for every input that the guards let in the law's function answers true. -/
import Derived.Test.YtpjpjamaimahaaaPImageApartx5
import Derived.Test.YtpjpjamaimahaaaKit
import Derived.Test.YtpjpjamaimahaaaWMore
import Derived.Laws.BitsLemmas
import Derived.Test.YtpjpjamaimahaaaWMore
namespace Go.Proofs.Ytpjpjamaimahaaa.Pure
open Go.RowKit Go.Proofs.Ytpjpjamaimahaaa.PImageApart Go.Proofs.YtpjpjamaimahaaaW.PrintWords Go.Proofs.YtpjpjamaimahaaaW.PrintLast Go.Proofs.Ytpjpjamaimahaaa.Kit
set_option linter.unusedVariables false
set_option linter.unusedSimpArgs false

/-! ### blocks: the place of a block -/
theorem place_ev (l : List S34) (id : Int) (hl : l.length ≤ 140737488351232) : ∀ d i : Nat, i + d = l.length →
    ∃ r, Ev (fun k => blocks_place.l0 k l id (l.length : Int) (i : Int)) r ∧
      ((∃ j : Nat, i ≤ j ∧ j < l.length ∧ (rd_T34 l (j : Int)).f0 = id ∧ (∀ m : Nat, i ≤ m → m < j → (rd_T34 l (m : Int)).f0 ≠ id) ∧ r = (j : Int)) ∨
       (r = -1 ∧ ∀ m : Nat, i ≤ m → m < l.length → (rd_T34 l (m : Int)).f0 ≠ id))
  | 0, i, h => ⟨-1, Ev.step (fun k => rfl) (Ev.neg (by omega) (Ev.now _)), Or.inr ⟨rfl, fun m h1 h2 => by omega⟩⟩
  | d + 1, i, h => by
    by_cases e : (rd_T34 l (i : Int)).f0 = id
    · exact ⟨(i : Int), Ev.step (fun k => rfl) (Ev.pos (by omega) (Ev.pos (by omega) (Ev.pos (by omega) (Ev.pos e (Ev.now _))))), Or.inl ⟨i, Nat.le_refl _, by omega, e, fun m h1 h2 => by omega, rfl⟩⟩
    · obtain ⟨r, hr, hs⟩ := place_ev l id hl d (i + 1) (by omega)
      refine ⟨r, Ev.step (fun k => rfl) (Ev.pos (by omega) (Ev.pos (by omega) (Ev.pos (by omega) (Ev.neg e (by rw [wrap64_nat (n := l.length) (by omega) hl]; exact hr))))), ?_⟩
      rcases hs with ⟨j, h1, h2, h3, h4, h5⟩ | ⟨h1, h2⟩
      · refine Or.inl ⟨j, by omega, h2, h3, fun m hm1 hm2 => ?_, h5⟩
        rcases Nat.eq_or_lt_of_le hm1 with rfl | hlt
        · exact e
        · exact h4 m hlt hm2
      · refine Or.inr ⟨h1, fun m hm1 hm2 => ?_⟩
        rcases Nat.eq_or_lt_of_le hm1 with rfl | hlt
        · exact e
        · exact h2 m hlt hm2

theorem placef_ev (l : List S34) (id : Int) (hl : l.length ≤ 140737488351232) :
    ∃ r, Ev (fun k => blocks_place.f k l id) r ∧
      ((∃ j : Nat, j < l.length ∧ (rd_T34 l (j : Int)).f0 = id ∧ (∀ m : Nat, m < j → (rd_T34 l (m : Int)).f0 ≠ id) ∧ r = (j : Int)) ∨
       (r = -1 ∧ ∀ m : Nat, m < l.length → (rd_T34 l (m : Int)).f0 ≠ id)) := by
  obtain ⟨r, h, hs⟩ := place_ev l id hl l.length 0 (by omega)
  refine ⟨r, h, ?_⟩
  rcases hs with ⟨j, h1, h2, h3, h4, h5⟩ | ⟨h1, h2⟩
  · exact Or.inl ⟨j, h2, h3, fun m hm => h4 m (by omega) hm, h5⟩
  · exact Or.inr ⟨h1, fun m hm => h2 m (by omega) hm⟩
theorem refFind_ev (l : List S34) (id : Int) (hl : l.length ≤ 140737488351232) : ∀ d i : Nat, i + d = l.length →
    ∃ r, Ev (fun k => fuglemanref16_Find.l0 k l id (i : Int)) r ∧
      ((∃ j : Nat, i ≤ j ∧ j < l.length ∧ (rd_T34 l (j : Int)).f0 = id ∧ (∀ m : Nat, i ≤ m → m < j → (rd_T34 l (m : Int)).f0 ≠ id) ∧ r = ((rd_T34 l (j : Int)).f0, (rd_T34 l (j : Int)).f1, (rd_T34 l (j : Int)).f2, (rd_T34 l (j : Int)).f3, true)) ∨
       (r = (0, 0, 0, false, false) ∧ ∀ m : Nat, i ≤ m → m < l.length → (rd_T34 l (m : Int)).f0 ≠ id))
  | 0, i, h => ⟨_, Ev.step (fun k => rfl) (Ev.neg (by omega) (Ev.now _)), Or.inr ⟨rfl, fun m h1 h2 => by omega⟩⟩
  | d + 1, i, h => by
    by_cases e : (rd_T34 l (i : Int)).f0 = id
    · exact ⟨_, Ev.step (fun k => rfl) (Ev.pos (by omega) (Ev.pos (by omega) (Ev.pos e (Ev.now _)))), Or.inl ⟨i, Nat.le_refl _, by omega, e, fun m h1 h2 => by omega, rfl⟩⟩
    · obtain ⟨r, hr, hs⟩ := refFind_ev l id hl d (i + 1) (by omega)
      refine ⟨r, Ev.step (fun k => rfl) (Ev.pos (by omega) (Ev.pos (by omega) (Ev.neg e (by rw [wrap64_nat (n := l.length) (by omega) hl]; exact hr)))), ?_⟩
      rcases hs with ⟨j, h1, h2, h3, h4, h5⟩ | ⟨h1, h2⟩
      · refine Or.inl ⟨j, by omega, h2, h3, fun m hm1 hm2 => ?_, h5⟩
        rcases Nat.eq_or_lt_of_le hm1 with rfl | hlt
        · exact e
        · exact h4 m hlt hm2
      · refine Or.inr ⟨h1, fun m hm1 hm2 => ?_⟩
        rcases Nat.eq_or_lt_of_le hm1 with rfl | hlt
        · exact e
        · exact h2 m hlt hm2

theorem find_both (l : List S34) (id : Int) (hl : l.length ≤ 140737488351232) : ∃ r, Ev (fun k => blocks_Find.f k l id) r ∧ Ev (fun k => fuglemanref16_Find.f k l id) r := by
  obtain ⟨r, h, hs⟩ := placef_ev l id hl
  obtain ⟨q, g, gs⟩ := refFind_ev l id hl l.length 0 (by omega)
  refine ⟨q, ?_, g⟩
  refine Ev.bind h ?_
  rcases hs with ⟨j, h2, h3, h4, rfl⟩ | ⟨rfl, h2⟩
  · rcases gs with ⟨j', _, g2, g3, g4, rfl⟩ | ⟨_, g2⟩
    · have e : j = j' := by
        rcases Nat.lt_trichotomy j j' with hlt | rfl | hlt
        · exact absurd h3 (g4 j (by omega) hlt)
        · rfl
        · exact absurd g3 (h4 j' hlt)
      subst e
      exact Ev.neg (by omega) (Ev.pos (by omega) (Ev.pos (by omega) (Ev.now _)))
    · exact absurd h3 (g2 j (by omega) h2)
  · rcases gs with ⟨j', _, g2, g3, g4, rfl⟩ | ⟨rfl, g2⟩
    · exact absurd g3 (h2 j' g2)
    · exact Ev.pos (by omega) (Ev.now _)
/-! ### image: which bytes are used -/
def Mk (at_ n : Nat) : Nat := (2 ^ n - 1) <<< at_
theorem Mk_bit (at_ n i : Nat) : (Mk at_ n).testBit i = decide (at_ ≤ i ∧ i < at_ + n) := by
  unfold Mk
  rw [Nat.testBit_shiftLeft, Nat.testBit_two_pow_sub_one]
  by_cases h1 : at_ ≤ i
  · by_cases h2 : i < at_ + n
    · simp [h1, h2]; omega
    · simp [h1, h2]; omega
  · simp [h1]
theorem Mk_lt (at_ n : Nat) (h : at_ + n ≤ 64) : Mk at_ n < 2 ^ 64 := by
  apply Nat.lt_pow_two_of_testBit
  intro i hi
  rw [Mk_bit]
  exact decide_eq_false (by omega)
theorem u64_wraps (n : Int) (h0 : 0 ≤ n) (h1 : n < 2 ^ 64) : IntKind.u64.wrap n = n := by
  simp only [IntKind.wrap, IntKind.bits, IntKind.signed, Bool.false_and, Bool.false_eq_true, if_false]
  exact Int.emod_eq_of_lt h0 h1
theorem u64_and (a b : Nat) (ha : a < 2 ^ 64) (hb : b < 2 ^ 64) : Go.bits .and .u64 (a : Int) (b : Int) = ((a &&& b : Nat) : Int) := (bits_nat .u64 64 (by decide) u64_wraps a b ha hb).1
theorem u64_or (a b : Nat) (ha : a < 2 ^ 64) (hb : b < 2 ^ 64) : Go.bits .or .u64 (a : Int) (b : Int) = ((a ||| b : Nat) : Int) := (bits_nat .u64 64 (by decide) u64_wraps a b ha hb).2
theorem pow_cast (n : Nat) : ((2 ^ n : Nat) : Int) = 2 ^ n := by
  induction n with
  | zero => rfl
  | succ n ih => rw [Nat.pow_succ, Int.natCast_mul, ih, Int.pow_succ]; rfl
theorem shl_nat (x y : Nat) (hy : y ≤ 64) (h : x * 2 ^ y < 2 ^ 64) : shl .u64 (x : Int) (y : Int) = ((x * 2 ^ y : Nat) : Int) := by
  unfold shl
  have e : min ((y : Int)).toNat (IntKind.bits .u64) = y := by
    show min y 64 = y
    omega
  rw [e, ← pow_cast, ← Int.natCast_mul]
  exact u64_wraps _ (Int.natCast_nonneg _) (by exact_mod_cast h)
theorem mask_is (at_ n : Nat) (h : at_ + n ≤ 64) : image_mask.f (at_ : Int) (n : Int) = some ((Mk at_ n : Nat) : Int) := by
  have hlt := Mk_lt at_ n h
  unfold image_mask.f
  have he : Mk at_ n = (2 ^ n - 1) * 2 ^ at_ := Nat.shiftLeft_eq _ _
  by_cases hn : n = 64
  · obtain rfl : at_ = 0 := by omega
    subst hn
    rw [if_pos (by omega), if_pos (by omega)]
    rfl
  · rw [if_neg (by omega), if_pos (by omega), if_pos (by omega)]
    have hp : 0 < 2 ^ n := Nat.two_pow_pos n
    have h1 : 1 * 2 ^ n < 2 ^ 64 := by rw [Nat.one_mul]; exact Nat.pow_lt_pow_right (by decide) (by omega)
    have e1 := shl_nat 1 n (by omega) h1
    rw [show ((1 : Nat) : Int) = 1 from rfl] at e1
    rw [e1, show (((1 * 2 ^ n : Nat) : Int) - 1) = ((2 ^ n - 1 : Nat) : Int) by omega]
    rw [u64_wraps _ (Int.natCast_nonneg _) (by exact_mod_cast (by omega : 2 ^ n - 1 < 2 ^ 64))]
    rw [he] at hlt ⊢
    rw [shl_nat _ _ (by omega) hlt]

theorem and_zero (U at_ n : Nat) (h : at_ + n ≤ 64) : U &&& Mk at_ n = 0 ↔ ∀ m : Nat, at_ ≤ m → m < at_ + n → U.testBit m = false := by
  constructor
  · intro h0 m h1 h2
    have := congrArg (fun x => x.testBit m) h0
    simp only [Nat.testBit_and, Mk_bit, Nat.zero_testBit] at this
    rw [decide_eq_true ⟨h1, h2⟩, Bool.and_true] at this
    exact this
  · intro h0
    apply Nat.eq_of_testBit_eq
    intro m
    rw [Nat.testBit_and, Mk_bit, Nat.zero_testBit]
    by_cases hm : at_ ≤ m ∧ m < at_ + n
    · rw [h0 m hm.1 hm.2, Bool.false_and]
    · rw [decide_eq_false hm, Bool.and_false]

theorem any_take (sp : List S32) (i : Nat) (hi : i ≤ sp.length) (b : Int) : ((sp.take i).any fun x => x.f0 == b) = decide (∃ m : Nat, m < i ∧ (rd_T32 sp (m : Int)).f0 = b) := by
  have hg : ∀ m (hm : m < sp.length), rd_T32 sp (m : Int) = sp[m] := fun m hm => by
    unfold rd_T32
    rw [toNat_cast, List.getD_eq_getElem?_getD, List.getElem?_eq_getElem hm]
    rfl
  rw [Bool.eq_iff_iff, List.any_eq_true, decide_eq_true_eq]
  constructor
  · rintro ⟨x, hx, hb⟩
    obtain ⟨m, hm, rfl⟩ := List.getElem_of_mem hx
    rw [List.length_take] at hm
    refine ⟨m, by omega, ?_⟩
    rw [hg m (by omega)]
    rw [List.getElem_take] at hb
    exact beq_iff_eq.1 hb
  · rintro ⟨m, hm, hb⟩
    rw [hg m (by omega)] at hb
    exact ⟨sp[m], List.mem_iff_getElem.2 ⟨m, by rw [List.length_take]; omega, by rw [List.getElem_take]⟩, beq_iff_eq.2 hb⟩
/-! ### image: areas byte by byte -/
/-- Byte i of the inputs behind k values. -/
def Bf (local_ : Int) (own : ByteArray) (sp : List S32) (vs : List ByteArray) : Nat → Nat → Int
  | 0, i => if (i : Int) < local_ ∧ i < own.size then bt own (i : Int) else 0
  | k + 1, i => if (rd_T32 sp (k : Int)).f1 ≤ (i : Int) ∧ (i : Int) - (rd_T32 sp (k : Int)).f1 < ((rdOf ByteArray.empty vs (k : Int)).size : Int) then bt (rdOf ByteArray.empty vs (k : Int)) ((i : Int) - (rd_T32 sp (k : Int)).f1) else Bf local_ own sp vs k i
def X (local_ : Int) (own : ByteArray) (sp : List S32) (vs : List ByteArray) (k : Nat) : List Int := (List.range 64).map (Bf local_ own sp vs k)

theorem map64_get (f : Nat → Int) (i : Nat) : ((List.range 64).map f)[i]? = if i < 64 then some (f i) else none := by
  rw [List.getElem?_map]
  by_cases h : i < 64
  · rw [List.getElem?_range h, if_pos h]; rfl
  · rw [List.getElem?_eq_none (by simp; omega), if_neg h]; rfl

theorem put_X (local_ : Int) (own : ByteArray) (sp : List S32) (vs : List ByteArray) (k n : Nat) (h1 : -9223372036854775808 ≤ (rd_T32 sp (k : Int)).f1) (h2 : (rd_T32 sp (k : Int)).f1 ≤ 9223372036854775807) (h3 : (rdOf ByteArray.empty vs (k : Int)).size ≤ 9223372036854775807) :
    image_put.f n (X local_ own sp vs k) (rd_T32 sp (k : Int)).f1 (rdOf ByteArray.empty vs (k : Int)) = some (X local_ own sp vs (k + 1)) := by
  unfold image_put.f
  rw [if_pos ⟨h1, h2, h3⟩]
  refine congrArg some ?_
  apply List.ext_getElem?
  intro i
  rw [image_put.S_get]
  unfold X
  rw [map64_get, map64_get]
  by_cases h : i < 64
  · rw [if_pos h, if_pos h]; rfl
  · rw [if_neg h, if_neg h]; rfl

theorem put_zero (local_ : Int) (own : ByteArray) (sp : List S32) (vs : List ByteArray) (n : Nat) (m : Nat) (hs : own.size ≤ 9223372036854775807) (hm : m ≤ own.size) (hm2 : ∀ i : Nat, i < 64 → (i < m ↔ (i : Int) < local_ ∧ i < own.size)) :
    image_put.f n (List.replicate 64 0) 0 (own.extract 0 m) = some (X local_ own sp vs 0) := by
  unfold image_put.f
  rw [if_pos ⟨by omega, by omega, by rw [ByteArray.size_extract]; omega⟩]
  refine congrArg some ?_
  apply List.ext_getElem?
  intro i
  rw [image_put.S_get]
  unfold X
  rw [map64_get, List.getElem?_replicate]
  by_cases h : i < 64
  · rw [if_pos h, if_pos h]
    simp only [Option.map_some, Bf, ByteArray.size_extract]
    congr 1
    have := hm2 i h
    by_cases hc : i < m
    · rw [if_pos (by omega), if_pos (this.1 hc)]
      rw [show (i : Int) - 0 = (i : Int) by omega]
      unfold bt
      have e1 : ((i : Nat) : Int).toNat = i := rfl
      simp only [e1, ByteArray.size_extract]
      rw [dif_pos (by omega), dif_pos (by omega), ByteArray.getElem_extract]
      congr 2
      simp
    · rw [if_neg (by omega), if_neg (fun h => hc (this.2 h))]
  · rw [if_neg h, if_neg h]; rfl

theorem inputs_ev (local_ : Int) (own : ByteArray) (sp : List S32) (vs : List ByteArray) (hv : ∀ k : Nat, k < vs.length → (rdOf ByteArray.empty vs (k : Int)).size ≤ 100)
    (hs : ∀ k : Nat, k < sp.length → -9223372036854775808 ≤ (rd_T32 sp (k : Int)).f1 ∧ (rd_T32 sp (k : Int)).f1 ≤ 9223372036854775807) (n : Nat) (hn1 : n ≤ sp.length) (hn2 : n ≤ vs.length) (hn : n ≤ 1000) : ∀ d k : Nat, k + d = n →
    Ev (fun q => image_Inputs.l0 q sp vs (X local_ own sp vs k) (n : Int) (k : Int)) (strOfNums (X local_ own sp vs n))
  | 0, k, h => by
    obtain rfl : k = n := by omega
    exact Ev.step (fun q => rfl) (Ev.neg (by omega) (Ev.now _))
  | d + 1, k, h => by
    obtain ⟨b1, b2⟩ := hs k (by omega)
    have b3 := hv k (by omega)
    have hput : Ev (fun q => image_put.f q (X local_ own sp vs k) (rd_T32 sp (k : Int)).f1 (rdOf ByteArray.empty vs (k : Int))) (X local_ own sp vs (k + 1)) := ⟨0, fun q _ => put_X local_ own sp vs k q b1 b2 (by omega)⟩
    refine Ev.step (fun q => rfl) (Ev.pos (by omega) (Ev.pos (by omega) (Ev.pos (by omega) (Ev.pos (by omega) (Ev.bind hput ?_)))))
    rw [wrap64_nat (n := 100000) (by omega) (by omega)]
    exact inputs_ev local_ own sp vs hv hs n hn1 hn2 hn d (k + 1) (by omega)

/-- The reference's bytes while it is at byte i, which is v so far. -/
def Y (local_ : Int) (own : ByteArray) (sp : List S32) (vs : List ByteArray) (n i : Nat) (v : Int) : List Int := (List.range 64).map fun j => if j < i then Bf local_ own sp vs n j else if j = i then v else 0
theorem Y_len (local_ : Int) (own : ByteArray) (sp : List S32) (vs : List ByteArray) (n i : Nat) (v : Int) : (Y local_ own sp vs n i v).length = 64 := by simp [Y]
theorem Y_set (local_ : Int) (own : ByteArray) (sp : List S32) (vs : List ByteArray) (n i : Nat) (v u : Int) (hi : i < 64) : (Y local_ own sp vs n i v).set i u = Y local_ own sp vs n i u := by
  apply List.ext_getElem?
  intro j
  rw [List.getElem?_set]
  unfold Y
  rw [map64_get, map64_get]
  by_cases h : i = j
  · subst h
    rw [if_pos rfl, if_pos (by simp; omega), if_pos hi, if_neg (by omega), if_pos rfl]
  · rw [if_neg h]
    by_cases h2 : j < 64
    · rw [if_pos h2, if_pos h2, if_neg (c := j = i) (fun e => h e.symm), if_neg (c := j = i) (fun e => h e.symm)]
    · rw [if_neg h2, if_neg h2]
theorem Y_next (local_ : Int) (own : ByteArray) (sp : List S32) (vs : List ByteArray) (n i : Nat) : Y local_ own sp vs n i (Bf local_ own sp vs n i) = Y local_ own sp vs n (i + 1) 0 := by
  unfold Y
  apply List.map_congr_left
  intro j _
  by_cases h1 : j < i
  · rw [if_pos h1, if_pos (by omega)]
  · by_cases h2 : j = i
    · subst h2
      rw [if_neg h1, if_pos rfl, if_pos (by omega)]
    · rw [if_neg h1, if_neg h2, if_neg (by omega)]
      split <;> rfl
theorem Y_end (local_ : Int) (own : ByteArray) (sp : List S32) (vs : List ByteArray) (n : Nat) : Y local_ own sp vs n 64 0 = X local_ own sp vs n := by
  unfold Y X
  apply List.map_congr_left
  intro j hj
  rw [if_pos (List.mem_range.1 hj)]
theorem Y_begin (local_ : Int) (own : ByteArray) (sp : List S32) (vs : List ByteArray) (n : Nat) : Y local_ own sp vs n 0 0 = List.replicate 64 0 := by
  unfold Y
  apply List.ext_getElem?
  intro j
  rw [map64_get, List.getElem?_replicate]
  by_cases h : j < 64
  · rw [if_pos h, if_pos h, if_neg (by omega)]
    split <;> rfl
  · rw [if_neg h, if_neg h]

theorem byte_is (s : ByteArray) (i : Nat) : fuglemanref19_Byte.f s (i : Int) = some (if i < s.size then bt s (i : Int) else 0) := by
  unfold fuglemanref19_Byte.f
  rw [if_neg (by omega)]
  by_cases h : i < s.size
  · rw [if_neg (by omega), if_pos (by omega), if_pos (by omega), if_pos h]
  · rw [if_pos (by omega), if_neg h]
/-- The document's answer to 'which block': a function. -/
def fq (bl : List S34) (id : Int) : Int × Int × Int × Bool × Bool := match bl.find? (fun x => x.f0 == id) with
  | some x => (x.f0, x.f1, x.f2, x.f3, true)
  | none => (0, 0, 0, false, false)
theorem refFind_fq (bl : List S34) (id : Int) (hl : bl.length ≤ 140737488351232) : ∀ d i : Nat, i + d = bl.length → Ev (fun k => fuglemanref16_Find.l0 k bl id (i : Int)) (fq (bl.drop i) id)
  | 0, i, h => by
    rw [List.drop_of_length_le (by omega)]
    exact Ev.step (fun k => rfl) (Ev.neg (by omega) (Ev.now _))
  | d + 1, i, h => by
    have hi : i < bl.length := by omega
    have hg : rd_T34 bl (i : Int) = bl[i] := by
      unfold rd_T34
      rw [toNat_cast, List.getD_eq_getElem?_getD, List.getElem?_eq_getElem hi]
      rfl
    have ih := refFind_fq bl id hl d (i + 1) (by omega)
    rw [List.drop_eq_getElem_cons hi]
    unfold fq
    rw [List.find?_cons]
    by_cases e : (rd_T34 bl (i : Int)).f0 = id
    · refine Ev.to ?_ (Ev.step (fun k => rfl) (Ev.pos (by omega) (Ev.pos (by omega) (Ev.pos e (Ev.now _)))))
      rw [hg] at e ⊢
      rw [beq_iff_eq.2 e]
    · refine Ev.step (fun k => rfl) (Ev.pos (by omega) (Ev.pos (by omega) (Ev.neg e ?_)))
      rw [hg] at e
      rw [beq_eq_false_iff_ne.2 e, wrap64_nat (n := bl.length) (by omega) hl]
      exact ih
theorem find_fq (bl : List S34) (id : Int) (hl : bl.length ≤ 140737488351232) : Ev (fun k => blocks_Find.f k bl id) (fq bl id) ∧ Ev (fun k => fuglemanref16_Find.f k bl id) (fq bl id) := by
  obtain ⟨q, q1, q2⟩ := find_both bl id hl
  have h : Ev (fun k => fuglemanref16_Find.f k bl id) (fq bl id) := refFind_fq bl id hl bl.length 0 (by omega)
  rw [Ev.det q2 h] at q1
  exact ⟨q1, h⟩

section
variable (sp : List S32) (bl : List S34)
def atf (j : Nat) : Int := (rd_T32 sp (j : Int)).f1
def szf (j : Nat) : Int := (fq bl (rd_T32 sp (j : Int)).f0).2.2.1
/-- Byte m is of spot j. -/
def In (j m : Nat) : Prop := atf sp j ≤ (m : Int) ∧ (m : Int) < atf sp j + szf sp bl j
instance (j m : Nat) : Decidable (In sp bl j m) := by unfold In; infer_instance

theorem lay_ok (hl : sp.length ≤ 1000) (hbl : bl.length ≤ 1000) : ∀ (d i U : Nat), i + d = sp.length → U < 2 ^ 64 →
    ∃ r, Ev (fun k => image_lay.l0 k (U : Int) sp bl true sp (sp.length : Int) (i : Int)) r ∧
      (r.1 = 0 → (∀ j : Nat, i ≤ j → j < sp.length → 0 ≤ atf sp j ∧ 0 ≤ szf sp bl j ∧ atf sp j + szf sp bl j ≤ 64 ∧ (∀ m : Nat, In sp bl j m → U.testBit m = false)) ∧
        (∀ j j' m : Nat, i ≤ j → j < j' → j' < sp.length → In sp bl j m → ¬ In sp bl j' m))
  | 0, i, U, h, _ => ⟨(0, 0), Ev.step (fun k => rfl) (Ev.neg (by omega) (Ev.now _)), fun _ => ⟨fun j h1 h2 => by omega, fun j j' m h1 h2 h3 => by omega⟩⟩
  | d + 1, i, U, h, hU => by
    obtain ⟨q1, _⟩ := find_fq bl (rd_T32 sp (i : Int)).f0 (by omega)
    have hsz : szf sp bl i = (fq bl (rd_T32 sp (i : Int)).f0).2.2.1 := rfl
    have hatf : atf sp i = (rd_T32 sp (i : Int)).f1 := rfl
    have hw : wrap64 ((i : Int) + 1) = ((i + 1 : Nat) : Int) := wrap64_nat (n := 10000) (by omega) (by omega)
    generalize fq bl (rd_T32 sp (i : Int)).f0 = q at *
    obtain ⟨f0, f1, f2, f3, ok⟩ := q
    have hsz : szf sp bl i = f2 := hsz
    have stop : ∀ c : Int, c ≠ 0 → Ev (fun k => image_spot.f k sp (i : Int) bl) (f0, f1, f2, f3, c) → ∃ r, Ev (fun k => image_lay.l0 k (U : Int) sp bl true sp (sp.length : Int) (i : Int)) r ∧ (r.1 = 0 → (∀ j : Nat, i ≤ j → j < sp.length → 0 ≤ atf sp j ∧ 0 ≤ szf sp bl j ∧ atf sp j + szf sp bl j ≤ 64 ∧ (∀ m : Nat, In sp bl j m → U.testBit m = false)) ∧ (∀ j j' m : Nat, i ≤ j → j < j' → j' < sp.length → In sp bl j m → ¬ In sp bl j' m)) := fun c hc hs =>
      ⟨(c, (i : Int)), Ev.step (fun k => rfl) (Ev.pos (by omega) (Ev.pos (by omega) (Ev.pos (by omega) (Ev.bind hs (Ev.neg hc (Ev.now _)))))), fun h0 => absurd h0 hc⟩
    have spot0 : ∀ c : Int, (ok = true → Ev (fun k => (api_Spot_21.f k (sp.take i) ((rd_T32 sp (i : Int)).f0)).bind fun t => (if t = true then (some (f0, f1, f2, f3, (14 : Int))) else (if ((rd_T32 sp (i : Int)).f1) < 0 then (some (f0, f1, f2, f3, 2)) else (if ((rd_T32 sp (i : Int)).f1) > 64 then (some (f0, f1, f2, f3, 2)) else (if f2 < 0 then (some (f0, f1, f2, f3, 2)) else (if f2 > (wrap64 (64 - ((rd_T32 sp (i : Int)).f1))) then (some (f0, f1, f2, f3, 2)) else (some (f0, f1, f2, f3, 0)))))))) (f0, f1, f2, f3, c)) → (ok = false → c = 5) →
        Ev (fun k => image_spot.f k sp (i : Int) bl) (f0, f1, f2, f3, c) := fun c h1 h2 => by
      refine Ev.pos (by omega) (Ev.pos (by omega) (Ev.bind q1 (Ev.ite (fun hok => Ev.pos (by omega) ?_) (fun hok => ?_))))
      · rw [toNat_cast]
        exact h1 hok
      · rw [h2 (Bool.eq_false_iff.2 hok)]
        exact Ev.now _
    by_cases hok : ok = true
    · have hany : ∃ t, ∀ k, api_Spot_21.f k (sp.take i) ((rd_T32 sp (i : Int)).f0) = some t := ⟨_, fun k => rfl⟩
      obtain ⟨t, ht⟩ := hany
      have hnot : ok = false → ∀ c : Int, c = 5 := fun e => absurd hok (by rw [e]; simp)
      by_cases htt : t = true
      · exact stop 14 (by omega) (spot0 14 (fun _ => Ev.bind ⟨0, fun k _ => ht k⟩ (Ev.pos htt (Ev.now _))) (fun e => hnot e _))
      · by_cases hlim : (rd_T32 sp (i : Int)).f1 < 0 ∨ (rd_T32 sp (i : Int)).f1 > 64 ∨ f2 < 0 ∨ f2 > 64 - (rd_T32 sp (i : Int)).f1
        · refine stop 2 (by omega) (spot0 2 (fun _ => Ev.bind ⟨0, fun k _ => ht k⟩ (Ev.neg htt (Ev.ite (fun _ => Ev.now _) fun a1 => Ev.ite (fun _ => Ev.now _) fun a2 => Ev.ite (fun _ => Ev.now _) fun a3 => Ev.pos ?_ (Ev.now _)))) (fun e => hnot e _))
          rw [wrap64_in (by omega) (by omega)]
          omega
        · obtain ⟨at_, hat⟩ := Int.eq_ofNat_of_zero_le (show 0 ≤ (rd_T32 sp (i : Int)).f1 by omega)
          obtain ⟨n, hn⟩ := Int.eq_ofNat_of_zero_le (show 0 ≤ f2 by omega)
          subst hn
          have han : at_ + n ≤ 64 := by omega
          have hspot : Ev (fun k => image_spot.f k sp (i : Int) bl) (f0, f1, (n : Int), f3, 0) := spot0 0 (fun _ => Ev.bind ⟨0, fun k _ => ht k⟩ (Ev.neg htt (Ev.neg (by omega) (Ev.neg (by omega) (Ev.neg (by omega) (Ev.neg (by rw [wrap64_in (by omega) (by omega)]; omega) (Ev.now _))))))) (fun e => hnot e _)
          have hmask := mask_is at_ n han
          have hor := u64_or U (Mk at_ n) hU (Mk_lt _ _ han)
          have hand := u64_and U (Mk at_ n) hU (Mk_lt _ _ han)
          have hin : ∀ m : Nat, In sp bl i m ↔ at_ ≤ m ∧ m < at_ + n := fun m => by
            unfold In
            rw [hatf, hat, hsz]
            omega
          by_cases hz : U &&& Mk at_ n = 0
          · obtain ⟨r, ra, rb⟩ := lay_ok hl hbl d (i + 1) (U ||| Mk at_ n) (by omega) (Nat.or_lt_two_pow hU (Mk_lt _ _ han))
            refine ⟨r, ?_, fun h0 => ?_⟩
            · refine Ev.step (fun k => rfl) (Ev.pos (by omega) (Ev.pos (by omega) (Ev.pos (by omega) (Ev.bind hspot (Ev.pos rfl ?_)))))
              rw [hat]
              refine Ev.bindS hmask ?_
              rw [hor, hw]
              refine Ev.pos rfl (Ev.pos ?_ ra)
              rw [hand, hz]
              rfl
            · obtain ⟨r1, r2⟩ := rb h0
              have hbit := (and_zero U at_ n han).1 hz
              refine ⟨fun j h1 h2 => ?_, fun j j' m h1 h2 h3 h4 h5 => ?_⟩
              · by_cases e : j = i
                · subst e
                  refine ⟨by rw [hatf]; omega, by rw [hsz]; omega, by rw [hatf, hsz]; omega, fun m hm => ?_⟩
                  have := (hin m).1 hm
                  exact hbit m this.1 this.2
                · obtain ⟨s1, s2, s3, s4⟩ := r1 j (by omega) h2
                  refine ⟨s1, s2, s3, fun m hm => ?_⟩
                  have := s4 m hm
                  rw [Nat.testBit_or, Bool.or_eq_false_iff] at this
                  exact this.1
              · by_cases e : j = i
                · subst e
                  obtain ⟨_, _, _, s4⟩ := r1 j' (Nat.succ_le_of_lt h2) h3
                  have h6 := s4 m h5
                  rw [Nat.testBit_or, Bool.or_eq_false_iff, Mk_bit] at h6
                  have := of_decide_eq_false h6.2
                  exact this ((hin m).1 h4)
                · exact r2 j j' m (by omega) h2 h3 h4 h5
          · refine ⟨(15, (i : Int)), ?_, fun h0 => absurd h0 (by show ¬ (15 : Int) = 0; omega)⟩
            refine Ev.step (fun k => rfl) (Ev.pos (by omega) (Ev.pos (by omega) (Ev.pos (by omega) (Ev.bind hspot (Ev.pos rfl ?_)))))
            rw [hat]
            refine Ev.bindS hmask (Ev.pos rfl (Ev.neg ?_ (Ev.now _)))
            rw [hand]
            omega
    · exact stop 5 (by omega) (spot0 5 (fun e => absurd e hok) (fun _ => rfl))
end

theorem bt_str (xs : List Int) (i : Nat) (hi : i < xs.length) (h0 : 0 ≤ xs[i]) (h1 : xs[i] < 256) : bt (strOfNums xs) (i : Int) = xs[i] := by
  unfold bt
  have hs : i < (strOfNums xs).size := by rw [strOfNums_size]; exact hi
  rw [dif_pos (show ((i : Int)).toNat < _ from hs)]
  have e : ((strOfNums xs)[i]'hs) = UInt8.ofNat (xs[i]).toNat := by
    show (strOfNums xs).data[i]'hs = _
    simp [strOfNums]
  show (((strOfNums xs)[i]'hs).toNat : Int) = _
  rw [e]
  show (((xs[i]).toNat % 256 : Nat) : Int) = _
  omega

theorem str_ext {a b : ByteArray} (hs : a.size = b.size) (h : ∀ i : Nat, i < a.size → bt a (i : Int) = bt b (i : Int)) : a = b := by
  apply ByteArray.ext_getElem hs
  intro i hi hi'
  have := h i hi
  unfold bt at this
  rw [dif_pos (show ((i : Int)).toNat < _ from hi), dif_pos (show ((i : Int)).toNat < _ from hi')] at this
  have h2 : (a[i]'hi).toNat = (b[i]'hi').toNat := by exact_mod_cast this
  exact UInt8.toNat_inj.1 h2

section
variable (sp : List S32) (bl : List S34)
/-- Byte k of spot j's value, and the value. -/
def vb (j k : Nat) : Int := ((1 + 16 * j + k % 16 : Nat) : Int)
def Vj (j : Nat) : ByteArray := strOfNums ((List.range (szf sp bl j).toNat).map (vb j))
def Vs (n : Nat) : List ByteArray := (List.range n).map (Vj sp bl)
theorem Vj_size (j : Nat) : (Vj sp bl j).size = (szf sp bl j).toNat := by
  unfold Vj
  rw [strOfNums_size, List.length_map, List.length_range]
theorem Vj_bt (j k : Nat) (hj : j < 15) (hk : k < (szf sp bl j).toNat) : bt (Vj sp bl j) (k : Int) = vb j k := by
  unfold Vj
  rw [bt_str _ k (by simpa using hk) (by simp [vb]; omega) (by simp [vb]; omega)]
  simp
theorem Vs_rd (n j : Nat) (hj : j < n) : rdOf ByteArray.empty (Vs sp bl n) (j : Int) = Vj sp bl j := by
  unfold rdOf Vs
  rw [toNat_cast, List.getD_eq_getElem?_getD, List.getElem?_map, List.getElem?_range hj]
  rfl
theorem Vs_len (n : Nat) : (Vs sp bl n).length = n := by simp [Vs]

/-- Where each byte is of one spot at most: what is in the inputs. -/
theorem Bf_in (local_ : Int) (own : ByteArray) (n : Nat) (hn : n ≤ 15) (hd : ∀ j j' m : Nat, j < j' → j' < n → In sp bl j m → ¬ In sp bl j' m) (hs : ∀ j, j < n → 0 ≤ szf sp bl j) : ∀ k m : Nat, k ≤ n →
    (∀ j, j < k → In sp bl j m → Bf local_ own sp (Vs sp bl n) k m = vb j ((m : Int) - atf sp j).toNat) ∧ ((∀ j, j < k → ¬ In sp bl j m) → Bf local_ own sp (Vs sp bl n) k m = Bf local_ own sp (Vs sp bl n) 0 m)
  | 0, m, _ => ⟨fun j hj => by omega, fun _ => rfl⟩
  | k + 1, m, hk => by
    obtain ⟨i1, i2⟩ := Bf_in local_ own n hn hd hs k m (by omega)
    have hB : Bf local_ own sp (Vs sp bl n) (k + 1) m = if (rd_T32 sp (k : Int)).f1 ≤ (m : Int) ∧ (m : Int) - (rd_T32 sp (k : Int)).f1 < ((rdOf ByteArray.empty (Vs sp bl n) (k : Int)).size : Int) then bt (rdOf ByteArray.empty (Vs sp bl n) (k : Int)) ((m : Int) - (rd_T32 sp (k : Int)).f1) else Bf local_ own sp (Vs sp bl n) k m := rfl
    rw [Vs_rd sp bl n k (by omega), Vj_size] at hB
    have hsk := hs k (by omega)
    have hiff : ((rd_T32 sp (k : Int)).f1 ≤ (m : Int) ∧ (m : Int) - (rd_T32 sp (k : Int)).f1 < (((szf sp bl k).toNat : Nat) : Int)) ↔ In sp bl k m := by
      unfold In atf
      omega
    have hhit : In sp bl k m → Bf local_ own sp (Vs sp bl n) (k + 1) m = vb k ((m : Int) - atf sp k).toNat := fun h => by
      rw [hB, if_pos (hiff.2 h)]
      have h2 := Vj_bt sp bl k ((m : Int) - atf sp k).toNat (by omega) (by unfold In at h; omega)
      rw [← h2]
      congr 1
      unfold In atf at *
      omega
    refine ⟨fun j hj hin => ?_, fun hno => ?_⟩
    · by_cases e : j = k
      · rw [e] at hin ⊢
        exact hhit hin
      · rw [hB, if_neg (fun h => hd j k m (by omega) (by omega) hin (hiff.1 h))]
        exact i1 j (by omega) hin
    · rw [hB, if_neg (fun h => hno k (by omega) (hiff.1 h))]
      exact i2 (fun j hj => hno j (by omega))

/-- How many of the 64 bytes are of the first k spots. -/
def cnt (p : Nat → Bool) : Nat := (List.range 64).countP p
theorem cnt_or (p q : Nat → Bool) (h : ∀ m, m < 64 → p m = true → q m = false) : cnt (fun m => p m || q m) = cnt p + cnt q := by
  unfold cnt
  have : ∀ l : List Nat, (∀ m, m ∈ l → m < 64) → l.countP (fun m => p m || q m) = l.countP p + l.countP q := by
    intro l
    induction l with
    | nil => intro _; rfl
    | cons x r ih =>
      intro hl
      rw [List.countP_cons, List.countP_cons, List.countP_cons, ih (fun m hm => hl m (List.mem_cons_of_mem _ hm))]
      cases hp : p x with
      | true =>
        rw [h x (hl x List.mem_cons_self) hp]
        simp
        omega
      | false =>
        cases q x <;> simp <;> omega
  exact this _ (fun m hm => List.mem_range.1 hm)
theorem countP_range (a b n : Nat) : (List.range n).countP (fun m => decide (a ≤ m ∧ m < b)) = min b n - min a n := by
  induction n with
  | zero => simp
  | succ n ih =>
    rw [List.range_succ, List.countP_append, ih, List.countP_cons, List.countP_nil]
    by_cases h : a ≤ n ∧ n < b
    · rw [decide_eq_true h]
      simp
      omega
    · rw [decide_eq_false h]
      simp
      omega
def summ (n : Nat) : Nat := ((List.range n).map fun j => (szf sp bl j).toNat).sum
theorem cnt_in (n : Nat) (hs : ∀ j, j < n → 0 ≤ atf sp j ∧ 0 ≤ szf sp bl j ∧ atf sp j + szf sp bl j ≤ 64) (hd : ∀ j j' m : Nat, j < j' → j' < n → In sp bl j m → ¬ In sp bl j' m) : ∀ k, k ≤ n →
    cnt (fun m => decide (∃ j, j < k ∧ In sp bl j m)) = summ sp bl k
  | 0, _ => by
    unfold cnt summ
    simp
  | k + 1, hk => by
    have ih := cnt_in n hs hd k (by omega)
    obtain ⟨s1, s2, s3⟩ := hs k (by omega)
    have h1 : cnt (fun m => decide (In sp bl k m)) = (szf sp bl k).toNat := by
      unfold cnt
      have := countP_range (atf sp k).toNat ((atf sp k).toNat + (szf sp bl k).toNat) 64
      rw [show (fun m => decide (In sp bl k m)) = fun m => decide ((atf sp k).toNat ≤ m ∧ m < (atf sp k).toNat + (szf sp bl k).toNat) from by
        funext m
        exact decide_eq_decide.2 (by unfold In; omega)]
      rw [this]
      omega
    have h2 : (fun m => decide (∃ j, j < k + 1 ∧ In sp bl j m)) = fun m => decide (∃ j, j < k ∧ In sp bl j m) || decide (In sp bl k m) := by
      funext m
      rw [← Bool.decide_or]
      refine decide_eq_decide.2 ⟨fun ⟨j, h, h'⟩ => ?_, fun h => ?_⟩
      · by_cases e : j = k
        · exact Or.inr (e ▸ h')
        · exact Or.inl ⟨j, by omega, h'⟩
      · rcases h with ⟨j, h, h'⟩ | h
        · exact ⟨j, by omega, h'⟩
        · exact ⟨k, by omega, h⟩
    rw [h2, cnt_or _ _ (fun m _ hp => ?_), ih, h1]
    · unfold summ
      rw [List.range_succ, List.map_append, List.sum_append]
      simp
    · obtain ⟨j, hj, hin⟩ := of_decide_eq_true hp
      exact decide_eq_false (hd j k m hj (by omega) hin)
theorem summ_le (n : Nat) (hs : ∀ j, j < n → 0 ≤ atf sp j ∧ 0 ≤ szf sp bl j ∧ atf sp j + szf sp bl j ≤ 64) (hd : ∀ j j' m : Nat, j < j' → j' < n → In sp bl j m → ¬ In sp bl j' m) (k : Nat) (hk : k ≤ n) : summ sp bl k ≤ 64 := by
  rw [← cnt_in sp bl n hs hd k hk]
  unfold cnt
  have := List.countP_le_length (p := fun m => decide (∃ j, j < k ∧ In sp bl j m)) (l := List.range 64)
  rw [List.length_range] at this
  exact this
end

theorem own_size : (⟨#[102, 117, 103, 108, 101, 109, 97, 110, 44, 32, 97, 32, 115, 116, 97, 116, 105, 111, 110, 32, 111, 102, 32, 97, 32, 114, 105, 110, 103]⟩ : ByteArray).size = 29 := rfl

section
variable (L : Nat) (sp : List S32) (bl : List S34) (own : ByteArray) (hown : own.size = 29) (hL : L ≤ 64) (hn : sp.length ≤ 15) (hbl : bl.length ≤ 16)
  (hs : ∀ j, j < sp.length → 0 ≤ atf sp j ∧ 0 ≤ szf sp bl j ∧ atf sp j + szf sp bl j ≤ 64) (hd : ∀ j j' m : Nat, j < j' → j' < sp.length → In sp bl j m → ¬ In sp bl j' m) (hlo : ∀ j m : Nat, j < sp.length → In sp bl j m → L ≤ m)
/-- The inputs. -/
def area : ByteArray := strOfNums (X (L : Int) own sp (Vs sp bl sp.length) sp.length)
theorem area_size : (area L sp bl own).size = 64 := by
  unfold area X
  rw [strOfNums_size, List.length_map, List.length_range]
theorem own_range (m : Nat) : 0 ≤ Bf (L : Int) own sp (Vs sp bl sp.length) 0 m ∧ Bf (L : Int) own sp (Vs sp bl sp.length) 0 m ≤ 255 := by
  show 0 ≤ (if (m : Int) < (L : Int) ∧ m < own.size then bt own (m : Int) else 0) ∧ (if (m : Int) < (L : Int) ∧ m < own.size then bt own (m : Int) else 0) ≤ 255
  split
  · exact bt_range own m
  · omega
include hn hs hd
theorem area_bt (m : Nat) (hm : m < 64) : bt (area L sp bl own) (m : Int) = Bf (L : Int) own sp (Vs sp bl sp.length) sp.length m := by
  obtain ⟨b1, b2⟩ := Bf_in sp bl (L : Int) own sp.length hn hd (fun j hj => (hs j hj).2.1) sp.length m (Nat.le_refl _)
  have hr : 0 ≤ Bf (L : Int) own sp (Vs sp bl sp.length) sp.length m ∧ Bf (L : Int) own sp (Vs sp bl sp.length) sp.length m < 256 := by
    by_cases h : ∃ j, j < sp.length ∧ In sp bl j m
    · obtain ⟨j, hj, hin⟩ := h
      rw [b1 j hj hin]
      unfold vb
      omega
    · rw [b2 (fun j hj hin => h ⟨j, hj, hin⟩)]
      have := own_range L sp bl own m
      omega
  unfold area
  rw [bt_str _ m (by simp [X]; exact hm) (by simp [X]; exact hr.1) (by simp [X]; exact hr.2)]
  simp [X]

set_option linter.unusedSectionVars false in
theorem l4_ev (count : Int) (hcount : count = ((summ sp bl sp.length : Nat) : Int)) (hlo : ∀ j m : Nat, j < sp.length → In sp bl j m → L ≤ m) (hL : L ≤ 64) : ∀ (d k z : Nat), k + d = 64 → L ≤ k → z + (List.range 64).countP (fun m => decide (k ≤ m) && decide (bt (area L sp bl own) (m : Int) = 0)) = 64 - L - summ sp bl sp.length →
    (∀ m : Nat, L ≤ m → m < 64 → (bt (area L sp bl own) (m : Int) = 0 ↔ ¬ ∃ j, j < sp.length ∧ In sp bl j m)) →
    Ev (fun q => fuglemanlaw19_ImageApart.l4 q (L : Int) (area L sp bl own) count (z : Int) (k : Int)) true := by
  have hsum := summ_le sp bl sp.length hs hd sp.length (Nat.le_refl _)
  have hsumL : L + summ sp bl sp.length ≤ 64 := by
    rw [← cnt_in sp bl sp.length hs hd sp.length (Nat.le_refl _)]
    have h1 := cnt_or (fun m => decide (0 ≤ m ∧ m < L)) (fun m => decide (∃ j, j < sp.length ∧ In sp bl j m)) (fun m _ h => by
      refine decide_eq_false (fun ⟨j, hj, hin⟩ => ?_)
      have := hlo j m hj hin
      have := of_decide_eq_true h
      omega)
    have h2 : cnt (fun m => decide (0 ≤ m ∧ m < L)) = L := by
      unfold cnt
      rw [countP_range]
      omega
    have h3 : cnt (fun m => decide (0 ≤ m ∧ m < L) || decide (∃ j, j < sp.length ∧ In sp bl j m)) ≤ 64 := by
      unfold cnt
      have := List.countP_le_length (p := fun m => decide (0 ≤ m ∧ m < L) || decide (∃ j, j < sp.length ∧ In sp bl j m)) (l := List.range 64)
      rw [List.length_range] at this
      exact this
    omega
  intro d
  induction d with
  | zero =>
    intro k z hk hLk hz hb
    obtain rfl : k = 64 := by omega
    have h0 : (List.range 64).countP (fun m : Nat => decide (64 ≤ m) && decide (bt (area L sp bl own) (m : Int) = 0)) = 0 := by
      rw [List.countP_eq_zero]
      intro m hm
      have := List.mem_range.1 hm
      simp
      omega
    rw [h0, Nat.add_zero] at hz
    refine Ev.step (fun q => rfl) (Ev.neg (by omega) (Ev.pos (by rw [area_size]; rfl) ?_))
    refine Ev.to ?_ (Ev.now _)
    rw [beq_iff_eq, wrap64_in (x := 64 - (L : Int)) (by omega) (by omega), wrap64_in (by omega) (by omega), hcount]
    omega
  | succ d ih =>
    intro k z hk hLk hz hb
    have hwk : wrap64 ((k : Int) + 1) = ((k + 1 : Nat) : Int) := wrap64_nat (n := 1000) (by omega) (by omega)
    -- one place less
    have hone : (List.range 64).countP (fun m => decide (k ≤ m) && decide (bt (area L sp bl own) (m : Int) = 0)) = (if bt (area L sp bl own) (k : Int) = 0 then 1 else 0) + (List.range 64).countP (fun m => decide (k + 1 ≤ m) && decide (bt (area L sp bl own) (m : Int) = 0)) := by
      have h1 := cnt_or (fun m => decide (k ≤ m ∧ m < k + 1) && decide (bt (area L sp bl own) (m : Int) = 0)) (fun m => decide (k + 1 ≤ m) && decide (bt (area L sp bl own) (m : Int) = 0)) (fun m _ h => by
        rw [Bool.and_eq_true] at h
        have := of_decide_eq_true h.1
        rw [decide_eq_false (by omega), Bool.false_and])
      have h2 : cnt (fun m => decide (k ≤ m ∧ m < k + 1) && decide (bt (area L sp bl own) (m : Int) = 0)) = if bt (area L sp bl own) (k : Int) = 0 then 1 else 0 := by
        have h3 := countP_range k (k + 1) 64
        by_cases hc : bt (area L sp bl own) (k : Int) = 0
        · rw [if_pos hc]
          unfold cnt
          rw [show (fun m : Nat => decide (k ≤ m ∧ m < k + 1) && decide (bt (area L sp bl own) (m : Int) = 0)) = fun m : Nat => decide (k ≤ m ∧ m < k + 1) from by
            funext m
            by_cases e : m = k
            · rw [e, decide_eq_true hc, Bool.and_true]
            · rw [decide_eq_false (by omega), Bool.false_and]]
          rw [h3]
          omega
        · rw [if_neg hc]
          unfold cnt
          rw [List.countP_eq_zero]
          intro m _
          by_cases e : m = k
          · rw [e, decide_eq_false hc, Bool.and_false]
            simp
          · rw [decide_eq_false (by omega), Bool.false_and]
            simp
      unfold cnt at h1 h2
      rw [← h2, ← h1]
      congr 1
      funext m
      rw [← Bool.and_or_distrib_right, ← Bool.decide_or]
      congr 1
      exact decide_eq_decide.2 (by omega)
    have hle := List.countP_le_length (p := fun m => decide (k + 1 ≤ m) && decide (bt (area L sp bl own) (m : Int) = 0)) (l := List.range 64)
    rw [List.length_range] at hle
    refine Ev.step (fun q => rfl) (Ev.pos (by omega) (Ev.pos (by omega) (Ev.pos (by rw [area_size]; omega) (Ev.ite (fun hc => ?_) (fun hc => ?_)))))
    · rw [if_pos hc] at hone
      rw [hwk, wrap64_nat (i := z) (n := 1000) (by omega) (by omega)]
      exact ih (k + 1) (z + 1) (by omega) (by omega) (by omega) hb
    · rw [if_neg hc] at hone
      rw [hwk]
      exact ih (k + 1) z (by omega) (by omega) (by omega) hb
end

theorem l3_own (L : Nat) (sp : List S32) (bl : List S34) (own : ByteArray) (hown : own.size = 29) (hL : L ≤ 64) (hn : sp.length ≤ 15)
  (hs : ∀ j, j < sp.length → 0 ≤ atf sp j ∧ 0 ≤ szf sp bl j ∧ atf sp j + szf sp bl j ≤ 64) (hd : ∀ j j' m : Nat, j < j' → j' < sp.length → In sp bl j m → ¬ In sp bl j' m) (hlo : ∀ j m : Nat, j < sp.length → In sp bl j m → L ≤ m) : ∀ (d k : Nat), k + d = L →
    Ev (fun q => fuglemanlaw19_ImageApart.l3 q (L : Int) own (area L sp bl own) ((summ sp bl sp.length : Nat) : Int) (L : Int) (k : Int)) true
  | 0, k, h => by
    obtain rfl : k = L := by omega
    refine Ev.step (fun q => rfl) (Ev.neg (by omega) ?_)
    have hb : ∀ m : Nat, k ≤ m → m < 64 → (bt (area k sp bl own) (m : Int) = 0 ↔ ¬ ∃ j, j < sp.length ∧ In sp bl j m) := fun m h1 h2 => by
      rw [area_bt k sp bl own hn hs hd m h2]
      obtain ⟨b1, b2⟩ := Bf_in sp bl (k : Int) own sp.length hn hd (fun j hj => (hs j hj).2.1) sp.length m (Nat.le_refl _)
      constructor
      · rintro h0 ⟨j, hj, hin⟩
        rw [b1 j hj hin] at h0
        unfold vb at h0
        omega
      · intro hno
        rw [b2 (fun j hj hin => hno ⟨j, hj, hin⟩)]
        show (if (m : Int) < (k : Int) ∧ m < own.size then _ else _) = _
        rw [if_neg (by omega)]
    refine l4_ev k sp bl own hn hs hd _ rfl hlo hL (64 - k) k 0 (by omega) (Nat.le_refl _) ?_ hb
    -- the zeros are those of no spot
    have h1 := cnt_or (fun m => decide (k ≤ m) && decide (bt (area k sp bl own) (m : Int) = 0)) (fun m => decide (∃ j, j < sp.length ∧ In sp bl j m)) (fun m hm hp => by
      rw [Bool.and_eq_true] at hp
      exact decide_eq_false ((hb m (of_decide_eq_true hp.1) hm).1 (of_decide_eq_true hp.2)))
    rw [cnt_in sp bl sp.length hs hd sp.length (Nat.le_refl _)] at h1
    have h2 : cnt (fun m => (decide (k ≤ m) && decide (bt (area k sp bl own) (m : Int) = 0)) || decide (∃ j, j < sp.length ∧ In sp bl j m)) = 64 - k := by
      have h3 := countP_range k 64 64
      have h4 : cnt (fun m => (decide (k ≤ m) && decide (bt (area k sp bl own) (m : Int) = 0)) || decide (∃ j, j < sp.length ∧ In sp bl j m)) = (List.range 64).countP (fun m => decide (k ≤ m ∧ m < 64)) := by
        unfold cnt
        apply List.countP_congr
        intro m hm
        have hm := List.mem_range.1 hm
        rw [← Bool.decide_and, ← Bool.decide_or, decide_eq_true_eq, decide_eq_true_eq]
        constructor
        · rintro (⟨h, _⟩ | ⟨j, hj, hin⟩)
          · exact ⟨h, hm⟩
          · exact ⟨hlo j m hj hin, hm⟩
        · rintro ⟨h, _⟩
          by_cases hx : ∃ j, j < sp.length ∧ In sp bl j m
          · exact Or.inr hx
          · exact Or.inl ⟨h, (hb m h hm).2 hx⟩
      rw [h4, h3]
      omega
    unfold cnt at h1 h2
    omega
  | d + 1, k, h => by
    have hb : bt (area L sp bl own) (k : Int) = if k < own.size then bt own (k : Int) else 0 := by
      rw [area_bt L sp bl own hn hs hd k (by omega)]
      obtain ⟨_, b2⟩ := Bf_in sp bl (L : Int) own sp.length hn hd (fun j hj => (hs j hj).2.1) sp.length k (Nat.le_refl _)
      rw [b2 (fun j hj hin => by have := hlo j k hj hin; omega)]
      show (if (k : Int) < (L : Int) ∧ k < own.size then _ else _) = _
      by_cases hc : k < own.size
      · rw [if_pos ⟨by omega, hc⟩, if_pos hc]
      · rw [if_neg (fun h => hc h.2), if_neg hc]
    refine Ev.step (fun q => rfl) (Ev.pos (by omega) (Ev.pos (by omega) (Ev.pos (by rw [area_size]; omega) (Ev.bindS (byte_is own k) (Ev.pos hb ?_)))))
    rw [wrap64_nat (n := 1000) (by omega) (by omega)]
    exact l3_own L sp bl own hown hL hn hs hd hlo d (k + 1) (by omega)

theorem l2_vals (L : Nat) (sp : List S32) (bl : List S34) (own : ByteArray) (hown : own.size = 29) (hL : L ≤ 64) (hn : sp.length ≤ 15)
  (hs : ∀ j, j < sp.length → 0 ≤ atf sp j ∧ 0 ≤ szf sp bl j ∧ atf sp j + szf sp bl j ≤ 64) (hd : ∀ j j' m : Nat, j < j' → j' < sp.length → In sp bl j m → ¬ In sp bl j' m) (hlo : ∀ j m : Nat, j < sp.length → In sp bl j m → L ≤ m) : ∀ (d k : Nat), k + d = sp.length →
    Ev (fun q => fuglemanlaw19_ImageApart.l2 q (L : Int) own (Vs sp bl sp.length) (area L sp bl own) ((summ sp bl k : Nat) : Int) sp (sp.length : Int) (k : Int)) true
  | 0, k, h => by
    obtain rfl : k = sp.length := by omega
    exact Ev.step (fun q => rfl) (Ev.neg (by omega) (l3_own L sp bl own hown hL hn hs hd hlo L 0 (by omega)))
  | d + 1, k, h => by
    obtain ⟨s1, s2, s3⟩ := hs k (by omega)
    have hsum := summ_le sp bl sp.length hs hd k (by omega)
    have hval : Ev (fun q => image_Value.f q (area L sp bl own) ((rd_T32 sp (k : Int)).f1) ((rdOf ByteArray.empty (Vs sp bl sp.length) (k : Int)).size : Int)) (Vj sp bl k) := by
      refine ⟨0, fun q _ => ?_⟩
      have ha : (rd_T32 sp (k : Int)).f1 = atf sp k := rfl
      rw [Vs_rd sp bl _ k (by omega), Vj_size, ha]
      unfold image_Value.f
      rw [if_pos ⟨by omega, by omega, by rw [area_size]; omega⟩]
      refine congrArg some ?_
      have hm : (mn (mx (((szf sp bl k).toNat : Nat) : Int) 0) 64).toNat = (szf sp bl k).toNat := by
        unfold mn mx
        (repeat' split) <;> omega
      rw [hm]
      apply congrArg strOfNums
      apply List.ext_getElem?
      intro i
      rw [image_put.S_get, List.getElem?_replicate, List.getElem?_map]
      by_cases hi : i < (szf sp bl k).toNat
      · rw [if_pos hi, List.getElem?_range hi, Option.map_some, Option.map_some]
        rw [if_pos ⟨by omega, by rw [area_size]; omega⟩]
        congr 1
        obtain ⟨at_, hat⟩ := Int.eq_ofNat_of_zero_le s1
        rw [hat, show (i : Int) - -(at_ : Int) = ((at_ + i : Nat) : Int) by omega]
        rw [area_bt L sp bl own hn hs hd (at_ + i) (by omega)]
        obtain ⟨b1, _⟩ := Bf_in sp bl (L : Int) own sp.length hn hd (fun j hj => (hs j hj).2.1) sp.length (at_ + i) (Nat.le_refl _)
        rw [b1 k (by omega) (by unfold In; omega), hat]
        congr 1
        omega
      · rw [if_neg hi, List.getElem?_eq_none (by simp; omega)]
        rfl
    refine Ev.step (fun q => rfl) (Ev.pos (by omega) (Ev.pos (by omega) (Ev.pos (by omega) (Ev.pos (by rw [Vs_len]; omega) (Ev.bind hval (Ev.pos (by rw [Vs_rd sp bl _ k (by omega)]) ?_))))))
    rw [Vs_rd sp bl _ k (by omega), Vj_size, wrap64_nat (i := k) (n := 1000) (by omega) (by omega)]
    have hnext : ((summ sp bl (k + 1) : Nat) : Int) = ((summ sp bl k : Nat) : Int) + (((szf sp bl k).toNat : Nat) : Int) := by
      unfold summ
      rw [List.range_succ, List.map_append, List.sum_append]
      simp
    rw [wrap64_in (by omega) (by omega), ← hnext]
    exact l2_vals L sp bl own hown hL hn hs hd hlo d (k + 1) (by omega)

theorem l1_fill (L : Nat) (sp : List S32) (bl : List S34) (own : ByteArray) (j : Nat) (hj : j < 15) (vs : List ByteArray) (hvs : vs.length ≤ 15) (n : Nat) (hn : n ≤ 64)
  (hnext : Ev (fun q => fuglemanlaw19_ImageApart.l0 q (L : Int) sp bl own (vs ++ [strOfNums ((List.range n).map (vb j))]) sp (sp.length : Int) (wrap64 ((j : Int) + 1))) true) : ∀ (d k : Nat), k + d = n →
    Ev (fun q => fuglemanlaw19_ImageApart.l1 q (L : Int) sp bl own vs (j : Int) ((List.range n).map fun m => if m < k then vb j m else 0) sp (sp.length : Int) (j : Int) (n : Int) (k : Int)) true
  | 0, k, h => by
    obtain rfl : k = n := by omega
    refine Ev.step (fun q => rfl) (Ev.neg (by omega) (Ev.pos (by omega) ?_))
    have e : ((List.range k).map fun m => if m < k then vb j m else 0) = (List.range k).map (vb j) := by
      apply List.map_congr_left
      intro m hm
      rw [if_pos (List.mem_range.1 hm)]
    rw [e]
    exact hnext
  | d + 1, k, h => by
    refine Ev.step (fun q => rfl) (Ev.pos (by omega) (Ev.pos (by omega) (Ev.pos (by simp; omega) ?_)))
    have e : ((List.range n).map fun m => if m < k then vb j m else 0).set k ((wrap64 ((wrap64 (1 + (wrap64 ((j : Int) * 16)))) + (Int.tmod (k : Int) 16))) % 256) = (List.range n).map fun m => if m < k + 1 then vb j m else 0 := by
      have ht : Int.tmod (k : Int) 16 = ((k % 16 : Nat) : Int) := by
        rw [Int.tmod_eq_emod_of_nonneg (by omega)]
        omega
      rw [wrap64_in (x := (j : Int) * 16) (by omega) (by omega), wrap64_in (x := 1 + (j : Int) * 16) (by omega) (by omega), ht, wrap64_in (by omega) (by omega)]
      apply List.ext_getElem?
      intro m
      rw [List.getElem?_set, List.getElem?_map, List.getElem?_map, List.length_map, List.length_range]
      by_cases hm : m < n
      · rw [List.getElem?_range hm]
        by_cases e : k = m
        · subst e
          rw [if_pos rfl, if_pos hm, Option.map_some, if_pos (by omega)]
          unfold vb
          congr 1
          omega
        · rw [if_neg e, Option.map_some, Option.map_some]
          congr 1
          by_cases hlt : m < k
          · rw [if_pos hlt, if_pos (by omega)]
          · rw [if_neg hlt, if_neg (by omega)]
      · rw [if_neg (by omega), List.getElem?_eq_none (by simp; omega)]
        rfl
    rw [toNat_cast, e, wrap64_nat (n := 1000) (by omega) (by omega)]
    exact l1_fill L sp bl own j hj vs hvs n hn hnext d (k + 1) (by omega)

theorem l0_vals (L : Nat) (sp : List S32) (bl : List S34) (own : ByteArray) (hown : own.size = 29) (hL : L ≤ 64) (hn : sp.length ≤ 15) (hbl : bl.length ≤ 16)
  (hs : ∀ j, j < sp.length → 0 ≤ atf sp j ∧ 0 ≤ szf sp bl j ∧ atf sp j + szf sp bl j ≤ 64) (hd : ∀ j j' m : Nat, j < j' → j' < sp.length → In sp bl j m → ¬ In sp bl j' m) (hlo : ∀ j m : Nat, j < sp.length → In sp bl j m → L ≤ m) : ∀ (d k : Nat), k + d = sp.length →
    Ev (fun q => fuglemanlaw19_ImageApart.l0 q (L : Int) sp bl own (Vs sp bl k) sp (sp.length : Int) (k : Int)) true
  | 0, k, h => by
    obtain rfl : k = sp.length := by omega
    have hin : Ev (fun q => image_Inputs.f q (L : Int) own sp (Vs sp bl sp.length)) (area L sp bl own) := by
      obtain ⟨m, hm⟩ : ∃ m : Nat, mn (own.size : Int) (mx (L : Int) 0) = (m : Int) := Int.eq_ofNat_of_zero_le (by unfold mn mx; (repeat' split) <;> omega)
      have hmn : mn (sp.length : Int) ((Vs sp bl sp.length).length : Int) = ((sp.length : Nat) : Int) := by rw [Vs_len]; unfold mn; split <;> omega
      have hm1 : m ≤ own.size := by have : mn (own.size : Int) (mx (L : Int) 0) ≤ (own.size : Int) := by (unfold mn; split <;> omega)
                                    omega
      refine Ev.pos (by omega) (Ev.pos (by rw [hm]; omega) (Ev.pos (by rw [hm]; omega) (Ev.bind (a := X (L : Int) own sp (Vs sp bl sp.length) 0) ⟨0, fun q _ => ?_⟩ ?_)))
      · rw [hm, toNat_cast]
        refine put_zero (L : Int) own sp _ q m (by omega) hm1 (fun i hi => ?_)
        have : (m : Int) = mn (own.size : Int) (mx (L : Int) 0) := hm.symm
        unfold mn mx at this
        constructor
        · intro hc
          (repeat' split at this) <;> omega
        · intro hc
          (repeat' split at this) <;> omega
      · rw [hmn]
        refine inputs_ev (L : Int) own sp (Vs sp bl sp.length) (fun k hk => ?_) (fun k hk => ?_) sp.length (Nat.le_refl _) (by rw [Vs_len]; exact Nat.le_refl _) (by omega) sp.length 0 (by omega)
        · rw [Vs_len] at hk
          obtain ⟨s1, s2, s3⟩ := hs k hk
          rw [Vs_rd sp bl _ k hk, Vj_size]
          omega
        · obtain ⟨s1, s2, s3⟩ := hs k hk
          have ha : (rd_T32 sp (k : Int)).f1 = atf sp k := rfl
          rw [ha]
          omega
    refine Ev.step (fun q => rfl) (Ev.neg (by omega) (Ev.bind hin ?_))
    exact l2_vals L sp bl own hown hL hn hs hd hlo sp.length 0 (by omega)
  | d + 1, k, h => by
    obtain ⟨s1, s2, s3⟩ := hs k (by omega)
    obtain ⟨_, q2⟩ := find_fq bl (rd_T32 sp (k : Int)).f0 (by omega)
    have hsz : (fq bl (rd_T32 sp (k : Int)).f0).2.2.1 = szf sp bl k := rfl
    have hk := l0_vals L sp bl own hown hL hn hbl hs hd hlo d (k + 1) (by omega)
    refine Ev.step (fun q => rfl) (Ev.pos (by omega) (Ev.pos (by omega) (Ev.pos (by omega) (Ev.bind q2 ?_))))
    rw [hsz]
    refine Ev.pos s2 (Ev.pos (by omega) (Ev.bindS rfl ?_))
    have e : (List.replicate (szf sp bl k).toNat (0 : Int)) = (List.range (szf sp bl k).toNat).map fun m => if m < 0 then vb k m else 0 := by
      apply List.ext_getElem?
      intro m
      rw [List.getElem?_replicate, List.getElem?_map]
      by_cases hm : m < (szf sp bl k).toNat
      · rw [if_pos hm, List.getElem?_range hm]
        rfl
      · rw [if_neg hm, List.getElem?_eq_none (by simp; omega)]
        rfl
    rw [List.length_replicate, e]
    refine l1_fill L sp bl own k (by omega) (Vs sp bl k) (by rw [Vs_len]; omega) (szf sp bl k).toNat (by omega) ?_ (szf sp bl k).toNat 0 (by omega)
    rw [wrap64_nat (n := 1000) (by omega) (by omega)]
    have e2 : Vs sp bl k ++ [strOfNums ((List.range (szf sp bl k).toNat).map (vb k))] = Vs sp bl (k + 1) := by
      unfold Vs
      rw [List.range_succ, List.map_append]
      rfl
    rw [e2]
    exact hk

theorem ImageApart : ∀ (a0 : Int) (l1 : List (S32)) (l2 : List (S34)), (Lit.int .i64 a0).wf = true → (l1.length ≤ 140737488351232 ∧ ∀ (i : Nat) x, l1[i]? = some x → ((Lit.int .i64 x.f0).wf = true ∧ (Lit.int .i64 x.f1).wf = true)) → (l2.length ≤ 140737488351232 ∧ ∀ (i : Nat) x, l2[i]? = some x → ((Lit.int .i64 x.f0).wf = true ∧ (Lit.int .i64 x.f1).wf = true ∧ (Lit.int .i64 x.f2).wf = true ∧ True)) → ∃ k, fuglemanlaw19_ImageApart.f k a0 l1 l2 = some true := by
  intro x0 sp bl h0 ⟨_, hsp⟩ ⟨_, hbl⟩
  apply Ev.rounds
  have haw : Ev (fun k => fuglemanlaw19_awake.f k) true := Ev.of fuglemanlaw19_awake.mono (k := 100) (by decide +kernel)
  have hdone : ∀ b, b = true → Ev (fun k => fuglemanlaw19_ImageApart.j0 k x0 sp bl b) true := fun b hb => Ev.step (fun k => rfl) (Ev.pos hb (Ev.now _))
  refine Ev.bind haw (Ev.pos rfl (Ev.ite (fun _ => hdone _ rfl) fun h1 => ?_))
  by_cases h2 : (bl.length : Int) > 16
  · exact hdone _ (decide_eq_true h2)
  rw [decide_eq_false h2]
  refine Ev.step (fun k => rfl) ?_
  by_cases hlo : x0 < 0 ∨ x0 > 64
  · have jt : ∀ b, b = true → Ev (fun k => image_Lay.j0 k x0 sp bl b) (2, -1) := fun b hb => Ev.step (fun k => rfl) (Ev.pos hb (Ev.now _))
    have : Ev (fun k => image_Lay.f k x0 sp bl) (2, -1) := Ev.ite (fun _ => jt _ rfl) (fun c => jt _ (decide_eq_true (by omega)))
    exact Ev.bind this (Ev.neg (by show ¬ (2 : Int) = 0; omega) (Ev.now _))
  · obtain ⟨L, rfl⟩ := Int.eq_ofNat_of_zero_le (show 0 ≤ x0 by omega)
    obtain ⟨r, ra, rb⟩ := lay_ok sp bl (by omega) (by omega) sp.length 0 (Mk 0 L) (by omega) (Mk_lt _ _ (by omega))
    have hLay : Ev (fun k => image_Lay.f k (L : Int) sp bl) r := by
      refine Ev.neg (by omega) ?_
      rw [decide_eq_false (by omega)]
      exact Ev.step (fun k => rfl) (Ev.bindS (mask_is 0 L (by omega)) (Ev.bind ra (Ev.now _)))
    refine Ev.bind hLay (Ev.ite (fun hok => ?_) (fun _ => Ev.now _))
    obtain ⟨r1, r2⟩ := rb hok
    refine l0_vals L sp bl _ own_size (by omega) (by omega) (by omega) (fun j hj => ?_) (fun j j' m hj hj' => r2 j j' m (by omega) hj hj') (fun j m hj hin => ?_) sp.length 0 (by omega)
    · obtain ⟨s1, s2, s3, _⟩ := r1 j (by omega) hj
      exact ⟨s1, s2, s3⟩
    · obtain ⟨_, _, _, s4⟩ := r1 j (by omega) hj
      have := s4 m hin
      rw [Mk_bit] at this
      have := of_decide_eq_false this
      omega

end Go.Proofs.Ytpjpjamaimahaaa.Pure
