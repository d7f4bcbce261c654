/- What is left of ImageLays when the program's calls are told as functions over numbers and lists: for every input that the guards let in the law's function answers true. -/
import Derived.Test.YtpjpjamaimahaaaPImageLaysx5
import Derived.Test.YtpjpjamaimahaaaKit
import Derived.Test.YtpjpjamaimahaaaWMore
import Derived.Laws.BitsLemmas
namespace Go.Proofs.Ytpjpjamaimahaaa.Pure
open Go.RowKit Go.Proofs.Ytpjpjamaimahaaa.PImageLays Go.Proofs.YtpjpjamaimahaaaW.PrintWords Go.Proofs.YtpjpjamaimahaaaW.PrintLast Go.Proofs.Ytpjpjamaimahaaa.Kit
set_option linter.unusedVariables false
set_option linter.unusedSimpArgs false

/-! ### blocks: the place of a block -/
theorem place_ev (l : List S34) (id : Int) (hl : l.length ≤ 140737488351232) : ∀ d i : Nat, i + d = l.length →
    ∃ r, Ev (fun k => blocks_place.l0 k l id (l.length : Int) (i : Int)) r ∧
      ((∃ j : Nat, i ≤ j ∧ j < l.length ∧ (rd_T34 l (j : Int)).f0 = id ∧ (∀ m : Nat, i ≤ m → m < j → (rd_T34 l (m : Int)).f0 ≠ id) ∧ r = (j : Int)) ∨
       (r = -1 ∧ ∀ m : Nat, i ≤ m → m < l.length → (rd_T34 l (m : Int)).f0 ≠ id))
  | 0, i, h => ⟨-1, Ev.step (fun k => rfl) (Ev.neg (by omega) (Ev.now _)), Or.inr ⟨rfl, fun m h1 h2 => by omega⟩⟩
  | d + 1, i, h => by
    by_cases e : (rd_T34 l (i : Int)).f0 = id
    · exact ⟨(i : Int), Ev.step (fun k => rfl) (Ev.pos (by omega) (Ev.pos (by omega) (Ev.pos (by omega) (Ev.pos e (Ev.now _))))), Or.inl ⟨i, Nat.le_refl _, by omega, e, fun m h1 h2 => by omega, rfl⟩⟩
    · obtain ⟨r, hr, hs⟩ := place_ev l id hl d (i + 1) (by omega)
      refine ⟨r, Ev.step (fun k => rfl) (Ev.pos (by omega) (Ev.pos (by omega) (Ev.pos (by omega) (Ev.neg e (by rw [wrap64_nat (n := l.length) (by omega) hl]; exact hr))))), ?_⟩
      rcases hs with ⟨j, h1, h2, h3, h4, h5⟩ | ⟨h1, h2⟩
      · refine Or.inl ⟨j, by omega, h2, h3, fun m hm1 hm2 => ?_, h5⟩
        rcases Nat.eq_or_lt_of_le hm1 with rfl | hlt
        · exact e
        · exact h4 m hlt hm2
      · refine Or.inr ⟨h1, fun m hm1 hm2 => ?_⟩
        rcases Nat.eq_or_lt_of_le hm1 with rfl | hlt
        · exact e
        · exact h2 m hlt hm2

theorem placef_ev (l : List S34) (id : Int) (hl : l.length ≤ 140737488351232) :
    ∃ r, Ev (fun k => blocks_place.f k l id) r ∧
      ((∃ j : Nat, j < l.length ∧ (rd_T34 l (j : Int)).f0 = id ∧ (∀ m : Nat, m < j → (rd_T34 l (m : Int)).f0 ≠ id) ∧ r = (j : Int)) ∨
       (r = -1 ∧ ∀ m : Nat, m < l.length → (rd_T34 l (m : Int)).f0 ≠ id)) := by
  obtain ⟨r, h, hs⟩ := place_ev l id hl l.length 0 (by omega)
  refine ⟨r, h, ?_⟩
  rcases hs with ⟨j, h1, h2, h3, h4, h5⟩ | ⟨h1, h2⟩
  · exact Or.inl ⟨j, h2, h3, fun m hm => h4 m (by omega) hm, h5⟩
  · exact Or.inr ⟨h1, fun m hm => h2 m (by omega) hm⟩
theorem refFind_ev (l : List S34) (id : Int) (hl : l.length ≤ 140737488351232) : ∀ d i : Nat, i + d = l.length →
    ∃ r, Ev (fun k => fuglemanref16_Find.l0 k l id (i : Int)) r ∧
      ((∃ j : Nat, i ≤ j ∧ j < l.length ∧ (rd_T34 l (j : Int)).f0 = id ∧ (∀ m : Nat, i ≤ m → m < j → (rd_T34 l (m : Int)).f0 ≠ id) ∧ r = ((rd_T34 l (j : Int)).f0, (rd_T34 l (j : Int)).f1, (rd_T34 l (j : Int)).f2, (rd_T34 l (j : Int)).f3, true)) ∨
       (r = (0, 0, 0, false, false) ∧ ∀ m : Nat, i ≤ m → m < l.length → (rd_T34 l (m : Int)).f0 ≠ id))
  | 0, i, h => ⟨_, Ev.step (fun k => rfl) (Ev.neg (by omega) (Ev.now _)), Or.inr ⟨rfl, fun m h1 h2 => by omega⟩⟩
  | d + 1, i, h => by
    by_cases e : (rd_T34 l (i : Int)).f0 = id
    · exact ⟨_, Ev.step (fun k => rfl) (Ev.pos (by omega) (Ev.pos (by omega) (Ev.pos e (Ev.now _)))), Or.inl ⟨i, Nat.le_refl _, by omega, e, fun m h1 h2 => by omega, rfl⟩⟩
    · obtain ⟨r, hr, hs⟩ := refFind_ev l id hl d (i + 1) (by omega)
      refine ⟨r, Ev.step (fun k => rfl) (Ev.pos (by omega) (Ev.pos (by omega) (Ev.neg e (by rw [wrap64_nat (n := l.length) (by omega) hl]; exact hr)))), ?_⟩
      rcases hs with ⟨j, h1, h2, h3, h4, h5⟩ | ⟨h1, h2⟩
      · refine Or.inl ⟨j, by omega, h2, h3, fun m hm1 hm2 => ?_, h5⟩
        rcases Nat.eq_or_lt_of_le hm1 with rfl | hlt
        · exact e
        · exact h4 m hlt hm2
      · refine Or.inr ⟨h1, fun m hm1 hm2 => ?_⟩
        rcases Nat.eq_or_lt_of_le hm1 with rfl | hlt
        · exact e
        · exact h2 m hlt hm2

theorem find_both (l : List S34) (id : Int) (hl : l.length ≤ 140737488351232) : ∃ r, Ev (fun k => blocks_Find.f k l id) r ∧ Ev (fun k => fuglemanref16_Find.f k l id) r := by
  obtain ⟨r, h, hs⟩ := placef_ev l id hl
  obtain ⟨q, g, gs⟩ := refFind_ev l id hl l.length 0 (by omega)
  refine ⟨q, ?_, g⟩
  refine Ev.bind h ?_
  rcases hs with ⟨j, h2, h3, h4, rfl⟩ | ⟨rfl, h2⟩
  · rcases gs with ⟨j', _, g2, g3, g4, rfl⟩ | ⟨_, g2⟩
    · have e : j = j' := by
        rcases Nat.lt_trichotomy j j' with hlt | rfl | hlt
        · exact absurd h3 (g4 j (by omega) hlt)
        · rfl
        · exact absurd g3 (h4 j' hlt)
      subst e
      exact Ev.neg (by omega) (Ev.pos (by omega) (Ev.pos (by omega) (Ev.now _)))
    · exact absurd h3 (g2 j (by omega) h2)
  · rcases gs with ⟨j', _, g2, g3, g4, rfl⟩ | ⟨rfl, g2⟩
    · exact absurd g3 (h2 j' g2)
    · exact Ev.pos (by omega) (Ev.now _)
/-! ### image: which bytes are used -/
def Mk (at_ n : Nat) : Nat := (2 ^ n - 1) <<< at_
theorem Mk_bit (at_ n i : Nat) : (Mk at_ n).testBit i = decide (at_ ≤ i ∧ i < at_ + n) := by
  unfold Mk
  rw [Nat.testBit_shiftLeft, Nat.testBit_two_pow_sub_one]
  by_cases h1 : at_ ≤ i
  · by_cases h2 : i < at_ + n
    · simp [h1, h2]; omega
    · simp [h1, h2]; omega
  · simp [h1]
theorem Mk_lt (at_ n : Nat) (h : at_ + n ≤ 64) : Mk at_ n < 2 ^ 64 := by
  apply Nat.lt_pow_two_of_testBit
  intro i hi
  rw [Mk_bit]
  exact decide_eq_false (by omega)
theorem u64_wraps (n : Int) (h0 : 0 ≤ n) (h1 : n < 2 ^ 64) : IntKind.u64.wrap n = n := by
  simp only [IntKind.wrap, IntKind.bits, IntKind.signed, Bool.false_and, Bool.false_eq_true, if_false]
  exact Int.emod_eq_of_lt h0 h1
theorem u64_and (a b : Nat) (ha : a < 2 ^ 64) (hb : b < 2 ^ 64) : Go.bits .and .u64 (a : Int) (b : Int) = ((a &&& b : Nat) : Int) := (bits_nat .u64 64 (by decide) u64_wraps a b ha hb).1
theorem u64_or (a b : Nat) (ha : a < 2 ^ 64) (hb : b < 2 ^ 64) : Go.bits .or .u64 (a : Int) (b : Int) = ((a ||| b : Nat) : Int) := (bits_nat .u64 64 (by decide) u64_wraps a b ha hb).2
theorem pow_cast (n : Nat) : ((2 ^ n : Nat) : Int) = 2 ^ n := by
  induction n with
  | zero => rfl
  | succ n ih => rw [Nat.pow_succ, Int.natCast_mul, ih, Int.pow_succ]; rfl
theorem shl_nat (x y : Nat) (hy : y ≤ 64) (h : x * 2 ^ y < 2 ^ 64) : shl .u64 (x : Int) (y : Int) = ((x * 2 ^ y : Nat) : Int) := by
  unfold shl
  have e : min ((y : Int)).toNat (IntKind.bits .u64) = y := by
    show min y 64 = y
    omega
  rw [e, ← pow_cast, ← Int.natCast_mul]
  exact u64_wraps _ (Int.natCast_nonneg _) (by exact_mod_cast h)
theorem mask_is (at_ n : Nat) (h : at_ + n ≤ 64) : image_mask.f (at_ : Int) (n : Int) = some ((Mk at_ n : Nat) : Int) := by
  have hlt := Mk_lt at_ n h
  unfold image_mask.f
  have he : Mk at_ n = (2 ^ n - 1) * 2 ^ at_ := Nat.shiftLeft_eq _ _
  by_cases hn : n = 64
  · obtain rfl : at_ = 0 := by omega
    subst hn
    rw [if_pos (by omega), if_pos (by omega)]
    rfl
  · rw [if_neg (by omega), if_pos (by omega), if_pos (by omega)]
    have hp : 0 < 2 ^ n := Nat.two_pow_pos n
    have h1 : 1 * 2 ^ n < 2 ^ 64 := by rw [Nat.one_mul]; exact Nat.pow_lt_pow_right (by decide) (by omega)
    have e1 := shl_nat 1 n (by omega) h1
    rw [show ((1 : Nat) : Int) = 1 from rfl] at e1
    rw [e1, show (((1 * 2 ^ n : Nat) : Int) - 1) = ((2 ^ n - 1 : Nat) : Int) by omega]
    rw [u64_wraps _ (Int.natCast_nonneg _) (by exact_mod_cast (by omega : 2 ^ n - 1 < 2 ^ 64))]
    rw [he] at hlt ⊢
    rw [shl_nat _ _ (by omega) hlt]

def Rel (U : Nat) (bs : List Bool) : Prop := U < 2 ^ 64 ∧ bs.length = 64 ∧ ∀ i : Nat, i < 64 → rdOf false bs (i : Int) = U.testBit i

theorem rdOf_set (bs : List Bool) (i j : Nat) (b : Bool) (hi : i < bs.length) : rdOf false (bs.set i b) (j : Int) = if j = i then b else rdOf false bs (j : Int) := by
  unfold rdOf
  rw [toNat_cast, List.getD_eq_getElem?_getD, List.getD_eq_getElem?_getD, List.getElem?_set]
  by_cases h : i = j
  · subst h
    rw [if_pos rfl, if_pos hi, if_pos rfl]
    rfl
  · rw [if_neg h, if_neg (fun e => h e.symm)]

theorem and_zero (U at_ n : Nat) (h : at_ + n ≤ 64) : U &&& Mk at_ n = 0 ↔ ∀ m : Nat, at_ ≤ m → m < at_ + n → U.testBit m = false := by
  constructor
  · intro h0 m h1 h2
    have := congrArg (fun x => x.testBit m) h0
    simp only [Nat.testBit_and, Mk_bit, Nat.zero_testBit] at this
    rw [decide_eq_true ⟨h1, h2⟩, Bool.and_true] at this
    exact this
  · intro h0
    apply Nat.eq_of_testBit_eq
    intro m
    rw [Nat.testBit_and, Mk_bit, Nat.zero_testBit]
    by_cases hm : at_ ≤ m ∧ m < at_ + n
    · rw [h0 m hm.1 hm.2, Bool.false_and]
    · rw [decide_eq_false hm, Bool.and_false]

theorem l3_ev (sp : List S32) (bl : List S34) (over : Bool) (i : Nat) (U at_ n : Nat) (hU : U < 2 ^ 64) (han : at_ + n ≤ 64) (y0 y1 : Int) (y3 : Bool) (r : Int × Int)
    (hconf : over = true → (∃ m : Nat, at_ ≤ m ∧ m < at_ + n ∧ U.testBit m = true) → r = (15, (i : Int)))
    (hnext : (over = true → ∀ m : Nat, at_ ≤ m → m < at_ + n → U.testBit m = false) → ∀ bs, Rel (U ||| Mk at_ n) bs → Ev (fun k => fuglemanref19_Lay.l1 k sp bl over bs (wrap64 ((i : Int) + 1))) r) :
    ∀ (d j : Nat) (bs : List Bool), j + d = n → bs.length = 64 → (∀ m : Nat, m < 64 → rdOf false bs (m : Int) = (U.testBit m || decide (at_ ≤ m ∧ m < at_ + j))) → (over = true → ∀ m : Nat, at_ ≤ m → m < at_ + j → U.testBit m = false) →
      Ev (fun k => fuglemanref19_Lay.l3 k sp bl over bs (i : Int) (at_ : Int) ((at_ + j : Nat) : Int) y0 y1 (n : Int) y3) r := by
  have hw : wrap64 ((at_ : Int) + (n : Int)) = ((at_ + n : Nat) : Int) := by rw [wrap64_in (by omega) (by omega)]; omega
  intro d
  induction d with
  | zero =>
    intro j bs hj hl hb ho
    obtain rfl : j = n := by omega
    refine Ev.step (fun k => rfl) (Ev.neg (by rw [hw]; omega) (hnext ho bs ⟨Nat.or_lt_two_pow hU (Mk_lt _ _ han), hl, fun m hm => ?_⟩))
    rw [hb m hm, Nat.testBit_or, Mk_bit]
  | succ d ih =>
    intro j bs hj hl hb ho
    have hcell := hb (at_ + j) (by omega)
    rw [decide_eq_false (by omega), Bool.or_false] at hcell
    have hset : ∀ m : Nat, m < 64 → rdOf false (bs.set (at_ + j) true) (m : Int) = (U.testBit m || decide (at_ ≤ m ∧ m < at_ + (j + 1))) := fun m hm => by
      rw [rdOf_set _ _ _ _ (by omega), hb m hm]
      by_cases e : m = at_ + j
      · rw [if_pos e, decide_eq_true (by omega), Bool.or_true]
      · rw [if_neg e]
        congr 1
        exact decide_eq_decide.2 (by omega)
    have hwj : wrap64 (((at_ + j : Nat) : Int) + 1) = ((at_ + (j + 1) : Nat) : Int) := wrap64_nat (n := 1000) (by omega) (by omega)
    refine Ev.step (fun k => rfl) (Ev.pos (by rw [hw]; omega) (Ev.ite (fun hov => ?_) (fun hov => ?_)))
    · refine Ev.pos (by omega) (Ev.pos (by omega) (Ev.ite (fun hc => ?_) (fun hc => ?_)))
      · rw [hcell] at hc
        rw [hconf hov ⟨at_ + j, by omega, by omega, hc⟩]
        exact Ev.now _
      · rw [hcell] at hc
        rw [hwj, toNat_cast]
        refine ih (j + 1) _ (by omega) (by rw [List.length_set]; exact hl) hset (fun _ m h1 h2 => ?_)
        by_cases e : m = at_ + j
        · rw [e]
          exact Bool.eq_false_iff.2 hc
        · exact ho hov m h1 (by omega)
    · refine Ev.pos (by omega) (Ev.pos (by omega) ?_)
      rw [hwj, toNat_cast]
      exact ih (j + 1) _ (by omega) (by rw [List.length_set]; exact hl) hset (fun h => absurd h hov)

theorem l2_ev (sp : List S32) (bl : List S34) (over : Bool) (bs : List Bool) (i : Nat) (y0 y1 y2 : Int) (y3 : Bool) (hi : i < sp.length) (hl : sp.length ≤ 1000) (r : Int × Int)
    (hdup : (∃ m : Nat, m < i ∧ (rd_T32 sp (m : Int)).f0 = (rd_T32 sp (i : Int)).f0) → r = (14, (i : Int)))
    (hnext : (∀ m : Nat, m < i → (rd_T32 sp (m : Int)).f0 ≠ (rd_T32 sp (i : Int)).f0) → Ev (fun k => fuglemanref19_Lay.l2 k sp bl over bs (i : Int) (i : Int) y0 y1 y2 y3) r) :
    ∀ d j : Nat, j + d = i → (∀ m : Nat, m < j → (rd_T32 sp (m : Int)).f0 ≠ (rd_T32 sp (i : Int)).f0) → Ev (fun k => fuglemanref19_Lay.l2 k sp bl over bs (i : Int) (j : Int) y0 y1 y2 y3) r
  | 0, j, h, hj => by
    obtain rfl : j = i := by omega
    exact hnext hj
  | d + 1, j, h, hj => by
    refine Ev.step (fun k => rfl) (Ev.pos (by omega) (Ev.pos (by omega) (Ev.pos (by omega) (Ev.pos (by omega) (Ev.pos (by omega) (Ev.ite (fun e => ?_) (fun e => ?_)))))))
    · rw [hdup ⟨j, by omega, e⟩]
      exact Ev.now _
    · rw [wrap64_nat (n := 10000) (by omega) (by omega)]
      refine l2_ev sp bl over bs i y0 y1 y2 y3 hi hl r hdup hnext d (j + 1) (by omega) (fun m hm => ?_)
      by_cases e2 : m = j
      · rw [e2]; exact e
      · exact hj m (by omega)

theorem any_take (sp : List S32) (i : Nat) (hi : i ≤ sp.length) (b : Int) : ((sp.take i).any fun x => x.f0 == b) = decide (∃ m : Nat, m < i ∧ (rd_T32 sp (m : Int)).f0 = b) := by
  have hg : ∀ m (hm : m < sp.length), rd_T32 sp (m : Int) = sp[m] := fun m hm => by
    unfold rd_T32
    rw [toNat_cast, List.getD_eq_getElem?_getD, List.getElem?_eq_getElem hm]
    rfl
  rw [Bool.eq_iff_iff, List.any_eq_true, decide_eq_true_eq]
  constructor
  · rintro ⟨x, hx, hb⟩
    obtain ⟨m, hm, rfl⟩ := List.getElem_of_mem hx
    rw [List.length_take] at hm
    refine ⟨m, by omega, ?_⟩
    rw [hg m (by omega)]
    rw [List.getElem_take] at hb
    exact beq_iff_eq.1 hb
  · rintro ⟨m, hm, hb⟩
    rw [hg m (by omega)] at hb
    exact ⟨sp[m], List.mem_iff_getElem.2 ⟨m, by rw [List.length_take]; omega, by rw [List.getElem_take]⟩, beq_iff_eq.2 hb⟩
theorem lay_both (sp : List S32) (bl : List S34) (over : Bool) (hl : sp.length ≤ 1000) (hbl : bl.length ≤ 1000) : ∀ (d i U : Nat) (bs : List Bool), i + d = sp.length → Rel U bs →
    ∃ r, Ev (fun k => image_lay.l0 k (U : Int) sp bl over sp (sp.length : Int) (i : Int)) r ∧ Ev (fun k => fuglemanref19_Lay.l1 k sp bl over bs (i : Int)) r
  | 0, i, U, bs, h, _ => ⟨(0, 0), Ev.step (fun k => rfl) (Ev.neg (by omega) (Ev.now _)), Ev.step (fun k => rfl) (Ev.neg (by omega) (Ev.now _))⟩
  | d + 1, i, U, bs, h, ⟨hU, hbsl, hbs⟩ => by
    obtain ⟨q, q1, q2⟩ := find_both bl (rd_T32 sp (i : Int)).f0 (by omega)
    obtain ⟨f0, f1, f2, f3, ok⟩ := q
    have hw : wrap64 ((i : Int) + 1) = ((i + 1 : Nat) : Int) := wrap64_nat (n := 10000) (by omega) (by omega)
    -- the spot's code c, and what both sides do with it
    have spot : ∀ c : Int, (ok = true → Ev (fun k => (api_Spot_21.f k (sp.take i) ((rd_T32 sp (i : Int)).f0)).bind fun t => (if t = true then (some (f0, f1, f2, f3, (14 : Int))) else (if ((rd_T32 sp (i : Int)).f1) < 0 then (some (f0, f1, f2, f3, 2)) else (if ((rd_T32 sp (i : Int)).f1) > 64 then (some (f0, f1, f2, f3, 2)) else (if f2 < 0 then (some (f0, f1, f2, f3, 2)) else (if f2 > (wrap64 (64 - ((rd_T32 sp (i : Int)).f1))) then (some (f0, f1, f2, f3, 2)) else (some (f0, f1, f2, f3, 0)))))))) (f0, f1, f2, f3, c)) → (ok = false → c = 5) →
        Ev (fun k => image_spot.f k sp (i : Int) bl) (f0, f1, f2, f3, c) := fun c h1 h2 => by
      refine Ev.pos (by omega) (Ev.pos (by omega) (Ev.bind q1 (Ev.ite (fun hok => Ev.pos (by omega) ?_) (fun hok => ?_))))
      · rw [toNat_cast]
        exact h1 hok
      · rw [h2 (Bool.eq_false_iff.2 hok)]
        exact Ev.now _
    have stop : ∀ c : Int, c ≠ 0 → Ev (fun k => image_spot.f k sp (i : Int) bl) (f0, f1, f2, f3, c) → Ev (fun k => image_lay.l0 k (U : Int) sp bl over sp (sp.length : Int) (i : Int)) (c, (i : Int)) := fun c hc hs =>
      Ev.step (fun k => rfl) (Ev.pos (by omega) (Ev.pos (by omega) (Ev.pos (by omega) (Ev.bind hs (Ev.neg hc (Ev.now _))))))
    by_cases hok : ok = true
    · have hany := any_take sp i (by omega) (rd_T32 sp (i : Int)).f0
      have hcont : ∀ b, decide (∃ m : Nat, m < i ∧ (rd_T32 sp (m : Int)).f0 = (rd_T32 sp (i : Int)).f0) = b → ∀ k, api_Spot_21.f k (sp.take i) ((rd_T32 sp (i : Int)).f0) = some b := fun b hb k => by
        unfold api_Spot_21.f
        rw [hany, hb]
      have ref0 : ∀ r, (∃ _ : Unit, Ev (fun k => fuglemanref19_Lay.l2 k sp bl over bs (i : Int) 0 f0 f1 f2 f3) r) → Ev (fun k => fuglemanref19_Lay.l1 k sp bl over bs (i : Int)) r := fun r ⟨_, hr⟩ =>
        Ev.step (fun k => rfl) (Ev.pos (by omega) (Ev.pos (by omega) (Ev.bind q2 (Ev.pos hok hr))))
      by_cases hdup : ∃ m : Nat, m < i ∧ (rd_T32 sp (m : Int)).f0 = (rd_T32 sp (i : Int)).f0
      · refine ⟨(14, (i : Int)), stop 14 (by omega) (spot 14 (fun _ => ?_) (fun e => absurd hok (by rw [e]; simp))), ref0 _ ⟨(), l2_ev sp bl over bs i f0 f1 f2 f3 (by omega) hl _ (fun _ => rfl) (fun hno => ?_) i 0 (by omega) (fun m hm => by omega)⟩⟩
        · exact Ev.bind ⟨0, fun k _ => hcont true (decide_eq_true hdup) k⟩ (Ev.pos rfl (Ev.now _))
        · obtain ⟨m, h1, h2⟩ := hdup
          exact absurd h2 (hno m h1)
      · have hc0 : ∀ k, api_Spot_21.f k (sp.take i) ((rd_T32 sp (i : Int)).f0) = some false := hcont false (decide_eq_false hdup)
        -- behind the twins: the limits
        have ref1 : ∀ r, Ev (fun k => fuglemanref19_Lay.l2 k sp bl over bs (i : Int) (i : Int) f0 f1 f2 f3) r → Ev (fun k => fuglemanref19_Lay.l1 k sp bl over bs (i : Int)) r := fun r hr =>
          ref0 _ ⟨(), l2_ev sp bl over bs i f0 f1 f2 f3 (by omega) hl _ (fun hx => absurd hx hdup) (fun _ => hr) i 0 (by omega) (fun m hm => by omega)⟩
        have j4t : ∀ b, b = true → Ev (fun k => fuglemanref19_Lay.j4 k sp bl over bs (i : Int) ((rd_T32 sp (i : Int)).f1) b f0 f1 f2 f3) (2, (i : Int)) := fun b hb => Ev.step (fun k => rfl) (Ev.pos hb (Ev.now _))
        by_cases hlim : (rd_T32 sp (i : Int)).f1 < 0 ∨ (rd_T32 sp (i : Int)).f1 > 64 ∨ f2 < 0 ∨ f2 > 64 - (rd_T32 sp (i : Int)).f1
        · refine ⟨(2, (i : Int)), stop 2 (by omega) (spot 2 (fun _ => Ev.bind ⟨0, fun k _ => hc0 k⟩ (Ev.neg (by simp) (Ev.ite (fun _ => Ev.now _) fun a1 => Ev.ite (fun _ => Ev.now _) fun a2 => Ev.ite (fun _ => Ev.now _) fun a3 => Ev.pos ?_ (Ev.now _)))) (fun e => absurd hok (by rw [e]; simp))), ref1 _ ?_⟩
          · rw [wrap64_in (by omega) (by omega)]
            omega
          · refine Ev.step (fun k => rfl) (Ev.neg (by omega) (Ev.pos (by omega) (Ev.pos (by omega) (Ev.ite (fun _ => j4t _ rfl) fun a1 => Ev.ite (fun _ => j4t _ rfl) fun a2 => Ev.ite (fun _ => j4t _ rfl) fun a3 => j4t _ (decide_eq_true ?_)))))
            rw [wrap64_in (by omega) (by omega)]
            omega
        · obtain ⟨at_, hat⟩ := Int.eq_ofNat_of_zero_le (show 0 ≤ (rd_T32 sp (i : Int)).f1 by omega)
          obtain ⟨n, hn⟩ := Int.eq_ofNat_of_zero_le (show 0 ≤ f2 by omega)
          subst hn
          have han : at_ + n ≤ 64 := by omega
          have hspot : Ev (fun k => image_spot.f k sp (i : Int) bl) (f0, f1, (n : Int), f3, 0) := spot 0 (fun _ => Ev.bind ⟨0, fun k _ => hc0 k⟩ (Ev.neg (by simp) (Ev.neg (by omega) (Ev.neg (by omega) (Ev.neg (by omega) (Ev.neg (by rw [wrap64_in (by omega) (by omega)]; omega) (Ev.now _))))))) (fun e => absurd hok (by rw [e]; simp))
          have hmask := mask_is at_ n han
          have hor := u64_or U (Mk at_ n) hU (Mk_lt _ _ han)
          have hand := u64_and U (Mk at_ n) hU (Mk_lt _ _ han)
          have ref2 : ∀ r, Ev (fun k => fuglemanref19_Lay.l3 k sp bl over bs (i : Int) (at_ : Int) (at_ : Int) f0 f1 (n : Int) f3) r → Ev (fun k => fuglemanref19_Lay.l1 k sp bl over bs (i : Int)) r := fun r hr => by
            refine ref1 _ (Ev.step (fun k => rfl) (Ev.neg (by omega) (Ev.pos (by omega) (Ev.pos (by omega) (Ev.neg (by omega) (Ev.neg (by omega) (Ev.neg (by omega) ?_)))))))
            rw [decide_eq_false (by rw [wrap64_in (by omega) (by omega)]; omega), hat]
            exact Ev.step (fun k => rfl) hr
          have r0 : ∀ m : Nat, m < 64 → rdOf false bs (m : Int) = (U.testBit m || decide (at_ ≤ m ∧ m < at_ + 0)) := fun m hm => by
            rw [hbs m hm, decide_eq_false (by omega), Bool.or_false]
          by_cases hconf : over = true ∧ U &&& Mk at_ n ≠ 0
          · refine ⟨(15, (i : Int)), ?_, ref2 _ (l3_ev sp bl over i U at_ n hU han f0 f1 f3 _ (fun _ _ => rfl) (fun hno => ?_) n 0 bs (by omega) hbsl r0 (fun _ m h1 h2 => by omega))⟩
            · refine Ev.step (fun k => rfl) (Ev.pos (by omega) (Ev.pos (by omega) (Ev.pos (by omega) (Ev.bind hspot (Ev.pos rfl ?_)))))
              rw [hat]
              refine Ev.bindS hmask (Ev.pos hconf.1 (Ev.neg ?_ (Ev.now _)))
              rw [hand]
              have := hconf.2
              omega
            · exact absurd ((and_zero U at_ n han).2 (hno hconf.1)) hconf.2
          · have hnew : ∀ bs', Rel (U ||| Mk at_ n) bs' → ∃ r, Ev (fun k => image_lay.l0 k ((U ||| Mk at_ n : Nat) : Int) sp bl over sp (sp.length : Int) ((i + 1 : Nat) : Int)) r ∧ Ev (fun k => fuglemanref19_Lay.l1 k sp bl over bs' ((i + 1 : Nat) : Int)) r := fun bs' hb' => lay_both sp bl over hl hbl d (i + 1) _ bs' (by omega) hb'
            -- one answer for whatever list stands for the bits
            obtain ⟨bs1, hbs1⟩ : ∃ bs', Rel (U ||| Mk at_ n) bs' := ⟨(List.range 64).map fun m => (U ||| Mk at_ n).testBit m, Nat.or_lt_two_pow hU (Mk_lt _ _ han), by simp, fun m hm => by
              unfold rdOf
              rw [toNat_cast, List.getD_eq_getElem?_getD, List.getElem?_map, List.getElem?_range hm]
              rfl⟩
            obtain ⟨r, ra, _⟩ := hnew bs1 hbs1
            refine ⟨r, ?_, ref2 _ (l3_ev sp bl over i U at_ n hU han f0 f1 f3 _ (fun ho hx => ?_) (fun _ bs' hb' => ?_) n 0 bs (by omega) hbsl r0 (fun _ m h1 h2 => by omega))⟩
            · refine Ev.step (fun k => rfl) (Ev.pos (by omega) (Ev.pos (by omega) (Ev.pos (by omega) (Ev.bind hspot (Ev.pos rfl ?_)))))
              rw [hat]
              refine Ev.bindS hmask ?_
              rw [hor, hw]
              refine Ev.ite (fun ho => Ev.pos ?_ ra) (fun _ => ra)
              rw [hand]
              by_cases hz : U &&& Mk at_ n = 0
              · rw [hz]; rfl
              · exact absurd ⟨ho, hz⟩ hconf
            · obtain ⟨m, m1, m2, m3⟩ := hx
              by_cases hz : U &&& Mk at_ n = 0
              · rw [(and_zero U at_ n han).1 hz m m1 m2] at m3
                cases m3
              · exact absurd ⟨ho, hz⟩ hconf
            · obtain ⟨r', ra', rb'⟩ := hnew bs' hb'
              rw [hw, Ev.det ra ra']
              exact rb'
    · have hof : ok = false := Bool.eq_false_iff.2 hok
      refine ⟨(5, (i : Int)), stop 5 (by omega) (spot 5 (fun e => absurd e hok) (fun _ => rfl)), ?_⟩
      exact Ev.step (fun k => rfl) (Ev.pos (by omega) (Ev.pos (by omega) (Ev.bind q2 (Ev.neg hok (Ev.now _)))))

theorem fill_ev (x0 : Int) (sp : List S32) (bl : List S34) (over : Bool) (U : Nat) (hU : U < 2 ^ 64) (hbit : ∀ m : Nat, m < 64 → U.testBit m = (over && decide ((m : Int) < x0))) (r : Int × Int) (hnext : ∀ bs, Rel U bs → Ev (fun k => fuglemanref19_Lay.l1 k sp bl over bs 0) r) :
    ∀ (d i : Nat) (bs : List Bool), i + d = 64 → bs.length = 64 → (∀ m : Nat, m < i → rdOf false bs (m : Int) = U.testBit m) → Ev (fun k => fuglemanref19_Lay.l0 k x0 sp bl over bs (i : Int)) r := by
  intro d
  induction d with
  | zero =>
    intro i bs hi hl hb
    obtain rfl : i = 64 := by omega
    exact Ev.step (fun k => rfl) (hnext bs ⟨hU, hl, hb⟩)
  | succ d ih =>
    intro i bs hi hl hb
    have hwi : wrap64 ((i : Int) + 1) = ((i + 1 : Nat) : Int) := wrap64_nat (n := 1000) (by omega) (by omega)
    have hset : ∀ b, b = U.testBit i → ∀ m : Nat, m < i + 1 → rdOf false (bs.set i b) (m : Int) = U.testBit m := fun b hb' m hm => by
      rw [rdOf_set _ _ _ _ (by omega)]
      by_cases e : m = i
      · rw [if_pos e, e, hb']
      · rw [if_neg e]
        exact hb m (by omega)
    refine Ev.step (fun k => rfl) (Ev.pos (by omega) (Ev.ite (fun ho => ?_) (fun ho => ?_)))
    · refine Ev.pos (by omega) (Ev.pos (by omega) ?_)
      rw [hwi, toNat_cast]
      refine ih (i + 1) _ (by omega) (by rw [List.length_set]; exact hl) (hset _ ?_)
      rw [hbit i (by omega), ho, Bool.true_and]
    · refine Ev.pos (by omega) (Ev.pos (by omega) ?_)
      rw [hwi, toNat_cast]
      refine ih (i + 1) _ (by omega) (by rw [List.length_set]; exact hl) (hset _ ?_)
      rw [hbit i (by omega), Bool.eq_false_iff.2 ho, Bool.false_and]

theorem all_both (x0 : Int) (sp : List S32) (bl : List S34) (over : Bool) (hl : sp.length ≤ 1000) (hbl : bl.length ≤ 1000) (U : Nat) (hU : U < 2 ^ 64) (hbit : ∀ m : Nat, m < 64 → U.testBit m = (over && decide ((m : Int) < x0))) :
    ∃ r, Ev (fun k => image_lay.f k (U : Int) sp bl over) r ∧ Ev (fun k => fuglemanref19_Lay.j0 k x0 sp bl over false) r := by
  obtain ⟨bs1, hbs1⟩ : ∃ bs', Rel U bs' := ⟨(List.range 64).map fun m => U.testBit m, hU, by simp, fun m hm => by
    unfold rdOf
    rw [toNat_cast, List.getD_eq_getElem?_getD, List.getElem?_map, List.getElem?_range hm]
    rfl⟩
  obtain ⟨r, ra, _⟩ := lay_both sp bl over hl hbl sp.length 0 U bs1 (by omega) hbs1
  have h0 := fill_ev x0 sp bl over U hU hbit r (fun bs hbs => by
    obtain ⟨r', ra', rb'⟩ := lay_both sp bl over hl hbl sp.length 0 U bs (by omega) hbs
    rw [Ev.det ra ra']
    exact rb') 64 0 (List.replicate 64 false) (by omega) (by simp) (fun m hm => by omega)
  exact ⟨r, ra, Ev.step (fun k => rfl) h0⟩

theorem ImageLays : ∀ (a0 : Int) (l1 : List (S32)) (l2 : List (S34)), (Lit.int .i64 a0).wf = true → (l1.length ≤ 140737488351232 ∧ ∀ (i : Nat) x, l1[i]? = some x → ((Lit.int .i64 x.f0).wf = true ∧ (Lit.int .i64 x.f1).wf = true)) → (l2.length ≤ 140737488351232 ∧ ∀ (i : Nat) x, l2[i]? = some x → ((Lit.int .i64 x.f0).wf = true ∧ (Lit.int .i64 x.f1).wf = true ∧ (Lit.int .i64 x.f2).wf = true ∧ True)) → ∃ k, fuglemanlaw19_ImageLays.f k a0 l1 l2 = some true := by
  intro x0 sp bl h0 ⟨_, hsp⟩ ⟨_, hbl⟩
  apply Ev.rounds
  have haw : Ev (fun k => fuglemanlaw19_awake.f k) true := Ev.of fuglemanlaw19_awake.mono (k := 100) (by decide +kernel)
  have hdone : ∀ b, b = true → Ev (fun k => fuglemanlaw19_ImageLays.j0 k x0 sp bl b) true := fun b hb => Ev.step (fun k => rfl) (Ev.pos hb (Ev.now _))
  refine Ev.bind haw (Ev.pos rfl (Ev.ite (fun _ => hdone _ rfl) fun h1 => ?_))
  by_cases h2 : (bl.length : Int) > 20
  · exact hdone _ (decide_eq_true h2)
  rw [decide_eq_false h2]
  have hLay : ∃ r, Ev (fun k => image_Lay.f k x0 sp bl) r ∧ Ev (fun k => fuglemanref19_Lay.f k x0 sp bl true) r := by
    have jt : ∀ b, b = true → Ev (fun k => image_Lay.j0 k x0 sp bl b) (2, -1) := fun b hb => Ev.step (fun k => rfl) (Ev.pos hb (Ev.now _))
    have kt : ∀ b, b = true → Ev (fun k => fuglemanref19_Lay.j0 k x0 sp bl true b) (2, -1) := fun b hb => Ev.step (fun k => rfl) (Ev.pos hb (Ev.now _))
    by_cases hlo : x0 < 0 ∨ x0 > 64
    · exact ⟨(2, -1), Ev.ite (fun _ => jt _ rfl) (fun c => jt _ (decide_eq_true (by omega))), Ev.pos rfl (Ev.ite (fun _ => kt _ rfl) (fun c => kt _ (decide_eq_true (by omega))))⟩
    · obtain ⟨n, rfl⟩ := Int.eq_ofNat_of_zero_le (show 0 ≤ x0 by omega)
      obtain ⟨r, ra, rb⟩ := all_both (n : Int) sp bl true (by omega) (by omega) (Mk 0 n) (Mk_lt _ _ (by omega)) (fun m hm => by
        rw [Mk_bit, Bool.true_and]
        exact decide_eq_decide.2 (by omega))
      refine ⟨r, Ev.neg (by omega) ?_, Ev.pos rfl (Ev.neg (by omega) ?_)⟩
      · rw [decide_eq_false (by omega)]
        exact Ev.step (fun k => rfl) (Ev.bindS (mask_is 0 n (by omega)) (Ev.bind ra (Ev.now _)))
      · rw [decide_eq_false (by omega)]
        exact rb
  obtain ⟨r, ra, rb⟩ := hLay
  obtain ⟨q, qa, qb⟩ := all_both x0 sp bl false (by omega) (by omega) 0 (by decide) (fun m hm => by rw [Nat.zero_testBit]; rfl)
  refine Ev.step (fun k => rfl) (Ev.bind ra (Ev.bind rb (Ev.bind (a := q) (Ev.bind qa (Ev.now _)) (Ev.bind (a := q) (Ev.neg (by simp) qb) (Ev.pos rfl (Ev.pos rfl (Ev.pos rfl ?_)))))))
  exact Ev.to (by simp) (Ev.now _)

end Go.Proofs.Ytpjpjamaimahaaa.Pure
