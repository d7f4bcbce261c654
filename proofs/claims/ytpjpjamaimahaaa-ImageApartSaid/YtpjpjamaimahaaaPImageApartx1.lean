/- A part of a proof: functions of the program as functions over numbers and lists, and that the program's calls answer as these do. Written by a program for this claim. -/
import Derived.Test.YtpjpjamaimahaaaPImageApartx0
import Derived.Test.YtpjpjamaimahaaaCopy
namespace Go.Proofs.Ytpjpjamaimahaaa.PImageApart
open Go.RowKit Go.Proofs.YtpjpjamaimahaaaW.PrintWords Go.Proofs.YtpjpjamaimahaaaW.PrintLast Go.Proofs.YtpjpjamaimahaaaW.PrintMore
attribute [local go_sem] max2_int min2_int max_two min_two max_three min_three max_four min_four   -- for this text's walks alone
set_option linter.unusedVariables false
set_option linter.unusedSimpArgs false

/-! ### image_put: function 16 -/
def image_put.S (l : List Int) (a : Int) (s : ByteArray) : List Int := l.mapIdx fun i x => if a ≤ (i : Int) ∧ (i : Int) - a < (s.size : Int) then bt s ((i : Int) - a) else x
def image_put.f (k : Nat) (l0 : List Int) (a1 : Int) (a2 : ByteArray) : Option (List Int) := if -9223372036854775808 ≤ a1 ∧ a1 ≤ 9223372036854775807 ∧ a2.size ≤ 9223372036854775807 then some (image_put.S l0 a1 a2) else none
theorem image_put.mono : ∀ a0 a1 a2 k, LeO (image_put.f k a0 a1 a2) (image_put.f (k + 1) a0 a1 a2) := fun _ _ _ _ => LeO.refl _
theorem image_put.S_get (l : List Int) (a : Int) (s : ByteArray) (i : Nat) : (image_put.S l a s)[i]? = l[i]?.map fun x => if a ≤ (i : Int) ∧ (i : Int) - a < (s.size : Int) then bt s ((i : Int) - a) else x := by
  unfold image_put.S
  rw [List.getElem?_mapIdx]
theorem image_put.S_none (l : List Int) (a : Int) (s : ByteArray) (h : ∀ i : Nat, i < l.length → ¬ (a ≤ (i : Int) ∧ (i : Int) - a < (s.size : Int))) : image_put.S l a s = l := by
  apply List.ext_getElem?
  intro i
  rw [image_put.S_get]
  by_cases hi : i < l.length
  · rw [List.getElem?_eq_getElem hi, Option.map_some, if_neg (h i hi)]
  · rw [List.getElem?_eq_none (by omega)]
    rfl
theorem image_put.S_copy (l : List Int) (o : Nat) (s : ByteArray) (ho : o ≤ l.length) : Go.Proofs.Ytpjpjamaimahaaa.Copy.splice l o ((bytesOf s).take (l.length - o)) = image_put.S l (o : Int) s := by
  have hlt : (bytesOf s).length = s.size := bytesOf_length s
  have hle : ((bytesOf s).take (l.length - o)).length = min s.size (l.length - o) := by rw [List.length_take, hlt]; omega
  apply List.ext_getElem?
  intro i
  rw [Go.Proofs.Ytpjpjamaimahaaa.Copy.splice_get _ _ _ (by rw [hle]; omega), image_put.S_get, hle]
  by_cases hi : i < l.length
  · rw [List.getElem?_eq_getElem hi, Option.map_some]
    by_cases hc : o ≤ i ∧ i < o + min s.size (l.length - o)
    · rw [if_pos hc, if_pos (by omega), List.getElem?_take_of_lt (by omega), List.getElem?_eq_getElem (by omega)]
      congr 1
      have h2 := rd_bytesOf s ((i - o : Nat) : Int)
      unfold rd at h2
      rw [show ((i - o : Nat) : Int).toNat = i - o from rfl, List.getD_eq_getElem?_getD, List.getElem?_eq_getElem (by omega)] at h2
      rw [show (i : Int) - (o : Int) = ((i - o : Nat) : Int) by omega]
      exact h2
    · rw [if_neg hc, if_neg (by omega)]
  · rw [List.getElem?_eq_none (l := l) (by omega), if_neg (by omega)]
    rfl

theorem image_put.bt_drop (s : ByteArray) (m i : Nat) : bt (s.extract m s.size) (i : Int) = bt s ((m + i : Nat) : Int) := by
  unfold bt
  have e1 : ((i : Int)).toNat = i := rfl
  have e2 : (((m + i : Nat) : Int)).toNat = m + i := rfl
  simp only [e1, e2, ByteArray.size_extract, Nat.min_self]
  by_cases h : m + i < s.size
  · rw [dif_pos h, dif_pos (by omega), ByteArray.getElem_extract]
  · rw [dif_neg h, dif_neg (by omega)]
theorem image_put.S_low (l : List Int) (m : Nat) (s : ByteArray) (hm : m < s.size) : image_put.S l 0 (s.extract m s.size) = image_put.S l (-(m : Int)) s := by
  apply List.ext_getElem?
  intro i
  rw [image_put.S_get, image_put.S_get]
  congr 1
  funext x
  rw [ByteArray.size_extract, Nat.min_self]
  by_cases h : m + i < s.size
  · rw [if_pos (by omega), if_pos (by omega)]
    have := image_put.bt_drop s m i
    rw [show ((i : Int) - 0) = (i : Int) by omega, show ((i : Int) - -(m : Int)) = ((m + i : Nat) : Int) by omega]
    exact this
  · rw [if_neg (by omega), if_neg (by omega)]

set_option maxHeartbeats 2000000 in
set_option maxRecDepth 100000 in
theorem image_put.calls (k : Nat) (P0_ : Nat → Prop) (u9000_ : Value) (l0 : List Int) (a1 : Int) (a2 : ByteArray) (r : List Int) (w0 w : World) (hB : Below w0.heap.size w0 w) (ho0 : Kd.R (Kd.int .u8) 5 w w0.heap.size P0_ u9000_ l0) (h : image_put.f k l0 a1 a2 = some r) :
    Calls Try.prog 16 #[u9000_, .int .i64 a1, .string a2] w fun e w' => e = .returned (.tuple #[]) ∧ Kd.R (Kd.int .u8) 5 w' w0.heap.size (fun k_ => (P0_ k_ ∨ w.heap.size ≤ k_)) u9000_ r ∧ Below w0.heap.size w0 w' ∧ Kept w w' (fun k_ => P0_ k_) := by
  unfold image_put.f at h
  by_cases hbd : -9223372036854775808 ≤ a1 ∧ a1 ≤ 9223372036854775807 ∧ a2.size ≤ 9223372036854775807
  · rw [if_pos hbd] at h
    obtain rfl := Option.some.inj h
    obtain ⟨A, c, rfl, hlc, hC⟩ := Kd.R_reads ho0
    have hmax := Kd.C_max hC
    have HO := Aside0.mk (Kd.R_mono ho0 (ok' := fun k_ => (P0_ k_ ∨ w.heap.size ≤ k_)) (fun _ h => .inl h))
    have HB := Aside0.mk hB
    have HR := Aside0.mk ho0
    clear hB ho0 hC h
    obtain ⟨hb1, hb2, hb3⟩ := hbd
    by_cases n1 : a1 < 0
    · have hw : wrap64 (-a1) = if a1 = -9223372036854775808 then -9223372036854775808 else -a1 := by
        unfold wrap64
        split <;> omega
      have b0 : decide (a1 < 0) = true := decide_eq_true n1
      by_cases n2 : wrap64 (-a1) < 0
      · have e : image_put.S l0 a1 a2 = l0 := image_put.S_none _ _ _ (fun i hi hx => by
          rw [hw] at n2
          split at n2 <;> omega)
        rw [e]
        have b1 : decide (wrap64 (-a1) < 0) = true := decide_eq_true n2
        clear hw n1 n2 e hb1 hb2
        go_enter Try.func16, Try.ntmps16
        go_wp2
        first | go_end0 | ((try simp only [Exit.inBlock, Exit.then]); refine bodyPost_ret (results_none rfl _ _ _) rfl ?_)
        exact ⟨rfl, HO.out, HB.out, Kept.refl _ _⟩
      · by_cases n3 : wrap64 (-a1) ≥ (a2.size : Int)
        · have e : image_put.S l0 a1 a2 = l0 := image_put.S_none _ _ _ (fun i hi hx => by
            rw [hw] at n2 n3
            split at n2 <;> omega)
          rw [e]
          have b1 : decide (wrap64 (-a1) < 0) = false := decide_eq_false n2
          have b2 : decide ((a2.size : Int) ≤ wrap64 (-a1)) = true := decide_eq_true n3
          clear hw n1 n2 n3 e hb1 hb2
          go_enter Try.func16, Try.ntmps16
          go_wp2
          first | go_end0 | ((try simp only [Exit.inBlock, Exit.then]); refine bodyPost_ret (results_none rfl _ _ _) rfl ?_)
          exact ⟨rfl, HO.out, HB.out, Kept.refl _ _⟩
        · obtain ⟨m, hm⟩ := Int.eq_ofNat_of_zero_le (show 0 ≤ wrap64 (-a1) by omega)
          have hma : a1 = -(m : Int) := by
            rw [hw] at hm n2
            split at hm <;> omega
          have hms : m < a2.size := by omega
          have b1 : decide (wrap64 (-a1) < 0) = false := decide_eq_false n2
          have b2 : decide ((a2.size : Int) ≤ wrap64 (-a1)) = false := decide_eq_false n3
          rw [hm] at b1 b2
          have hmw : IntKind.i64.wrap (-a1) = (m : Int) := (i64_w _).trans hm
          have hm1 : 0 ≤ ((m : Nat) : Int) := by omega
          have hm2 : ((m : Nat) : Int) ≤ (a2.size : Int) := by omega
          have hS : image_put.S l0 0 (a2.extract m a2.size) = image_put.S l0 a1 a2 := by
            rw [hma]
            exact image_put.S_low l0 m a2 hms
          rw [← hS]
          clear hS
          clear hw n1 n2 n3 hma hb1 hb2
          by_cases n5 : 0 < l0.length
          · obtain ⟨g, cap, he, hg1, hg2, _⟩ := Kd.R_form HR.out n5
            injection he with e1 e2 e3
            subst e1 e3
            clear e2
            have hcopy := Go.Proofs.Ytpjpjamaimahaaa.Copy.R_copy (P := Try.prog) HR.out 0 (Nat.zero_le _) (a2.extract m a2.size)
            rw [image_put.S_copy _ _ _ (Nat.zero_le _)] at hcopy
            obtain ⟨w1, hrun0, hR1, hgr⟩ := hcopy
            have hrun := hrun0 37 9 3 5 c Try.underlying37 (by kernel_rfl)
            rw [Nat.sub_zero] at hrun
            have HR1 := Aside0.mk hR1
            have HG := Aside0.mk hgr
            clear hrun0 hR1 hgr
            have hok := Aside0.mk (HR.out.1 g rfl)
            have b4 : decide ((0 : Int) < (l0.length : Int)) = true := decide_eq_true (by omega)
            go_enter Try.func16, Try.ntmps16
            go_wp2
            first | go_end0 | ((try simp only [Exit.inBlock, Exit.then]); refine bodyPost_ret (results_none rfl _ _ _) rfl ?_)
            exact ⟨rfl, Kd.R_mono HR1.out (fun _ h => .inl h), pw_below_grown HB.out (some g) (HB.out.size) HG.out (fun k hk => by cases hk; exact hg1), Kept.of_grown HG.out (Kept.refl _ _) (fun k hk => by cases hk; exact .inl hok.out)⟩
          · have e : image_put.S l0 0 (a2.extract m a2.size) = l0 := image_put.S_none _ _ _ (fun i hi hx => by omega)
            rw [e]
            have b4 : decide ((0 : Int) < (l0.length : Int)) = false := decide_eq_false (by omega)
            clear e
            go_enter Try.func16, Try.ntmps16
            go_wp2
            first | go_end0 | ((try simp only [Exit.inBlock, Exit.then]); refine bodyPost_ret (results_none rfl _ _ _) rfl ?_)
            exact ⟨rfl, HO.out, HB.out, Kept.refl _ _⟩
    · by_cases n4 : a1 < (l0.length : Int)
      · obtain ⟨g, cap, he, hg1, hg2, _⟩ := Kd.R_form HR.out (by omega)
        injection he with e1 e2 e3
        subst e1 e3
        clear e2
        obtain ⟨o, rfl⟩ := Int.eq_ofNat_of_zero_le (show 0 ≤ a1 by omega)
        have b1 : decide (((o : Nat) : Int) < 0) = false := decide_eq_false n1
        have b2 : decide (((o : Nat) : Int) < (l0.length : Int)) = true := decide_eq_true n4
        have b3 : o < l0.length := by omega
        have hcopy := Go.Proofs.Ytpjpjamaimahaaa.Copy.R_copy (P := Try.prog) HR.out o (Nat.le_of_lt b3) a2
        rw [image_put.S_copy _ _ _ (Nat.le_of_lt b3)] at hcopy
        obtain ⟨w1, hrun0, hR1, hgr⟩ := hcopy
        have hrun := hrun0 37 9 3 5 (c - o) Try.underlying37 (by kernel_rfl)
        have HR1 := Aside0.mk hR1
        have HG := Aside0.mk hgr
        clear hrun0 hR1 hgr
        have hok := Aside0.mk (HR.out.1 g rfl)
        go_enter Try.func16, Try.ntmps16
        go_wp2
        first | go_end0 | ((try simp only [Exit.inBlock, Exit.then]); refine bodyPost_ret (results_none rfl _ _ _) rfl ?_)
        exact ⟨rfl, Kd.R_mono HR1.out (fun _ h => .inl h), pw_below_grown HB.out (some g) (HB.out.size) HG.out (fun k hk => by cases hk; exact hg1), Kept.of_grown HG.out (Kept.refl _ _) (fun k hk => by cases hk; exact .inl hok.out)⟩
      · have e : image_put.S l0 a1 a2 = l0 := image_put.S_none _ _ _ (fun i hi hx => by omega)
        rw [e]
        have b1 : decide (a1 < 0) = false := decide_eq_false n1
        have b2 : decide (a1 < (l0.length : Int)) = false := decide_eq_false n4
        clear e n1 n4 hb1 hb2
        go_enter Try.func16, Try.ntmps16
        go_wp2
        first | go_end0 | ((try simp only [Exit.inBlock, Exit.then]); refine bodyPost_ret (results_none rfl _ _ _) rfl ?_)
        exact ⟨rfl, HO.out, HB.out, Kept.refl _ _⟩
  · rw [if_neg hbd] at h
    cases h

/-! ### image_Inputs: function 7 -/
def image_Inputs.l0 : Nat → List (S32) → List ByteArray → List Int → Int → Int → Option (ByteArray)
  | 0, _, _, _, _, _ => none
  | k + 1, x2, x3, x9, x25, x26 => if x26 < x25 then (if 0 ≤ x26 then (if x26 < (x2.length : Int) then (if x26 < (x3.length : Int) then ((image_put.f k x9 ((rd_T32 x2 x26).f1) (rdOf ByteArray.empty x3 x26)).bind fun t108 => (image_Inputs.l0 k x2 x3 t108 x25 (wrap64 (x26 + 1)))) else (none)) else (none)) else (none)) else (some (strOfNums x9))
def image_Inputs.f (k : Nat) (a0 : Int) (a1 : ByteArray) (l2 : List (S32)) (l3 : List ByteArray) : Option (ByteArray) := if 64 ≤ 281474976710656 then (if 0 ≤ (mn (a1.size : Int) (mx a0 0)) then (if (mn (a1.size : Int) (mx a0 0)) ≤ (a1.size : Int) then ((image_put.f k (List.replicate 64 0) 0 (a1.extract 0 ((mn (a1.size : Int) (mx a0 0)) : Int).toNat)).bind fun t105 => (image_Inputs.l0 k l2 l3 t105 (mn (l2.length : Int) (l3.length : Int)) 0)) else (none)) else (none)) else (none)
theorem image_Inputs.mono_l : ∀ k, (∀ y0 y1 y2 y3 y4, LeO (image_Inputs.l0 k y0 y1 y2 y3 y4) (image_Inputs.l0 (k + 1) y0 y1 y2 y3 y4))
  | 0 => fun _ _ _ _ _ r h => by simp [image_Inputs.l0] at h
  | k + 1 => by
    have ih0 := image_Inputs.mono_l k
    · intro y0 y1 y2 y3 y4
      unfold image_Inputs.l0
      repeat' first
      | (with_reducible exact ih0 _ _ _ _ _)
      | (with_reducible exact image_put.mono _ _ _ _)
      | (with_reducible exact LeO.refl _)
      | (with_reducible exact LeO.none _)
      | (with_reducible refine LeO.ite ?_ ?_)
      | (with_reducible refine LeO.bind ?_ (fun _ => ?_))
      | exact ih0 _ _ _ _ _
      | exact image_put.mono _ _ _ _
      | exact LeO.none _
      | refine LeO.ite ?_ ?_
      | refine LeO.bind ?_ (fun _ => ?_)
theorem image_Inputs.mono : ∀ a0 a1 a2 a3 k, LeO (image_Inputs.f k a0 a1 a2 a3) (image_Inputs.f (k + 1) a0 a1 a2 a3) := by
  intro a0 a1 a2 a3 k
  have ih0 := image_Inputs.mono_l k
  unfold image_Inputs.f
  repeat' first
      | (with_reducible exact ih0 _ _ _ _ _)
      | (with_reducible exact image_put.mono _ _ _ _)
      | (with_reducible exact LeO.refl _)
      | (with_reducible exact LeO.none _)
      | (with_reducible refine LeO.ite ?_ ?_)
      | (with_reducible refine LeO.bind ?_ (fun _ => ?_))
      | exact ih0 _ _ _ _ _
      | exact image_put.mono _ _ _ _
      | exact LeO.none _
      | refine LeO.ite ?_ ?_
      | refine LeO.bind ?_ (fun _ => ?_)
def image_Inputs.T6 : Bool × List (List Nat × List Nat) := (true, [([], []), ([], []), ([], []), ([1, 2], [1, 2]), ([3], [3]), ([4], [4]), ([], []), ([], []), ([6, 7], [6, 7]), ([8], [8]), ([0, 5, 9], [0, 5, 9])])
def image_Inputs.B6 : List Nat := [0, 0, 0, 6, 14, 30, 0, 0, 192, 448, 1023]
theorem image_Inputs.tab6 : rtab .any (opsOf Try.f7 6) = image_Inputs.T6 := by kernel_rfl
theorem image_Inputs.bits6 : waitsOk image_Inputs.T6.2 image_Inputs.B6 = true := by kernel_rfl
set_option maxHeartbeats 8000000 in
set_option maxRecDepth 100000 in
theorem image_Inputs.calls (k : Nat) (a0 : Int) (a1 : ByteArray) (A2 : Option Addr) (c2 : Nat) (l2 : List (S32)) (A3 : Option Addr) (c3 : Nat) (l3 : List ByteArray) (r : ByteArray) (w : World) (hr2 : Kd.C k32 w A2 l2.length l2) (hc2 : l2.length ≤ c2) (hr3 : Kd.C Kd.string w A3 l3.length l3) (hc3 : l3.length ≤ c3) (h : image_Inputs.f k a0 a1 l2 l3 = some r) :
    Calls Try.prog 7 #[.int .i64 a0, .string a1, .slice A2 l2.length c2, .slice A3 l3.length c3] w fun e w' => e = .returned (.string r) ∧ Below w.heap.size w w' := by
  have HR2 := Aside0.mk hr2
  have HC2 := Aside0.mk hc2
  clear hr2 hc2
  have HR3 := Aside0.mk hr3
  have HC3 := Aside0.mk hc3
  clear hr3 hc3
  have HB := Aside0.mk (Below.refl w.heap.size w)
  have H : (if 64 ≤ 281474976710656 then (if 0 ≤ (mn (a1.size : Int) (mx a0 0)) then (if (mn (a1.size : Int) (mx a0 0)) ≤ (a1.size : Int) then ((image_put.f k (List.replicate 64 0) 0 (a1.extract 0 ((mn (a1.size : Int) (mx a0 0)) : Int).toNat)).bind fun t105 => (image_Inputs.l0 k l2 l3 t105 (mn (l2.length : Int) (l3.length : Int)) 0)) else (none)) else (none)) else (none)) = some r := h
  clear h
  by_cases c5 : 64 ≤ 281474976710656
  · rw [if_pos c5] at H
    have c5b0 := eq_true c5
    have c5b1 : decide (64 ≤ 281474976710656) = true := decide_eq_true c5
    clear c5
    obtain ⟨y102, hy102⟩ : ∃ y_ : List Int, y_ = (List.replicate 64 0) := ⟨_, rfl⟩
    replace H : (if 0 ≤ (mn (a1.size : Int) (mx a0 0)) then (if (mn (a1.size : Int) (mx a0 0)) ≤ (a1.size : Int) then ((image_put.f k y102 0 (a1.extract 0 ((mn (a1.size : Int) (mx a0 0)) : Int).toNat)).bind fun t105 => (image_Inputs.l0 k l2 l3 t105 (mn (l2.length : Int) (l3.length : Int)) 0)) else (none)) else (none)) = some r := by first | (rw [hy102]; with_reducible exact H) | (have H2_ := (Option.bind_some _ _).symm.trans H; rw [hy102]; with_reducible exact H2_) | (have H2_ := (Option.bind_some _ _).symm.trans H; with_reducible exact H2_) | with_reducible exact H | (rw [hy102]; exact H) | exact H
    have Ny102 := Aside0.mk hy102
    clear hy102
    obtain ⟨ji6, hji6⟩ : ∃ j_ : Int, (mx a0 0) = j_ := ⟨_, rfl⟩
    replace H : (if 0 ≤ (mn (a1.size : Int) (ji6)) then (if (mn (a1.size : Int) (ji6)) ≤ (a1.size : Int) then ((image_put.f k y102 0 (a1.extract 0 ((mn (a1.size : Int) (ji6)) : Int).toNat)).bind fun t105 => (image_Inputs.l0 k l2 l3 t105 (mn (l2.length : Int) (l3.length : Int)) 0)) else (none)) else (none)) = some r := by first | (rw [hji6] at H; exact H) | (simp only [hji6] at H ⊢; exact H)
    (try (have hji6l : 0 ≤ ji6 := by (rw [← hji6]; unfold mx; (repeat' split) <;> omega)))
    (try (have hji6m : 0 ≤ ji6 := by omega))
    have hji6_ : (if a0 < 0 then 0 else a0) = ji6 := hji6
    obtain ⟨ji7, hji7⟩ : ∃ j_ : Int, (mn (a1.size : Int) (ji6)) = j_ := ⟨_, rfl⟩
    replace H : (if 0 ≤ (ji7) then (if (ji7) ≤ (a1.size : Int) then ((image_put.f k y102 0 (a1.extract 0 ((ji7) : Int).toNat)).bind fun t105 => (image_Inputs.l0 k l2 l3 t105 (mn (l2.length : Int) (l3.length : Int)) 0)) else (none)) else (none)) = some r := by first | (rw [hji7] at H; exact H) | (simp only [hji7] at H ⊢; exact H)
    have hji7_ : (if (ji6) < (a1.size : Int) then (ji6) else (a1.size : Int)) = ji7 := hji7
    by_cases c8 : 0 ≤ (ji7)
    · rw [if_pos c8] at H
      have c8b0 := eq_true c8
      have c8b1 : decide (0 ≤ (ji7)) = true := decide_eq_true c8
      clear c8
      by_cases c9 : (ji7) ≤ (a1.size : Int)
      · rw [if_pos c9] at H
        have c9b0 := eq_true c9
        have c9b1 : decide ((ji7) ≤ (a1.size : Int)) = true := decide_eq_true c9
        clear c9
        replace H := Option.bind_eq_some_iff.mp H
        obtain ⟨t105, A100, H⟩ := H
        replace H : (image_Inputs.l0 k l2 l3 t105 (mn (l2.length : Int) (l3.length : Int)) 0) = some r := H
        have A10 := Aside0.mk A100
        clear A100
        obtain ⟨ji11, hji11⟩ : ∃ j_ : Int, (mn (l2.length : Int) (l3.length : Int)) = j_ := ⟨_, rfl⟩
        replace H : (image_Inputs.l0 k l2 l3 t105 ji11 0) = some r := by first | (rw [hji11] at H; exact H) | (simp only [hji11] at H ⊢; exact H)
        (try rw [hji11] at A10)
        (try (have hji11l : 0 ≤ ji11 := by (rw [← hji11]; unfold mn; (repeat' split) <;> omega)))
        (try (have hji11m : 0 ≤ ji11 := by omega))
        have hji11_ : (if (l3.length : Int) < (l2.length : Int) then (l3.length : Int) else (l2.length : Int)) = ji11 := hji11
        have hji11n : (if l3.length < l2.length then (l3.length : Int) else (l2.length : Int)) = ji11 := by rw [← hji11_]; simp only [Int.ofNat_lt]
        have H' := Aside0.mk H
        clear H
        go_enter Try.func7, Try.ntmps7
        go_wp2_with (first | ((with_reducible refine gate_dst (N := 11) rfl ?_); refine Kd.R_make (Kd.int .u8) _ 5 rfl (N := 11) rfl 37 _ _ rfl 64 rfl rfl Try.underlying37 (.int .u8 0) 1 info5 rfl (by decide) (by omega) 0 (ok := fun _ => True) (okp := fun _ => True) rfl (fun _ hk => hk) trivial (by omega) (by omega) (Below.refl _ _) (Nat.le_refl _) ?_; intro v103 w12 ho13 hb hg_ hnew_; clear hg_ hnew_; (first | rw [← Ny102.out] at ho13 | (simp only [Int.reduceToNat] at ho13; rw [← Ny102.out] at ho13)); have n0_ := Aside0.mk (Kd.R_lower ho13 (below_size (by repeat (first | (with_reducible first | exact HB.out | apply below_alloc | apply pw_below_drewN | apply below_drew1) | exact HB.out)))); have n1_ := Aside0.mk (below_step (by repeat (first | (with_reducible first | exact HB.out | apply below_alloc | apply pw_below_drewN | apply below_drew1) | exact HB.out)) hb); clear HB; have HO104 := n0_; have HB := n1_; clear n0_ n1_; clear hb ho13; obtain ⟨Ao14, co14, eo14⟩ := Kd.R_slice HO104.out; subst eo14) | ((with_reducible refine gate_callee (f := 16) rfl ?_); refine goesL_ (some 20) rfl rfl Try.func16 (by kernel_rfl) rfl #[.slice Ao14 y102.length co14, .int .i64 0, .string (a1.extract 0 ((ji7) : Int).toNat)] rfl (by (try simp only [List.map_toArray, List.map_cons, List.map_nil]); first | done | (simp only [hji7]; rfl) | rfl | (simp only [List.length_drop, List.length_take]; rfl)) ?_; (with_reducible refine (image_put.calls k (fun k_ => some k_ = (.slice Ao14 y102.length co14 : Value).ownBlock) (.slice Ao14 y102.length co14) y102 0 (a1.extract 0 ((ji7) : Int).toNat) t105 w _ ?side1 ?side2 A10.out).mono ?_); (case side1 => repeat (first | (with_reducible first | exact HB.out | apply below_alloc | apply pw_below_drewN | apply below_drew1) | exact HB.out)); (case side2 => exact Kd.R_tight rfl HO104.out); rintro e w15 ⟨rfl, hy0, hb, hkp⟩; refine ⟨_, rfl, ?_⟩; have n0_ := Aside0.mk (Kd.R_reok rfl hy0 (fun k_ e_ => HO104.out.1 k_ e_)); have n1_ := Aside0.mk (hb); clear HO104; clear HB; have HO104 := n0_; have HB := n1_; clear n0_ n1_; (try clear hb); (try clear hkp); (try clear hy0)))
        go_loopg [26] k (fun kq v26 w' => ∃ (x9_1 : List Int) (x26_1 : Int), v26 = .int .i64 x26_1 ∧ Aside0 (image_Inputs.l0 kq l2 l3 x9_1 ji11 x26_1 = some r) ∧ Aside0 (kq ≤ k) ∧ Aside0 (Kd.R (Kd.int .u8) 5 w' w.heap.size (fun _ => True) (.slice Ao14 y102.length co14) x9_1) ∧ Aside0 (Below w.heap.size w w'))
        case atStart => exact ⟨(t105), (0), (by first | rfl | (simp; done) | (simp [*]; done)), H', ⟨Nat.le_refl _⟩, ⟨by (with_reducible repeat (first | apply Kd.R_alloc | apply Kd.R_drewN | apply Kd.R_drew)); exact HO104.out⟩, ⟨by repeat (first | (with_reducible first | exact HB.out | apply below_alloc | apply pw_below_drewN | apply below_drew1) | exact HB.out)⟩⟩
        case round =>
          clear H'
          try clear c1
          try clear c2
          try clear p2
          try clear c3
          try clear c5
          try clear c5b0
          try clear c5b1
          try clear c7
          try clear c8
          try clear c8b0
          try clear c8b1
          try clear c9
          try clear c9b0
          try clear c9b1
          obtain ⟨x9_1, x26_1, rfl, HA, HK1, HO_9, HB⟩ := hrel
          have hl9_1 := (Kd.R_reads' HO_9.out).1
          rw [hl9_1] at HO_9
          (try simp only [hl9_1])
          cases gk with
          | zero => exact absurd HA.out (by simp [image_Inputs.l0])
          | succ k1 =>
            have H := HA.out
            clear HA
            simp only [image_Inputs.l0] at H
            by_cases c16 : x26_1 < ji11
            · rw [if_pos c16] at H
              have c16b0 : decide (x26_1 < ji11) = true := decide_eq_true c16
              clear c16
              by_cases c17 : 0 ≤ x26_1
              · rw [if_pos c17] at H
                have c17b0 : decide (0 ≤ x26_1) = true := decide_eq_true c17
                clear c17
                by_cases c18 : x26_1 < (l2.length : Int)
                · rw [if_pos c18] at H
                  have c18b0 : decide (x26_1 < (l2.length : Int)) = true := decide_eq_true c18
                  clear c18
                  by_cases c19 : x26_1 < (l3.length : Int)
                  · rw [if_pos c19] at H
                    have c19b0 : decide (x26_1 < (l3.length : Int)) = true := decide_eq_true c19
                    clear c19
                    replace H := Option.bind_eq_some_iff.mp H
                    obtain ⟨t108, A200, H⟩ := H
                    replace H : (image_Inputs.l0 k1 l2 l3 t108 ji11 (wrap64 (x26_1 + 1))) = some r := H
                    have A20 := Aside0.mk A200
                    clear A200
                    have H' := Aside0.mk H
                    clear H
                    try go_wp2
                    have n0_ := Aside0.mk (Kd.R_drew HO_9.out)
                    have n1_ := Aside0.mk (below_drew1 HB.out)
                    clear HO_9
                    clear HB
                    have HO_9 := n0_
                    have HB := n1_
                    clear n0_ n1_
                    have p106 : 0 ≤ (x26_1 : Int) := of_decide_eq_true (by first | (with_reducible assumption) | assumption)
                    have q106 : x26_1 < (l2.length : Int) := of_decide_eq_true (by first | (with_reducible assumption) | assumption)
                    obtain ⟨ad106, e106, hx106_0, hx106_1⟩ := at_T32 HR2.out x26_1 p106 q106
                    have hw106_1 := hx106_1
                    have hw106_0 := hx106_0
                    cases e106
                    replace hx106_0 := (HB.out.cell (World.block_lt_of_cell? w _ hx106_0)).trans hx106_0
                    replace hx106_1 := (HB.out.cell (World.block_lt_of_cell? w _ hx106_1)).trans hx106_1
                    replace p106 := eq_true p106
                    replace q106 := eq_true q106
                    have p107 : 0 ≤ (x26_1 : Int) := of_decide_eq_true (by first | (with_reducible assumption) | assumption)
                    have q107 : x26_1 < (l3.length : Int) := of_decide_eq_true (by first | (with_reducible assumption) | assumption)
                    obtain ⟨ad107, e107, hx107_0⟩ := Kd.at_string HR3.out x26_1 p107 q107
                    have hw107_0 := hx107_0
                    cases e107
                    replace hx107_0 := (HB.out.cell (World.block_lt_of_cell? w _ hx107_0)).trans hx107_0
                    replace p107 := eq_true p107
                    replace q107 := eq_true q107
                    refine start_ (n := 11) (S := fun w' => w'.cell? (ad106.add ((x26_1).toNat * 2)) = some (.int .i64 ((rd_T32 l2 x26_1).f0)) ∧ w'.cell? ⟨(ad106.add ((x26_1).toNat * 2)).block, (ad106.add ((x26_1).toNat * 2)).off + 1, none⟩ = some (.int .i64 ((rd_T32 l2 x26_1).f1)) ∧ w'.cell? (ad107.add (x26_1).toNat) = some (.string (rdOf ByteArray.empty l3 x26_1))) (ds := []) #[false, false, false, false, false, false, false, false, false, false, false] (by kernel_rfl) rfl rfl ⟨((HB.out.cell (World.block_lt_of_cell? w _ hw106_0)).trans hw106_0), ((HB.out.cell (World.block_lt_of_cell? w _ hw106_1)).trans hw106_1), ((HB.out.cell (World.block_lt_of_cell? w _ hw107_0)).trans hw107_0)⟩ (fun hHeld => ?_); refine with_tabW image_Inputs.tab6 image_Inputs.bits6 (fun HT_ HW_ => ?_)
                    generalize wr.drew = w21 at HO_9 HB hx106_0 hx106_1 hx107_0 hHeld ⊢
                    refine pure_ (i := 0) (N := some 29) (v := ?_) (a' := ?_) #[true, false, false, false, false, false, false, false, false, false, false] rfl rfl (any_of HT_.out (by kernel_rfl)) (fun _ _ _ h => h) (Or.inl ⟨by rfl, ?_⟩) ?_ ?_
                    rotate_left
                    · intro w'
                      go_simp
                      with_reducible rfl
                    rotate_left
                    · simp only [Act.put, List.setIfInBounds_toArray, List.set_cons_zero, List.set_cons_succ, i64_w, i32_w]
                      rfl
                    refine pure_ (i := 1) (N := some 30) (v := ?_) (a' := ?_) #[true, true, false, false, false, false, false, false, false, false, false] rfl rfl (any_of HT_.out (by kernel_rfl)) (fun _ _ _ h => h) (Or.inl ⟨by rfl, ?_⟩) ?_ ?_
                    rotate_left
                    · intro w'
                      go_simp
                      with_reducible rfl
                    rotate_left
                    · simp only [Act.put, List.setIfInBounds_toArray, List.set_cons_zero, List.set_cons_succ, i64_w, i32_w]
                      rfl
                    refine pure_ (i := 2) (N := some 31) (v := ?_) (a' := ?_) #[true, true, true, false, false, false, false, false, false, false, false] rfl rfl (any_of HT_.out (by kernel_rfl)) (fun _ _ _ h => h) (Or.inl ⟨by rfl, ?_⟩) ?_ ?_
                    rotate_left
                    · intro w'
                      go_simp
                      with_reducible rfl
                    rotate_left
                    · simp only [Act.put, List.setIfInBounds_toArray, List.set_cons_zero, List.set_cons_succ, i64_w, i32_w]
                      rfl
                    refine pure_ (i := 3) (N := some 32) (v := ?_) (a' := ?_) #[true, true, true, true, false, false, false, false, false, false, false] rfl rfl (any_of HT_.out (by kernel_rfl)) (fun _ _ _ h => h) (Or.inl ⟨by rfl, ?_⟩) ?_ ?_
                    rotate_left
                    · intro w'
                      go_simp
                      with_reducible rfl
                    rotate_left
                    · simp only [Act.put, List.setIfInBounds_toArray, List.set_cons_zero, List.set_cons_succ, i64_w, i32_w]
                      rfl
                    refine pure_ (i := 4) (N := some 33) (v := ?_) (a' := ?_) #[true, true, true, true, true, false, false, false, false, false, false] rfl rfl (any_of HT_.out (by kernel_rfl)) (fun _ _ _ h => h) (Or.inl ⟨by rfl, ?_⟩) ?_ ?_
                    rotate_left
                    · intro w'
                      go_simp
                      with_reducible rfl
                    rotate_left
                    · simp only [Act.put, List.setIfInBounds_toArray, List.set_cons_zero, List.set_cons_succ, i64_w, i32_w]
                      rfl
                    refine pure_ (i := 6) (N := some 35) (v := ?_) (a' := ?_) #[true, true, true, true, true, false, true, false, false, false, false] rfl rfl (any_of HT_.out (by kernel_rfl)) (fun _ _ _ h => h) (Or.inl ⟨by rfl, ?_⟩) ?_ ?_
                    rotate_left
                    · intro w'
                      go_simp
                      with_reducible rfl
                    rotate_left
                    · simp only [Act.put, List.setIfInBounds_toArray, List.set_cons_zero, List.set_cons_succ, i64_w, i32_w]
                      rfl
                    refine pure_ (i := 7) (N := some 36) (v := ?_) (a' := ?_) #[true, true, true, true, true, false, true, true, false, false, false] rfl rfl (any_of HT_.out (by kernel_rfl)) (fun _ _ _ h => h) (Or.inl ⟨by rfl, ?_⟩) ?_ ?_
                    rotate_left
                    · intro w'
                      go_simp
                      with_reducible rfl
                    rotate_left
                    · simp only [Act.put, List.setIfInBounds_toArray, List.set_cons_zero, List.set_cons_succ, i64_w, i32_w]
                      rfl
                    refine pure_ (i := 8) (N := some 37) (v := ?_) (a' := ?_) #[true, true, true, true, true, false, true, true, true, false, false] rfl rfl (any_of HT_.out (by kernel_rfl)) (fun _ _ _ h => h) (Or.inl ⟨by rfl, ?_⟩) ?_ ?_
                    rotate_left
                    · intro w'
                      go_simp
                      with_reducible rfl
                    rotate_left
                    · simp only [Act.put, List.setIfInBounds_toArray, List.set_cons_zero, List.set_cons_succ, i64_w, i32_w]
                      rfl
                    refine take_ (i := 5) (N := some 34) (v := ?_) (a' := ?_) #[true, true, true, true, true, true, true, true, true, false, false] rfl rfl (take_ofW HT_.out HW_.out (by kernel_rfl)) (fun _ _ _ h => h) (Or.inl ⟨by rfl, ?_⟩) hHeld ?_ ?_
                    rotate_left
                    · rintro w' ⟨s0, s1, s2⟩
                      go_simp
                      with_reducible rfl
                    rotate_left
                    · simp only [Act.put, List.setIfInBounds_toArray, List.set_cons_zero, List.set_cons_succ, i64_w, i32_w]
                      rfl
                    refine take_ (i := 9) (N := some 38) (v := ?_) (a' := ?_) #[true, true, true, true, true, true, true, true, true, true, false] rfl rfl (take_ofW HT_.out HW_.out (by kernel_rfl)) (fun _ _ _ h => h) (Or.inl ⟨by rfl, ?_⟩) hHeld ?_ ?_
                    rotate_left
                    · rintro w' ⟨s0, s1, s2⟩
                      go_simp
                      with_reducible rfl
                    rotate_left
                    · simp only [Act.put, List.setIfInBounds_toArray, List.set_cons_zero, List.set_cons_succ, i64_w, i32_w]
                      rfl
                    refine one_ (i := 10) (N := some 39) #[true, true, true, true, true, true, true, true, true, true, true] rfl rfl (one_of HT_.out (by kernel_rfl)) (by decide) (fun K hK => ?_)
                    refine goes_ Try.func16 (by kernel_rfl) rfl #[.slice Ao14 x9_1.length co14, .int .i64 ((rd_T32 l2 x26_1).f1), .string (rdOf ByteArray.empty l3 x26_1)] (by rfl) rfl rfl (by (try simp only [List.map_toArray, List.map_cons, List.map_nil]); first | done | rfl | (simp only [List.length_drop, List.length_take]; rfl)) ?_
                    with_reducible refine (image_put.calls k1 (fun k_ => some k_ = (.slice Ao14 x9_1.length co14 : Value).ownBlock) (.slice Ao14 x9_1.length co14) x9_1 ((rd_T32 l2 x26_1).f1) (rdOf ByteArray.empty l3 x26_1) t108 w _ ?side1 ?side2 A20.out).mono ?_
                    (case side1 => repeat (first | (with_reducible first | exact HB.out | apply below_alloc | apply pw_below_drewN | apply below_drew1) | exact HB.out))
                    (case side2 => exact Kd.R_tight rfl HO_9.out)
                    rintro e w22 ⟨rfl, hy0, hb, hkp⟩
                    refine ⟨_, rfl, ?_⟩
                    have n0_ := Aside0.mk (Kd.R_reok rfl hy0 (fun k_ e_ => HO_9.out.1 k_ e_))
                    have n1_ := Aside0.mk (hb)
                    clear HO_9
                    clear HB
                    have HO_9 := n0_
                    have HB := n1_
                    clear n0_ n1_
                    (try clear hb)
                    (try clear hkp)
                    (try clear hy0)
                    refine hK.out _ _ ⟨((HB.out.cell (World.block_lt_of_cell? w _ hw106_0)).trans hw106_0), ((HB.out.cell (World.block_lt_of_cell? w _ hw106_1)).trans hw106_1), ((HB.out.cell (World.block_lt_of_cell? w _ hw107_0)).trans hw107_0)⟩ (fun hHeld => ?_)
                    clear hK K
                    refine norm_ (a' := ?_) ?_ ?_
                    rotate_left
                    · show Act.put _ (some 39) _ = _
                      simp only [Act.put, List.setIfInBounds_toArray, List.set_cons_zero, List.set_cons_succ, i64_w, i32_w]
                      rfl
                    refine done_ (done_of HT_.out (by kernel_rfl)) ?_
                    try go_wp2
                    (try simp only [← hl9_1])
                    go_roundg k1
                    case measure => have := HK1.out; omega
                    case rel => exact ⟨(t108), (wrap64 (x26_1 + 1)), (by first | rfl | (simp; done) | (simp [*]; done)), H', ⟨by have := HK1.out; omega⟩, ⟨by (try simp only [hl9_1]); (with_reducible repeat (first | apply Kd.R_alloc | apply Kd.R_drewN | apply Kd.R_drew)); exact HO_9.out⟩, ⟨by repeat (first | (with_reducible first | exact HB.out | apply below_alloc | apply pw_below_drewN | apply below_drew1) | exact HB.out)⟩⟩
                  · rw [if_neg c19] at H
                    exact absurd H (by simp)
                · rw [if_neg c18] at H
                  exact absurd H (by simp)
              · rw [if_neg c17] at H
                exact absurd H (by simp)
            · rw [if_neg c16] at H
              have c16b0 : decide (x26_1 < ji11) = false := decide_eq_false c16
              clear c16
              obtain rfl := Option.some.inj H
              have hcv23 := own_string (P := Try.prog) Try.underlying37 Try.underlying5 Try.underlying9 (Kd.own_of_R HO_9.out)
              go_wp2
              go_ret
              exact ⟨by first | rfl | (simp [errW_none, errW_some] <;> rfl) | (simp only [← hji6, ← hji7, ← hji11]; first | rfl | (simp [errW_none, errW_some] <;> rfl)) | (simp [*, errW_none, errW_some] <;> rfl), by repeat (first | (with_reducible first | exact HB.out | apply below_alloc | apply pw_below_drewN | apply below_drew1) | exact HB.out)⟩
      · rw [if_neg c9] at H
        exact absurd H (by simp)
    · rw [if_neg c8] at H
      exact absurd H (by simp)
  · rw [if_neg c5] at H
    exact absurd H (by simp)

/-! ### image_mask: function 18 -/
def image_mask.f (a0 : Int) (a1 : Int) : Option (Int) := if a1 ≥ 64 then (if 0 ≤ a0 then (some (shl .u64 18446744073709551615 a0)) else (none)) else (if 0 ≤ a1 then (if 0 ≤ a0 then (some (shl .u64 (IntKind.u64.wrap ((shl .u64 1 a1) - 1)) a0)) else (none)) else (none))
set_option maxHeartbeats 8000000 in
set_option maxRecDepth 100000 in
theorem image_mask.calls (a0 : Int) (a1 : Int) (r : Int) (w : World) (h : image_mask.f a0 a1 = some r) :
    Calls Try.prog 18 #[.int .i64 a0, .int .i64 a1] w fun e w' => e = .returned (.int .u64 r) ∧ Drawn0 w w' := by
  have H : (if a1 ≥ 64 then (if 0 ≤ a0 then (some (shl .u64 18446744073709551615 a0)) else (none)) else (if 0 ≤ a1 then (if 0 ≤ a0 then (some (shl .u64 (IntKind.u64.wrap ((shl .u64 1 a1) - 1)) a0)) else (none)) else (none))) = some r := h
  clear h
  by_cases c3 : a1 ≥ 64
  · rw [if_pos c3] at H
    have c3b0 : decide (64 ≤ a1) = true := decide_eq_true c3
    clear c3
    by_cases c4 : 0 ≤ a0
    · rw [if_pos c4] at H
      have c4b0 := eq_true c4
      have c4b1 : decide (0 ≤ a0) = true := decide_eq_true c4
      clear c4
      obtain ⟨ji5, hji5⟩ : ∃ j_ : Int, (shl .u64 18446744073709551615 a0) = j_ := ⟨_, rfl⟩
      replace H : (some ji5) = some r := by first | (rw [hji5] at H; exact H) | (simp only [hji5] at H ⊢; exact H)
      have hji5_ : (IntKind.u64.wrap (18446744073709551615 * 2 ^ min a0.toNat 64)) = ji5 := hji5
      have hji5z : a0 ≤ 64 → (IntKind.u64.wrap (18446744073709551615 * 2 ^ a0.toNat)) = ji5 := shl_small hji5
      obtain rfl := Option.some.inj H
      go_enter Try.func18, Try.ntmps18
      go_wp2
      go_ret
      exact ⟨by first | rfl | (simp; done) | (simp only [← hji5] <;> (first | rfl | simp)) | (simp [*]; done), by repeat (first | exact Drawn0.refl _ | apply Drawn0.step)⟩
    · rw [if_neg c4] at H
      exact absurd H (by simp)
  · rw [if_neg c3] at H
    have c3b0 : decide (64 ≤ a1) = false := decide_eq_false c3
    clear c3
    by_cases c6 : 0 ≤ a1
    · rw [if_pos c6] at H
      have c6b0 := eq_true c6
      have c6b1 : decide (0 ≤ a1) = true := decide_eq_true c6
      clear c6
      obtain ⟨ji7, hji7⟩ : ∃ j_ : Int, (shl .u64 1 a1) = j_ := ⟨_, rfl⟩
      replace H : (if 0 ≤ a0 then (some (shl .u64 (IntKind.u64.wrap ((ji7) - 1)) a0)) else (none)) = some r := by first | (rw [hji7] at H; exact H) | (simp only [hji7] at H ⊢; exact H)
      have hji7_ : (IntKind.u64.wrap (1 * 2 ^ min a1.toNat 64)) = ji7 := hji7
      have hji7z : a1 ≤ 64 → (IntKind.u64.wrap (1 * 2 ^ a1.toNat)) = ji7 := shl_small hji7
      have hji7u : (IntKind.u64.wrap (2 ^ min a1.toNat 64)) = ji7 := by have h_ := hji7_; rw [Int.one_mul] at h_; exact h_
      have hji7v : a1 ≤ 64 → (IntKind.u64.wrap (2 ^ a1.toNat)) = ji7 := fun hle_ => by have h_ := hji7z hle_; rw [Int.one_mul] at h_; exact h_
      by_cases c8 : 0 ≤ a0
      · rw [if_pos c8] at H
        have c8b0 := eq_true c8
        have c8b1 : decide (0 ≤ a0) = true := decide_eq_true c8
        clear c8
        obtain ⟨ji9, hji9⟩ : ∃ j_ : Int, (shl .u64 (IntKind.u64.wrap ((ji7) - 1)) a0) = j_ := ⟨_, rfl⟩
        replace H : (some ji9) = some r := by first | (rw [hji9] at H; exact H) | (simp only [hji9] at H ⊢; exact H)
        have hji9_ : (IntKind.u64.wrap ((IntKind.u64.wrap ((ji7) - 1)) * 2 ^ min a0.toNat 64)) = ji9 := hji9
        have hji9z : a0 ≤ 64 → (IntKind.u64.wrap ((IntKind.u64.wrap ((ji7) - 1)) * 2 ^ a0.toNat)) = ji9 := shl_small hji9
        obtain rfl := Option.some.inj H
        go_enter Try.func18, Try.ntmps18
        go_wp2
        go_ret
        exact ⟨by first | rfl | (simp; done) | (simp only [← hji7, ← hji9] <;> (first | rfl | simp)) | (simp [*]; done), by repeat (first | exact Drawn0.refl _ | apply Drawn0.step)⟩
      · rw [if_neg c8] at H
        exact absurd H (by simp)
    · rw [if_neg c6] at H
      exact absurd H (by simp)

-- NOT PRINTED: function 25 (api_Block)

/-! ### blocks_place: function 23 -/
def blocks_place.l0 : Nat → List (S34) → Int → Int → Int → Option (Int)
  | 0, _, _, _, _ => none
  | k + 1, x0, x1, x7, x8 => if x8 < x7 then (if 0 ≤ x8 then (if x8 < (x0.length : Int) then (if ((rd_T34 x0 x8).f0) = x1 then (some x8) else (blocks_place.l0 k x0 x1 x7 (wrap64 (x8 + 1)))) else (none)) else (none)) else (some (-1))
def blocks_place.f (k : Nat) (l0 : List (S34)) (a1 : Int) : Option (Int) := blocks_place.l0 k l0 a1 (l0.length : Int) 0
theorem blocks_place.mono_l : ∀ k, (∀ y0 y1 y2 y3, LeO (blocks_place.l0 k y0 y1 y2 y3) (blocks_place.l0 (k + 1) y0 y1 y2 y3))
  | 0 => fun _ _ _ _ r h => by simp [blocks_place.l0] at h
  | k + 1 => by
    have ih0 := blocks_place.mono_l k
    · intro y0 y1 y2 y3
      unfold blocks_place.l0
      repeat' first
      | (with_reducible exact ih0 _ _ _ _)
      | (with_reducible exact LeO.refl _)
      | (with_reducible exact LeO.none _)
      | (with_reducible refine LeO.ite ?_ ?_)
      | (with_reducible refine LeO.bind ?_ (fun _ => ?_))
      | exact ih0 _ _ _ _
      | exact LeO.none _
      | refine LeO.ite ?_ ?_
      | refine LeO.bind ?_ (fun _ => ?_)
theorem blocks_place.mono : ∀ a0 a1 k, LeO (blocks_place.f k a0 a1) (blocks_place.f (k + 1) a0 a1) := by
  intro a0 a1 k
  have ih0 := blocks_place.mono_l k
  unfold blocks_place.f
  repeat' first
      | (with_reducible exact ih0 _ _ _ _)
      | (with_reducible exact LeO.refl _)
      | (with_reducible exact LeO.none _)
      | (with_reducible refine LeO.ite ?_ ?_)
      | (with_reducible refine LeO.bind ?_ (fun _ => ?_))
      | exact ih0 _ _ _ _
      | exact LeO.none _
      | refine LeO.ite ?_ ?_
      | refine LeO.bind ?_ (fun _ => ?_)
set_option maxHeartbeats 800000 in
set_option maxRecDepth 100000 in
theorem blocks_place.asks (gb : Nat) (id : Int) (x0 : S34) (W : World) (hc : W.cell? ⟨gb, 0, none⟩ = some (.int .i64 id)) :
    Calls Try.prog 26 #[.agg #[.int .i64 x0.f0, .int .i64 x0.f1, .int .i64 x0.f2, .bool x0.f3], .pointer (some ⟨gb, 0, none⟩)] W fun e w' => e = .returned (.bool (x0.f0 == id)) ∧ Below W.heap.size W w' := by
  have hlt : gb < W.heap.size := World.block_lt_of_cell? W _ hc
  have hu := Try.underlying34
  go_enter Try.func26, Try.ntmps26
  go_wp2
  go_ret
  exact ⟨rfl, below_alloc (Below.refl _ _) _⟩

set_option maxHeartbeats 8000000 in
set_option maxRecDepth 100000 in
theorem blocks_place.loops (gb : Nat) (k : Nat) (A0 : Option Addr) (c0 : Nat) (l0 : List (S34)) (a1 : Int) (r : Int) (w : World) (hr0 : Kd.C k34 w A0 l0.length l0) (hc : w.cell? ⟨gb, 0, none⟩ = some (.int .i64 a1)) (h : blocks_place.f k l0 a1 = some r) :
    Calls Try.prog 25 #[.slice A0 l0.length c0, .func (.func 26) #[] #[.pointer (some ⟨gb, 0, none⟩)]] w fun e w' => e = .returned (.int .i64 r) ∧ Below w.heap.size w w' := by
  have hu := Try.underlying34
  have hlt : gb < w.heap.size := World.block_lt_of_cell? w _ hc
  have HR0 := Aside0.mk hr0
  have HC := Aside0.mk hc
  clear hr0 hc
  have HB := Aside0.mk (Below.refl w.heap.size w)
  have H : (blocks_place.l0 k l0 a1 (l0.length : Int) 0) = some r := h
  clear h
  have H' := Aside0.mk H
  clear H
  go_enter Try.func25, Try.ntmps25
  go_wp2
  go_loopg [5, 8] k (fun kq v5 v8 w' => ∃ (x8_1 : Int), v8 = .int .i64 x8_1 ∧ Aside0 (blocks_place.l0 kq l0 a1 (l0.length : Int) x8_1 = some r) ∧ Aside0 (kq ≤ k) ∧ Aside0 (Below w.heap.size w w'))
  case atStart => exact ⟨(0), (by first | rfl | (simp; done) | (simp [*]; done)), H', ⟨Nat.le_refl _⟩, HB⟩
  case round =>
    clear H' HB
    obtain ⟨x8_1, rfl, HA, HK1, HB⟩ := hrel
    cases gk with
    | zero => exact absurd HA.out (by simp [blocks_place.l0])
    | succ k1 =>
      have H := HA.out
      clear HA
      simp only [blocks_place.l0] at H
      by_cases c3 : x8_1 < (l0.length : Int)
      · rw [if_pos c3] at H
        have c3b0 : decide (x8_1 < (l0.length : Int)) = true := decide_eq_true c3
        by_cases c4 : 0 ≤ x8_1
        · rw [if_pos c4] at H
          have c4b0 : decide (0 ≤ x8_1) = true := decide_eq_true c4
          rw [if_pos c3] at H
          obtain ⟨ad104, e104, hx104_0, hx104_1, hx104_2, hx104_3⟩ := at_T34 HR0.out x8_1 c4 c3
          cases e104
          replace hx104_0 := (HB.out.cell (World.block_lt_of_cell? w _ hx104_0)).trans hx104_0
          replace hx104_1 := (HB.out.cell (World.block_lt_of_cell? w _ hx104_1)).trans hx104_1
          replace hx104_2 := (HB.out.cell (World.block_lt_of_cell? w _ hx104_2)).trans hx104_2
          replace hx104_3 := (HB.out.cell (World.block_lt_of_cell? w _ hx104_3)).trans hx104_3
          have hcal := Aside0.mk (blocks_place.asks gb a1 (rd_T34 l0 x8_1) wr ((HB.out.cell hlt).trans HC.out))
          have hs := Aside0.mk HB.out.size
          have p104 := eq_true c4
          have q104 := eq_true c3
          clear c3 c4
          by_cases c6 : ((rd_T34 l0 x8_1).f0) = a1
          · rw [if_pos c6] at H
            have c6b0 : (((rd_T34 l0 x8_1).f0) == a1) = true := beq_iff_eq.mpr c6
            clear c6
            obtain rfl := Option.some.inj H
            go_wp2_with fail
            refine hcal.out.mono ?_
            rintro e w' ⟨rfl, hb'⟩
            have HB2 := Aside0.mk (below_then HB.out hs.out hb')
            clear hb' HB hx104_0 hx104_1 hx104_2 hx104_3 hcal
            go_wp2
            go_ret
            exact ⟨rfl, HB2.out⟩
          · rw [if_neg c6] at H
            have c6b0 : (((rd_T34 l0 x8_1).f0) == a1) = false := beq_eq_false_iff_ne.mpr c6
            have H' := Aside0.mk H
            clear H c6
            go_wp2_with fail
            refine hcal.out.mono ?_
            rintro e w' ⟨rfl, hb'⟩
            have HB2 := Aside0.mk (below_then HB.out hs.out hb')
            clear hb' HB hx104_0 hx104_1 hx104_2 hx104_3 hcal
            go_wp2
            go_roundg k1
            case measure => have := HK1.out; omega
            case rel => exact ⟨(wrap64 (x8_1 + 1)), (by first | rfl | (simp; done) | (simp [*]; done)), H', ⟨by have := HK1.out; omega⟩, HB2⟩
        · rw [if_neg c4] at H
          exact absurd H (by simp)
      · rw [if_neg c3] at H
        have c3b0 : decide (x8_1 < (l0.length : Int)) = false := decide_eq_false c3
        clear c3
        obtain rfl := Option.some.inj H
        go_wp2
        go_ret
        exact ⟨by first | rfl | (simp; done) | (simp [*]; done), HB.out⟩

set_option maxHeartbeats 8000000 in
set_option maxRecDepth 100000 in
theorem blocks_place.calls (k : Nat) (A0 : Option Addr) (c0 : Nat) (l0 : List (S34)) (a1 : Int) (r : Int) (w : World) (hr0 : Kd.C k34 w A0 l0.length l0) (hc0 : l0.length ≤ c0) (h : blocks_place.f k l0 a1 = some r) :
    Calls Try.prog 23 #[.slice A0 l0.length c0, .int .i64 a1] w fun e w' => e = .returned (.int .i64 r) ∧ Below w.heap.size w w' := by
  have HR0 := Aside0.mk hr0
  have HF := Aside0.mk h
  clear hr0 h
  have hmf : ∀ (fn : Fn) (first cap : Array Value) (w : World), (Instr.makeFunc fn first cap).run Try.prog w = .ok (.func fn first cap) w := fun _ _ _ _ => rfl
  go_enter Try.func23, Try.ntmps23
  go_wp2_with fail
  refine (blocks_place.loops w.heap.size k A0 c0 l0 a1 r _ (by first | exact Kd.C_alloc HR0.out _ | (with_reducible refine Kd.C_drewN ?_ _; exact Kd.C_alloc HR0.out _)) (by simp) HF.out).mono ?_
  rintro e w' ⟨rfl, hb⟩
  have HB := Aside0.mk (below_then (below_alloc (Below.refl w.heap.size w) _) (by simp) hb)
  clear hb
  go_wp2
  go_ret
  exact ⟨rfl, HB.out⟩

/-! ### blocks_Find: function 20 -/
def blocks_Find.f (k : Nat) (l0 : List (S34)) (a1 : Int) : Option (Int × Int × Int × Bool × Bool) := (blocks_place.f k l0 a1).bind fun t112 => (if t112 < 0 then (some (0, 0, 0, false, false)) else (if 0 ≤ t112 then (if t112 < (l0.length : Int) then (some ((rd_T34 l0 t112).f0, (rd_T34 l0 t112).f1, (rd_T34 l0 t112).f2, (rd_T34 l0 t112).f3, true)) else (none)) else (none)))
theorem blocks_Find.mono : ∀ a0 a1 k, LeO (blocks_Find.f k a0 a1) (blocks_Find.f (k + 1) a0 a1) := by
  intro a0 a1 k
  unfold blocks_Find.f
  repeat' first
      | (with_reducible exact blocks_place.mono _ _ _)
      | (with_reducible exact LeO.refl _)
      | (with_reducible exact LeO.none _)
      | (with_reducible refine LeO.ite ?_ ?_)
      | (with_reducible refine LeO.bind ?_ (fun _ => ?_))
      | exact blocks_place.mono _ _ _
      | exact LeO.none _
      | refine LeO.ite ?_ ?_
      | refine LeO.bind ?_ (fun _ => ?_)
set_option maxHeartbeats 8000000 in
set_option maxRecDepth 100000 in
theorem blocks_Find.calls (k : Nat) (A0 : Option Addr) (c0 : Nat) (l0 : List (S34)) (a1 : Int) (r1 : Int) (r2 : Int) (r3 : Int) (r4 : Bool) (r5 : Bool) (w : World) (hr0 : Kd.C k34 w A0 l0.length l0) (hc0 : l0.length ≤ c0) (h : blocks_Find.f k l0 a1 = some (r1, r2, r3, r4, r5)) :
    Calls Try.prog 20 #[.slice A0 l0.length c0, .int .i64 a1] w fun e w' => e = .returned (.tuple #[.agg #[.int .i64 r1, .int .i64 r2, .int .i64 r3, .bool r4], .bool r5]) ∧ Below w.heap.size w w' := by
  have hu34 := Try.underlying34
  have HR0 := Aside0.mk hr0
  have HC0 := Aside0.mk hc0
  clear hr0 hc0
  have HB := Aside0.mk (Below.refl w.heap.size w)
  have H : ((blocks_place.f k l0 a1).bind fun t112 => (if t112 < 0 then (some (0, 0, 0, false, false)) else (if 0 ≤ t112 then (if t112 < (l0.length : Int) then (some ((rd_T34 l0 t112).f0, (rd_T34 l0 t112).f1, (rd_T34 l0 t112).f2, (rd_T34 l0 t112).f3, true)) else (none)) else (none)))) = some (r1, r2, r3, r4, r5) := h
  clear h
  replace H := Option.bind_eq_some_iff.mp H
  obtain ⟨t112, A30, H⟩ := H
  replace H : (if t112 < 0 then (some (0, 0, 0, false, false)) else (if 0 ≤ t112 then (if t112 < (l0.length : Int) then (some ((rd_T34 l0 t112).f0, (rd_T34 l0 t112).f1, (rd_T34 l0 t112).f2, (rd_T34 l0 t112).f3, true)) else (none)) else (none))) = some (r1, r2, r3, r4, r5) := H
  have A3 := Aside0.mk A30
  clear A30
  by_cases c4 : t112 < 0
  · rw [if_pos c4] at H
    have c4b0 : decide (t112 < 0) = true := decide_eq_true c4
    clear c4
    simp only [Option.some.injEq, Prod.mk.injEq] at H
    obtain ⟨rfl, rfl, rfl, rfl, rfl⟩ := H
    go_enter Try.func20, Try.ntmps20
    go_wp2_with (first | ((with_reducible refine gate_dst (N := 4) rfl ?_); refine box_event ?hg (N := 4) ?hd (cs := #[.int .i64 0, .int .i64 0, .int .i64 0, .bool false]) (t := 34) ?hr ?_; (case hd => rfl); (case hg => rfl); (case hr => first | (go_simp; done) | (go_simp; rfl)); intro gb111 hg w5 hbox hb; have n0_ := Aside0.mk (below_step (by repeat (first | (with_reducible first | exact HB.out | apply below_alloc | apply pw_below_drewN | apply below_drew1) | exact HB.out)) hb); have n1_ := Aside0.mk (hbox); have n2_ := Aside0.mk ((by rw [hg]; exact (below_size (by repeat (first | (with_reducible first | exact HB.out | apply below_alloc | apply pw_below_drewN | apply below_drew1) | exact HB.out))) : w.heap.size ≤ gb111)); have n3_ := Aside0.mk ((by rw [hg]; exact (below_size (by repeat (first | (with_reducible first | exact HB.out | apply below_alloc | apply pw_below_drewN | apply below_drew1) | exact HB.out))) : w.heap.size ≤ gb111)); clear HB; have HB := n0_; have BK111 := n1_; have GW111 := n2_; have GE111 := n3_; clear n0_ n1_ n2_ n3_; clear hb hbox hg) | ((with_reducible refine gate_callee (f := 23) rfl ?_); refine goesL_ (some 9) rfl rfl Try.func23 (by kernel_rfl) rfl #[.slice A0 l0.length c0, .int .i64 a1] rfl (by (try simp only [List.map_toArray, List.map_cons, List.map_nil]); first | done | rfl | (simp only [List.length_drop, List.length_take]; rfl)) ?_; (with_reducible refine (blocks_place.calls k _ _ l0 a1 t112 _ ?side1 ?side2 A3.out).mono ?_); (case side1 => repeat (first | exact (Kd.C_below HR0.out HB.out) | (with_reducible refine Kd.C_alloc ?_ _) | (with_reducible refine Kd.C_drewN ?_ _) | (with_reducible refine Kd.C_drew ?_))); (case side2 => exact HC0.out); rintro e w6 ⟨rfl, hb⟩; refine ⟨_, rfl, ?_⟩; have n0_ := Aside0.mk (blk_below (g := gb111) (o := .cells #[.int .i64 0, .int .i64 0, .int .i64 0, .bool false] 34 (0, 0)) (by (with_reducible repeat (first | refine blk_drewN ?_ _ | refine blk_drew ?_ | refine blk_alloc ?_ _)); exact BK111.out) hb); have n1_ := Aside0.mk (below_step (by repeat (first | (with_reducible first | exact HB.out | apply below_alloc | apply pw_below_drewN | apply below_drew1 | refine below_set ?_ GE111.out) | exact HB.out)) hb); clear BK111; clear HB; have BK111 := n0_; have HB := n1_; clear n0_ n1_; (try clear hb); (try clear hb2); (try clear hk); (try clear hi); have hcz7_0 : w6.cell? ⟨gb111, 0, none⟩ = some (.int .i64 0) := (blk_cell BK111.out 0).trans rfl; have hcz7_1 : w6.cell? ⟨gb111, 1, none⟩ = some (.int .i64 0) := (blk_cell BK111.out 1).trans rfl; have hcz7_2 : w6.cell? ⟨gb111, 2, none⟩ = some (.int .i64 0) := (blk_cell BK111.out 2).trans rfl; have hcz7_3 : w6.cell? ⟨gb111, 3, none⟩ = some (.bool false) := (blk_cell BK111.out 3).trans rfl; have hfz7_0 := blk_frozen BK111.out 0; have hfz7_1 := blk_frozen BK111.out 1; have hfz7_2 := blk_frozen BK111.out 2; have hfz7_3 := blk_frozen BK111.out 3))
    refine bodyPost_ret (results_ct rfl _ _ gb111 34 #[.int .i64 0, .int .i64 0, .int .i64 0, .bool false] (0, 0) _ rfl (by (with_reducible repeat (first | refine blk_drewN ?_ _ | refine blk_drew ?_ | refine blk_alloc ?_ _)); refine blk_put (cs := #[.int .i64 0, .int .i64 0, .int .i64 0, .bool false]) ?_ 3 _ rfl; (with_reducible repeat (first | refine blk_drewN ?_ _ | refine blk_drew ?_ | refine blk_alloc ?_ _)); refine blk_put (cs := #[.int .i64 0, .int .i64 0, .int .i64 0, .bool false]) ?_ 2 _ rfl; (with_reducible repeat (first | refine blk_drewN ?_ _ | refine blk_drew ?_ | refine blk_alloc ?_ _)); refine blk_put (cs := #[.int .i64 0, .int .i64 0, .int .i64 0, .bool false]) ?_ 1 _ rfl; (with_reducible repeat (first | refine blk_drewN ?_ _ | refine blk_drew ?_ | refine blk_alloc ?_ _)); refine blk_put (cs := #[.int .i64 0, .int .i64 0, .int .i64 0, .bool false]) ?_ 0 _ rfl; (with_reducible repeat (first | refine blk_drewN ?_ _ | refine blk_drew ?_ | refine blk_alloc ?_ _)); exact BK111.out) Try.underlying34 rfl (by kernel_rfl)) rfl ?_
    exact ⟨by first | rfl | (simp [errW_none, errW_some] <;> rfl) | (simp [*, errW_none, errW_some] <;> rfl), by repeat (first | (with_reducible first | exact HB.out | apply below_alloc | apply pw_below_drewN | apply below_drew1 | refine below_set ?_ GE111.out) | exact HB.out)⟩
  · rw [if_neg c4] at H
    have c4b0 : decide (t112 < 0) = false := decide_eq_false c4
    clear c4
    by_cases c8 : 0 ≤ t112
    · rw [if_pos c8] at H
      have c8b0 : decide (0 ≤ t112) = true := decide_eq_true c8
      clear c8
      by_cases c9 : t112 < (l0.length : Int)
      · rw [if_pos c9] at H
        have c9b0 : decide (t112 < (l0.length : Int)) = true := decide_eq_true c9
        clear c9
        simp only [Option.some.injEq, Prod.mk.injEq] at H
        obtain ⟨rfl, rfl, rfl, rfl, rfl⟩ := H
        go_enter Try.func20, Try.ntmps20
        go_wp2_with (first | ((with_reducible refine gate_dst (N := 4) rfl ?_); refine box_event ?hg (N := 4) ?hd (cs := #[.int .i64 0, .int .i64 0, .int .i64 0, .bool false]) (t := 34) ?hr ?_; (case hd => rfl); (case hg => rfl); (case hr => first | (go_simp; done) | (go_simp; rfl)); intro gb111 hg w10 hbox hb; have n0_ := Aside0.mk (below_step (by repeat (first | (with_reducible first | exact HB.out | apply below_alloc | apply pw_below_drewN | apply below_drew1) | exact HB.out)) hb); have n1_ := Aside0.mk (hbox); have n2_ := Aside0.mk ((by rw [hg]; exact (below_size (by repeat (first | (with_reducible first | exact HB.out | apply below_alloc | apply pw_below_drewN | apply below_drew1) | exact HB.out))) : w.heap.size ≤ gb111)); have n3_ := Aside0.mk ((by rw [hg]; exact (below_size (by repeat (first | (with_reducible first | exact HB.out | apply below_alloc | apply pw_below_drewN | apply below_drew1) | exact HB.out))) : w.heap.size ≤ gb111)); clear HB; have HB := n0_; have BK111 := n1_; have GW111 := n2_; have GE111 := n3_; clear n0_ n1_ n2_ n3_; clear hb hbox hg) | ((with_reducible refine gate_callee (f := 23) rfl ?_); refine goesL_ (some 9) rfl rfl Try.func23 (by kernel_rfl) rfl #[.slice A0 l0.length c0, .int .i64 a1] rfl (by (try simp only [List.map_toArray, List.map_cons, List.map_nil]); first | done | rfl | (simp only [List.length_drop, List.length_take]; rfl)) ?_; (with_reducible refine (blocks_place.calls k _ _ l0 a1 t112 _ ?side1 ?side2 A3.out).mono ?_); (case side1 => repeat (first | exact (Kd.C_below HR0.out HB.out) | (with_reducible refine Kd.C_alloc ?_ _) | (with_reducible refine Kd.C_drewN ?_ _) | (with_reducible refine Kd.C_drew ?_))); (case side2 => exact HC0.out); rintro e w11 ⟨rfl, hb⟩; refine ⟨_, rfl, ?_⟩; have n0_ := Aside0.mk (blk_below (g := gb111) (o := .cells #[.int .i64 0, .int .i64 0, .int .i64 0, .bool false] 34 (0, 0)) (by (with_reducible repeat (first | refine blk_drewN ?_ _ | refine blk_drew ?_ | refine blk_alloc ?_ _)); exact BK111.out) hb); have n1_ := Aside0.mk (below_step (by repeat (first | (with_reducible first | exact HB.out | apply below_alloc | apply pw_below_drewN | apply below_drew1 | refine below_set ?_ GE111.out) | exact HB.out)) hb); clear BK111; clear HB; have BK111 := n0_; have HB := n1_; clear n0_ n1_; (try clear hb); (try clear hb2); (try clear hk); (try clear hi); have p113 : 0 ≤ (t112 : Int) := of_decide_eq_true (by first | (with_reducible assumption) | assumption); have q113 : t112 < (l0.length : Int) := of_decide_eq_true (by first | (with_reducible assumption) | assumption); obtain ⟨ad113, e113, hx113_0, hx113_1, hx113_2, hx113_3⟩ := at_T34 HR0.out t112 p113 q113; cases e113; replace hx113_0 := (HB.out.cell (World.block_lt_of_cell? w _ hx113_0)).trans hx113_0; replace hx113_1 := (HB.out.cell (World.block_lt_of_cell? w _ hx113_1)).trans hx113_1; replace hx113_2 := (HB.out.cell (World.block_lt_of_cell? w _ hx113_2)).trans hx113_2; replace hx113_3 := (HB.out.cell (World.block_lt_of_cell? w _ hx113_3)).trans hx113_3; replace p113 := eq_true p113; replace q113 := eq_true q113; have hcz12_0 : w11.cell? ⟨gb111, 0, none⟩ = some (.int .i64 0) := (blk_cell BK111.out 0).trans rfl; have hcz12_1 : w11.cell? ⟨gb111, 1, none⟩ = some (.int .i64 0) := (blk_cell BK111.out 1).trans rfl; have hcz12_2 : w11.cell? ⟨gb111, 2, none⟩ = some (.int .i64 0) := (blk_cell BK111.out 2).trans rfl; have hcz12_3 : w11.cell? ⟨gb111, 3, none⟩ = some (.bool false) := (blk_cell BK111.out 3).trans rfl; have hfz12_0 := blk_frozen BK111.out 0; have hfz12_1 := blk_frozen BK111.out 1; have hfz12_2 := blk_frozen BK111.out 2; have hfz12_3 := blk_frozen BK111.out 3))
        refine bodyPost_ret (results_ct rfl _ _ gb111 34 #[.int .i64 ((rd_T34 l0 t112).f0), .int .i64 ((rd_T34 l0 t112).f1), .int .i64 ((rd_T34 l0 t112).f2), .bool ((rd_T34 l0 t112).f3)] (0, 0) _ rfl (by (with_reducible repeat (first | refine blk_drewN ?_ _ | refine blk_drew ?_ | refine blk_alloc ?_ _)); refine blk_put (cs := #[.int .i64 ((rd_T34 l0 t112).f0), .int .i64 ((rd_T34 l0 t112).f1), .int .i64 ((rd_T34 l0 t112).f2), .bool false]) ?_ 3 _ rfl; (with_reducible repeat (first | refine blk_drewN ?_ _ | refine blk_drew ?_ | refine blk_alloc ?_ _)); refine blk_put (cs := #[.int .i64 ((rd_T34 l0 t112).f0), .int .i64 ((rd_T34 l0 t112).f1), .int .i64 0, .bool false]) ?_ 2 _ rfl; (with_reducible repeat (first | refine blk_drewN ?_ _ | refine blk_drew ?_ | refine blk_alloc ?_ _)); refine blk_put (cs := #[.int .i64 ((rd_T34 l0 t112).f0), .int .i64 0, .int .i64 0, .bool false]) ?_ 1 _ rfl; (with_reducible repeat (first | refine blk_drewN ?_ _ | refine blk_drew ?_ | refine blk_alloc ?_ _)); refine blk_put (cs := #[.int .i64 0, .int .i64 0, .int .i64 0, .bool false]) ?_ 0 _ rfl; (with_reducible repeat (first | refine blk_drewN ?_ _ | refine blk_drew ?_ | refine blk_alloc ?_ _)); exact BK111.out) Try.underlying34 rfl (by kernel_rfl)) rfl ?_
        exact ⟨by first | rfl | (simp [errW_none, errW_some] <;> rfl) | (simp [*, errW_none, errW_some] <;> rfl), by repeat (first | (with_reducible first | exact HB.out | apply below_alloc | apply pw_below_drewN | apply below_drew1 | refine below_set ?_ GE111.out) | exact HB.out)⟩
      · rw [if_neg c9] at H
        exact absurd H (by simp)
    · rw [if_neg c8] at H
      exact absurd H (by simp)

-- NOT PRINTED: function 24 (api_Spot_24)

end Go.Proofs.Ytpjpjamaimahaaa.PImageApart
