/- A part of a proof: functions of the program as functions over numbers and lists, and that the program's calls answer as these do. Written by a program for this claim. -/
import Derived.Test.YtpjpjamaimahaaaPImageInputsx0
import Derived.Test.YtpjpjamaimahaaaPImageInputsx1
import Derived.Test.YtpjpjamaimahaaaPImageInputsx3
import Derived.Test.YtpjpjamaimahaaaPImageInputsx4
namespace Go.Proofs.Ytpjpjamaimahaaa.PImageInputs
open Go.RowKit Go.Proofs.YtpjpjamaimahaaaW.PrintWords Go.Proofs.YtpjpjamaimahaaaW.PrintLast Go.Proofs.YtpjpjamaimahaaaW.PrintMore
attribute [local go_sem] max2_int min2_int max_two min_two max_three min_three max_four min_four   -- for this text's walks alone
set_option linter.unusedVariables false
set_option linter.unusedSimpArgs false

/-! ### fuglemanlaw19_ImageInputs: function 3 -/
mutual
def fuglemanlaw19_ImageInputs.j0 : Nat → Int → List (S32) → ByteArray → List ByteArray → Bool → Option (Bool)
  | 0, _, _, _, _, _ => none
  | k + 1, x0, x1, x7, x8, x33 => if x33 = true then (some true) else (fuglemanlaw19_ImageInputs.l0 k x0 x1 x7 x8 x8 (x8.length : Int) 0)
def fuglemanlaw19_ImageInputs.l0 : Nat → Int → List (S32) → ByteArray → List ByteArray → List ByteArray → Int → Int → Option (Bool)
  | 0, _, _, _, _, _, _, _ => none
  | k + 1, x0, x1, x7, x8, x34, x35, x36 => if x36 < x35 then (if 0 ≤ x36 then (if x36 < (x34.length : Int) then (if ((rdOf ByteArray.empty x34 x36).size : Int) > 100 then (some true) else (fuglemanlaw19_ImageInputs.l0 k x0 x1 x7 x8 x34 x35 (wrap64 (x36 + 1)))) else (none)) else (none)) else ((image_Inputs.f k x0 x7 x1 x8).bind fun t185 => ((fuglemanref19_Inputs.f k x0 x7 x1 x8).bind fun t186 => (some (t185.toList == t186.toList))))
end
def fuglemanlaw19_ImageInputs.f (k : Nat) (a0 : Int) (l1 : List (S32)) (l2 : List ByteArray) : Option (Bool) := (fuglemanlaw19_awake.f k).bind fun t181 => (if t181 = true then (if (l2.length : Int) = 0 then (some true) else (if 0 < (l2.length : Int) then (if 1 ≤ (l2.length : Int) then (if ((rdOf ByteArray.empty l2 0).size : Int) > 100 then (fuglemanlaw19_ImageInputs.j0 k a0 l1 (rdOf ByteArray.empty l2 0) (l2.drop 1) true) else (if (l1.length : Int) > 20 then (fuglemanlaw19_ImageInputs.j0 k a0 l1 (rdOf ByteArray.empty l2 0) (l2.drop 1) true) else (fuglemanlaw19_ImageInputs.j0 k a0 l1 (rdOf ByteArray.empty l2 0) (l2.drop 1) (decide (((l2.drop 1).length : Int) > 20))))) else (none)) else (none))) else (some false))
theorem fuglemanlaw19_ImageInputs.mono_l : ∀ k, (∀ y0 y1 y2 y3 y4, LeO (fuglemanlaw19_ImageInputs.j0 k y0 y1 y2 y3 y4) (fuglemanlaw19_ImageInputs.j0 (k + 1) y0 y1 y2 y3 y4)) ∧ (∀ y0 y1 y2 y3 y4 y5 y6, LeO (fuglemanlaw19_ImageInputs.l0 k y0 y1 y2 y3 y4 y5 y6) (fuglemanlaw19_ImageInputs.l0 (k + 1) y0 y1 y2 y3 y4 y5 y6))
  | 0 => ⟨fun _ _ _ _ _ r h => by simp [fuglemanlaw19_ImageInputs.j0] at h, fun _ _ _ _ _ _ _ r h => by simp [fuglemanlaw19_ImageInputs.l0] at h⟩
  | k + 1 => by
    obtain ⟨ih0, ih1⟩ := fuglemanlaw19_ImageInputs.mono_l k
    refine ⟨?_, ?_⟩
    · intro y0 y1 y2 y3 y4
      unfold fuglemanlaw19_ImageInputs.j0
      repeat' first
      | (with_reducible exact ih0 _ _ _ _ _)
      | (with_reducible exact ih1 _ _ _ _ _ _ _)
      | (with_reducible exact fuglemanlaw19_awake.mono _)
      | (with_reducible exact fuglemanref19_Inputs.mono _ _ _ _ _)
      | (with_reducible exact image_Inputs.mono _ _ _ _ _)
      | (with_reducible exact LeO.refl _)
      | (with_reducible exact LeO.none _)
      | (with_reducible refine LeO.ite ?_ ?_)
      | (with_reducible refine LeO.bind ?_ (fun _ => ?_))
      | exact ih0 _ _ _ _ _
      | exact ih1 _ _ _ _ _ _ _
      | exact fuglemanlaw19_awake.mono _
      | exact fuglemanref19_Inputs.mono _ _ _ _ _
      | exact image_Inputs.mono _ _ _ _ _
      | exact LeO.none _
      | refine LeO.ite ?_ ?_
      | refine LeO.bind ?_ (fun _ => ?_)
    · intro y0 y1 y2 y3 y4 y5 y6
      unfold fuglemanlaw19_ImageInputs.l0
      repeat' first
      | (with_reducible exact ih0 _ _ _ _ _)
      | (with_reducible exact ih1 _ _ _ _ _ _ _)
      | (with_reducible exact fuglemanlaw19_awake.mono _)
      | (with_reducible exact fuglemanref19_Inputs.mono _ _ _ _ _)
      | (with_reducible exact image_Inputs.mono _ _ _ _ _)
      | (with_reducible exact LeO.refl _)
      | (with_reducible exact LeO.none _)
      | (with_reducible refine LeO.ite ?_ ?_)
      | (with_reducible refine LeO.bind ?_ (fun _ => ?_))
      | exact ih0 _ _ _ _ _
      | exact ih1 _ _ _ _ _ _ _
      | exact fuglemanlaw19_awake.mono _
      | exact fuglemanref19_Inputs.mono _ _ _ _ _
      | exact image_Inputs.mono _ _ _ _ _
      | exact LeO.none _
      | refine LeO.ite ?_ ?_
      | refine LeO.bind ?_ (fun _ => ?_)
theorem fuglemanlaw19_ImageInputs.mono : ∀ a0 a1 a2 k, LeO (fuglemanlaw19_ImageInputs.f k a0 a1 a2) (fuglemanlaw19_ImageInputs.f (k + 1) a0 a1 a2) := by
  intro a0 a1 a2 k
  obtain ⟨ih0, ih1⟩ := fuglemanlaw19_ImageInputs.mono_l k
  unfold fuglemanlaw19_ImageInputs.f
  repeat' first
      | (with_reducible exact ih0 _ _ _ _ _)
      | (with_reducible exact ih1 _ _ _ _ _ _ _)
      | (with_reducible exact fuglemanlaw19_awake.mono _)
      | (with_reducible exact fuglemanref19_Inputs.mono _ _ _ _ _)
      | (with_reducible exact image_Inputs.mono _ _ _ _ _)
      | (with_reducible exact LeO.refl _)
      | (with_reducible exact LeO.none _)
      | (with_reducible refine LeO.ite ?_ ?_)
      | (with_reducible refine LeO.bind ?_ (fun _ => ?_))
      | exact ih0 _ _ _ _ _
      | exact ih1 _ _ _ _ _ _ _
      | exact fuglemanlaw19_awake.mono _
      | exact fuglemanref19_Inputs.mono _ _ _ _ _
      | exact image_Inputs.mono _ _ _ _ _
      | exact LeO.none _
      | refine LeO.ite ?_ ?_
      | refine LeO.bind ?_ (fun _ => ?_)
set_option maxHeartbeats 8000000 in
set_option maxRecDepth 100000 in
theorem fuglemanlaw19_ImageInputs.calls (k : Nat) (a0 : Int) (A1 : Option Addr) (c1 : Nat) (l1 : List (S32)) (A2 : Option Addr) (c2 : Nat) (l2 : List ByteArray) (r : Bool) (w : World) (hr1 : Kd.C k32 w A1 l1.length l1) (hc1 : l1.length ≤ c1) (hr2 : Kd.C Kd.string w A2 l2.length l2) (hc2 : l2.length ≤ c2) (h : fuglemanlaw19_ImageInputs.f k a0 l1 l2 = some r) :
    Calls Try.prog 3 #[.int .i64 a0, .slice A1 l1.length c1, .slice A2 l2.length c2] w fun e w' => e = .returned (.bool r) ∧ Below w.heap.size w w' := by
  have HR1 := Aside0.mk hr1
  have HC1 := Aside0.mk hc1
  clear hr1 hc1
  have HR2 := Aside0.mk hr2
  have HC2 := Aside0.mk hc2
  clear hr2 hc2
  have HB := Aside0.mk (Below.refl w.heap.size w)
  have H : ((fuglemanlaw19_awake.f k).bind fun t181 => (if t181 = true then (if (l2.length : Int) = 0 then (some true) else (if 0 < (l2.length : Int) then (if 1 ≤ (l2.length : Int) then (if ((rdOf ByteArray.empty l2 0).size : Int) > 100 then (fuglemanlaw19_ImageInputs.j0 k a0 l1 (rdOf ByteArray.empty l2 0) (l2.drop 1) true) else (if (l1.length : Int) > 20 then (fuglemanlaw19_ImageInputs.j0 k a0 l1 (rdOf ByteArray.empty l2 0) (l2.drop 1) true) else (fuglemanlaw19_ImageInputs.j0 k a0 l1 (rdOf ByteArray.empty l2 0) (l2.drop 1) (decide (((l2.drop 1).length : Int) > 20))))) else (none)) else (none))) else (some false))) = some r := h
  clear h
  replace H := Option.bind_eq_some_iff.mp H
  obtain ⟨t181, A40, H⟩ := H
  replace H : (if t181 = true then (if (l2.length : Int) = 0 then (some true) else (if 0 < (l2.length : Int) then (if 1 ≤ (l2.length : Int) then (if ((rdOf ByteArray.empty l2 0).size : Int) > 100 then (fuglemanlaw19_ImageInputs.j0 k a0 l1 (rdOf ByteArray.empty l2 0) (l2.drop 1) true) else (if (l1.length : Int) > 20 then (fuglemanlaw19_ImageInputs.j0 k a0 l1 (rdOf ByteArray.empty l2 0) (l2.drop 1) true) else (fuglemanlaw19_ImageInputs.j0 k a0 l1 (rdOf ByteArray.empty l2 0) (l2.drop 1) (decide (((l2.drop 1).length : Int) > 20))))) else (none)) else (none))) else (some false)) = some r := H
  have A4 := Aside0.mk A40
  clear A40
  by_cases c5 : t181 = true
  · subst c5
    have H1 : (if (l2.length : Int) = 0 then (some true) else (if 0 < (l2.length : Int) then (if 1 ≤ (l2.length : Int) then (if ((rdOf ByteArray.empty l2 0).size : Int) > 100 then (fuglemanlaw19_ImageInputs.j0 k a0 l1 (rdOf ByteArray.empty l2 0) (l2.drop 1) true) else (if (l1.length : Int) > 20 then (fuglemanlaw19_ImageInputs.j0 k a0 l1 (rdOf ByteArray.empty l2 0) (l2.drop 1) true) else (fuglemanlaw19_ImageInputs.j0 k a0 l1 (rdOf ByteArray.empty l2 0) (l2.drop 1) (decide (((l2.drop 1).length : Int) > 20))))) else (none)) else (none))) = some r := by rw [if_pos rfl] at H; exact H
    clear H
    have H := H1
    clear H1
    by_cases c6 : (l2.length : Int) = 0
    · rw [if_pos c6] at H
      have c6b0 : ((l2.length : Int) == 0) = true := beq_iff_eq.mpr c6
      have c6b1 : ((l2.length : Int) != 0) = false := bne_eq_false_iff_eq.mpr c6
      clear c6
      obtain rfl := Option.some.inj H
      go_enter Try.func3, Try.ntmps3
      go_wp2_with (first | (go_at_call 6; (with_reducible refine (fuglemanlaw19_awake.calls k  true _ A4.out).mono ?_); rintro e w7 ⟨rfl, hb⟩; have n0_ := Aside0.mk (below_step (by repeat (first | (with_reducible first | exact HB.out | apply below_alloc | apply pw_below_drewN | apply below_drew1) | exact HB.out)) hb); clear HB; have HB := n0_; clear n0_; (try clear hb); (try clear hb2); (try clear hk); (try clear hi)))
      repeat (go_quiet (first | (go_at_call 6; (with_reducible refine (fuglemanlaw19_awake.calls k  true _ A4.out).mono ?_); rintro e w7 ⟨rfl, hb⟩; have n0_ := Aside0.mk (below_step (by repeat (first | (with_reducible first | exact HB.out | apply below_alloc | apply pw_below_drewN | apply below_drew1) | exact HB.out)) hb); clear HB; have HB := n0_; clear n0_; (try clear hb); (try clear hb2); (try clear hk); (try clear hi))); try go_wp2_with (first | (go_at_call 6; (with_reducible refine (fuglemanlaw19_awake.calls k  true _ A4.out).mono ?_); rintro e w7 ⟨rfl, hb⟩; have n0_ := Aside0.mk (below_step (by repeat (first | (with_reducible first | exact HB.out | apply below_alloc | apply pw_below_drewN | apply below_drew1) | exact HB.out)) hb); clear HB; have HB := n0_; clear n0_; (try clear hb); (try clear hb2); (try clear hk); (try clear hi))))
      go_ret
      exact ⟨by first | rfl | (simp [errW_none, errW_some] <;> rfl) | (simp [*, errW_none, errW_some] <;> rfl), by repeat (first | (with_reducible first | exact HB.out | apply below_alloc | apply pw_below_drewN | apply below_drew1) | exact HB.out)⟩
    · rw [if_neg c6] at H
      have c6b0 : ((l2.length : Int) == 0) = false := beq_eq_false_iff_ne.mpr c6
      have c6b1 : ((l2.length : Int) != 0) = true := bne_iff_ne.mpr c6
      have c6b2 : ¬ (l2 = []) := fun h_ => c6 (by rw [h_]; rfl)
      by_cases c8 : 0 < (l2.length : Int)
      · rw [if_pos c8] at H
        have c8b0 : decide (0 < (l2.length : Int)) = true := decide_eq_true c8
        have c8b1 : decide (0 < l2.length) = true := decide_eq_true (by omega)
        clear c8
        by_cases c9 : 1 ≤ (l2.length : Int)
        · rw [if_pos c9] at H
          have c9b0 := eq_true c9
          have c9b1 : decide (1 ≤ (l2.length : Int)) = true := decide_eq_true c9
          clear c9
          have HC10 := Aside0.mk H
          clear H
          go_enter Try.func3, Try.ntmps3
          go_upto_region 6 with (first | (go_at_call 6; (with_reducible refine (fuglemanlaw19_awake.calls k  true _ A4.out).mono ?_); rintro e w11 ⟨rfl, hb⟩; have n0_ := Aside0.mk (below_step (by repeat (first | (with_reducible first | exact HB.out | apply below_alloc | apply pw_below_drewN | apply below_drew1) | exact HB.out)) hb); clear HB; have HB := n0_; clear n0_; (try clear hb); (try clear hb2); (try clear hk); (try clear hi); have p182 : 0 ≤ (0 : Int) := (by omega); have q182 : 0 < (l2.length : Int) := of_decide_eq_true (by first | (with_reducible assumption) | assumption); obtain ⟨ad182, e182, hx182_0⟩ := Kd.at_string HR2.out 0 p182 q182; cases e182; have qi182 : (0 < l2.length) = True := eq_true (by omega); (try rw [show ((0 : Int)).toNat = 0 from rfl] at hx182_0); (try rw [Addr.add_zero'] at hx182_0); replace hx182_0 := (HB.out.cell (World.block_lt_of_cell? w _ hx182_0)).trans hx182_0; replace p182 := eq_true p182; replace q182 := eq_true q182; obtain ⟨i012, hi012, _, hsz12, _⟩ := info_parts info9; obtain ⟨A12, hcut12, hA12, hC12⟩ := print_drop_of (P := Try.prog) Value.string (⟨#[]⟩ : ByteArray) 23 9 .i64 Try.underlying23 hi012 hsz12 (some ad182) c2 l2 1 (by omega) (of_decide_eq_true (by first | (with_reducible assumption) | assumption)) HC2.out; have HR183 := Aside0.mk (Kd.C_of_reads (h1 := fun _ => rfl) (hA12 _ (Kd.reads_of_C HR2.out))); have HC183 := Aside0.mk hC12; clear hA12 hC12 hi012 hsz12))
          repeat (go_quiet (first | (go_at_call 6; (with_reducible refine (fuglemanlaw19_awake.calls k  true _ A4.out).mono ?_); rintro e w11 ⟨rfl, hb⟩; have n0_ := Aside0.mk (below_step (by repeat (first | (with_reducible first | exact HB.out | apply below_alloc | apply pw_below_drewN | apply below_drew1) | exact HB.out)) hb); clear HB; have HB := n0_; clear n0_; (try clear hb); (try clear hb2); (try clear hk); (try clear hi); have p182 : 0 ≤ (0 : Int) := (by omega); have q182 : 0 < (l2.length : Int) := of_decide_eq_true (by first | (with_reducible assumption) | assumption); obtain ⟨ad182, e182, hx182_0⟩ := Kd.at_string HR2.out 0 p182 q182; cases e182; have qi182 : (0 < l2.length) = True := eq_true (by omega); (try rw [show ((0 : Int)).toNat = 0 from rfl] at hx182_0); (try rw [Addr.add_zero'] at hx182_0); replace hx182_0 := (HB.out.cell (World.block_lt_of_cell? w _ hx182_0)).trans hx182_0; replace p182 := eq_true p182; replace q182 := eq_true q182; obtain ⟨i012, hi012, _, hsz12, _⟩ := info_parts info9; obtain ⟨A12, hcut12, hA12, hC12⟩ := print_drop_of (P := Try.prog) Value.string (⟨#[]⟩ : ByteArray) 23 9 .i64 Try.underlying23 hi012 hsz12 (some ad182) c2 l2 1 (by omega) (of_decide_eq_true (by first | (with_reducible assumption) | assumption)) HC2.out; have HR183 := Aside0.mk (Kd.C_of_reads (h1 := fun _ => rfl) (hA12 _ (Kd.reads_of_C HR2.out))); have HC183 := Aside0.mk hC12; clear hA12 hC12 hi012 hsz12)); go_upto_region 6 with (first | (go_at_call 6; (with_reducible refine (fuglemanlaw19_awake.calls k  true _ A4.out).mono ?_); rintro e w11 ⟨rfl, hb⟩; have n0_ := Aside0.mk (below_step (by repeat (first | (with_reducible first | exact HB.out | apply below_alloc | apply pw_below_drewN | apply below_drew1) | exact HB.out)) hb); clear HB; have HB := n0_; clear n0_; (try clear hb); (try clear hb2); (try clear hk); (try clear hi); have p182 : 0 ≤ (0 : Int) := (by omega); have q182 : 0 < (l2.length : Int) := of_decide_eq_true (by first | (with_reducible assumption) | assumption); obtain ⟨ad182, e182, hx182_0⟩ := Kd.at_string HR2.out 0 p182 q182; cases e182; have qi182 : (0 < l2.length) = True := eq_true (by omega); (try rw [show ((0 : Int)).toNat = 0 from rfl] at hx182_0); (try rw [Addr.add_zero'] at hx182_0); replace hx182_0 := (HB.out.cell (World.block_lt_of_cell? w _ hx182_0)).trans hx182_0; replace p182 := eq_true p182; replace q182 := eq_true q182; obtain ⟨i012, hi012, _, hsz12, _⟩ := info_parts info9; obtain ⟨A12, hcut12, hA12, hC12⟩ := print_drop_of (P := Try.prog) Value.string (⟨#[]⟩ : ByteArray) 23 9 .i64 Try.underlying23 hi012 hsz12 (some ad182) c2 l2 1 (by omega) (of_decide_eq_true (by first | (with_reducible assumption) | assumption)) HC2.out; have HR183 := Aside0.mk (Kd.C_of_reads (h1 := fun _ => rfl) (hA12 _ (Kd.reads_of_C HR2.out))); have HC183 := Aside0.mk hC12; clear hA12 hC12 hi012 hsz12)))
          (try simp only [Act.put, List.setIfInBounds_toArray, List.set_cons_zero, List.set_cons_succ])
          go_cut [33] (fun v33 wc => ∃ (kq : Nat) (x33_9 : Bool), v33 = .bool x33_9 ∧ Aside0 (fuglemanlaw19_ImageInputs.j0 kq a0 l1 (rdOf ByteArray.empty l2 0) (l2.drop 1) x33_9 = some r) ∧ Aside0 (kq ≤ k) ∧ Aside0 (Below w.heap.size w wc))
          case first =>
            have H := HC10.out
            clear HC10
            by_cases c13 : ((rdOf ByteArray.empty l2 0).size : Int) > 100
            · rw [if_pos c13] at H
              have c13b0 : decide (100 < ((rdOf ByteArray.empty l2 0).size : Int)) = true := decide_eq_true c13
              have c13b1 : decide (100 < (rdOf ByteArray.empty l2 0).size) = true := decide_eq_true (by omega)
              clear c13
              (first | rw [c13b0] | (simp only [i64_w, i32_w]; rw [c13b0]) | skip)
              have H' := Aside0.mk H
              clear H
              go_wp2
              repeat (go_quiet (fail); try go_wp2)
              go_meet
              case rel => exact ⟨_, (true), (by first | rfl | (simp; done) | (simp [*]; done)), H', ⟨by first | omega | exact Nat.le_refl _⟩, ⟨by repeat (first | (with_reducible first | exact HB.out | apply below_alloc | apply pw_below_drewN | apply below_drew1) | exact HB.out)⟩⟩
            · rw [if_neg c13] at H
              have c13b0 : decide (100 < ((rdOf ByteArray.empty l2 0).size : Int)) = false := decide_eq_false c13
              have c13b1 : decide (100 < (rdOf ByteArray.empty l2 0).size) = false := decide_eq_false (by omega)
              clear c13
              (first | rw [c13b0] | (simp only [i64_w, i32_w]; rw [c13b0]) | skip)
              by_cases c14 : (l1.length : Int) > 20
              · rw [if_pos c14] at H
                have c14b0 : decide (20 < (l1.length : Int)) = true := decide_eq_true c14
                have c14b1 : decide (20 < l1.length) = true := decide_eq_true (by omega)
                clear c14
                have H' := Aside0.mk H
                clear H
                go_wp2
                repeat (go_quiet (fail); try go_wp2)
                go_meet
                case rel => exact ⟨_, (true), (by first | rfl | (simp; done) | (simp [*]; done)), H', ⟨by first | omega | exact Nat.le_refl _⟩, ⟨by repeat (first | (with_reducible first | exact HB.out | apply below_alloc | apply pw_below_drewN | apply below_drew1) | exact HB.out)⟩⟩
              · rw [if_neg c14] at H
                have c14b0 : decide (20 < (l1.length : Int)) = false := decide_eq_false c14
                have c14b1 : decide (20 < l1.length) = false := decide_eq_false (by omega)
                clear c14
                have H' := Aside0.mk H
                clear H
                go_wp2
                repeat (go_quiet (fail); try go_wp2)
                go_meet
                case rel => exact ⟨_, (decide (((l2.drop 1).length : Int) > 20)), (by first | rfl | (simp; done) | (simp [*]; done)), H', ⟨by first | omega | exact Nat.le_refl _⟩, ⟨by repeat (first | (with_reducible first | exact HB.out | apply below_alloc | apply pw_below_drewN | apply below_drew1) | exact HB.out)⟩⟩
          case rest =>
            clear HC10
            try clear c1
            try clear p1
            try clear q1
            try clear hx1
            try clear qi1
            try clear c2
            try clear p2
            try clear c3
            try clear c5
            try clear c6
            try clear c6b0
            try clear c6b1
            try clear c6b2
            try clear c8
            try clear c8b0
            try clear c8b1
            try clear c9
            try clear c9b0
            try clear c9b1
            try clear c13
            try clear c13b0
            try clear c13b1
            try clear c14
            try clear c14b0
            try clear c14b1
            try clear hx182_0
            try clear p182
            try clear q182
            obtain ⟨kq, x33_9, rfl, HA, HJ9, HB⟩ := hcut
            cases kq with
            | zero => exact absurd HA.out (by simp [fuglemanlaw19_ImageInputs.j0])
            | succ kj9 =>
              have H := HA.out
              clear HA
              simp only [fuglemanlaw19_ImageInputs.j0] at H
              by_cases c15 : x33_9 = true
              · subst c15
                have H1 : (some true) = some r := by rw [if_pos rfl] at H; exact H
                clear H
                have H := H1
                clear H1
                obtain rfl := Option.some.inj H
                go_wp2
                repeat (go_quiet (fail); try go_wp2)
                go_ret
                exact ⟨by first | rfl | (simp [errW_none, errW_some] <;> rfl) | (simp [*, errW_none, errW_some] <;> rfl), by repeat (first | (with_reducible first | exact HB.out | apply below_alloc | apply pw_below_drewN | apply below_drew1) | exact HB.out)⟩
              · replace c15 := Bool.eq_false_iff.mpr c15
                subst c15
                have H1 : (fuglemanlaw19_ImageInputs.l0 kj9 a0 l1 (rdOf ByteArray.empty l2 0) (l2.drop 1) (l2.drop 1) ((l2.drop 1).length : Int) 0) = some r := by rw [if_neg (show ¬ (false = true) by decide)] at H; exact H
                clear H
                have H := H1
                clear H1
                have H' := Aside0.mk H
                clear H
                go_wp2
                repeat (go_quiet (fail); try go_wp2)
                go_loopg [36] kj9 (fun kq v36 w' => ∃ (x36_2 : Int), v36 = .int .i64 x36_2 ∧ Aside0 (fuglemanlaw19_ImageInputs.l0 kq a0 l1 (rdOf ByteArray.empty l2 0) (l2.drop 1) (l2.drop 1) ((l2.drop 1).length : Int) x36_2 = some r) ∧ Aside0 (kq ≤ kj9) ∧ Aside0 (Below w.heap.size w w'))
                case atStart => exact ⟨(0), (by first | rfl | (simp; done) | (simp [*]; done)), H', ⟨Nat.le_refl _⟩, ⟨by repeat (first | (with_reducible first | exact HB.out | apply below_alloc | apply pw_below_drewN | apply below_drew1) | exact HB.out)⟩⟩
                case round =>
                  clear H'
                  try clear c1
                  try clear p1
                  try clear q1
                  try clear hx1
                  try clear qi1
                  try clear c2
                  try clear p2
                  try clear c3
                  try clear c5
                  try clear c6
                  try clear c6b0
                  try clear c6b1
                  try clear c6b2
                  try clear c8
                  try clear c8b0
                  try clear c8b1
                  try clear c9
                  try clear c9b0
                  try clear c9b1
                  try clear c13
                  try clear c13b0
                  try clear c13b1
                  try clear c14
                  try clear c14b0
                  try clear c14b1
                  try clear c15
                  try clear hx182_0
                  try clear p1
                  try clear p182
                  try clear p2
                  try clear q1
                  try clear q182
                  obtain ⟨x36_2, rfl, HA, HK2, HB⟩ := hrel
                  cases gk with
                  | zero => exact absurd HA.out (by simp [fuglemanlaw19_ImageInputs.l0])
                  | succ k2 =>
                    have H := HA.out
                    clear HA
                    simp only [fuglemanlaw19_ImageInputs.l0] at H
                    by_cases c16 : x36_2 < ((l2.drop 1).length : Int)
                    · rw [if_pos c16] at H
                      have c16b0 : decide (x36_2 < ((l2.drop 1).length : Int)) = true := decide_eq_true c16
                      have c16b0l := by (have z_ := c16b0; rw [List.length_drop] at z_; exact z_)
                      clear c16
                      by_cases c17 : 0 ≤ x36_2
                      · rw [if_pos c17] at H
                        have c17b0 : decide (0 ≤ x36_2) = true := decide_eq_true c17
                        clear c17
                        by_cases c18 : x36_2 < ((l2.drop 1).length : Int)
                        · rw [if_pos c18] at H
                          have c18b0 : decide (x36_2 < ((l2.drop 1).length : Int)) = true := decide_eq_true c18
                          have c18b0l := by (have z_ := c18b0; rw [List.length_drop] at z_; exact z_)
                          clear c18
                          by_cases c19 : ((rdOf ByteArray.empty (l2.drop 1) x36_2).size : Int) > 100
                          · rw [if_pos c19] at H
                            have c19b0 : decide (100 < ((rdOf ByteArray.empty (l2.drop 1) x36_2).size : Int)) = true := decide_eq_true c19
                            have c19b0t := by (have z_ := c19b0; rw [List.drop_one] at z_; exact z_)
                            have c19b1 : decide (100 < (rdOf ByteArray.empty (l2.drop 1) x36_2).size) = true := decide_eq_true (by omega)
                            have c19b1t := by (have z_ := c19b1; rw [List.drop_one] at z_; exact z_)
                            clear c19
                            obtain rfl := Option.some.inj H
                            have p184 : 0 ≤ (x36_2 : Int) := of_decide_eq_true (by first | (with_reducible assumption) | assumption)
                            have q184 : x36_2 < ((l2.drop 1).length : Int) := of_decide_eq_true (by first | (with_reducible assumption) | assumption)
                            obtain ⟨ad184, e184, hx184_0⟩ := Kd.at_string HR183.out x36_2 p184 q184
                            cases e184
                            replace hx184_0 := (HB.out.cell (World.block_lt_of_cell? w _ hx184_0)).trans hx184_0
                            replace p184 := eq_true p184
                            replace q184 := eq_true q184
                            try (have q184l := q184; rw [List.length_drop] at q184l)
                            go_wp2
                            repeat (go_quiet (fail); try go_wp2)
                            go_ret
                            exact ⟨by first | rfl | (simp [errW_none, errW_some] <;> rfl) | (simp [*, errW_none, errW_some] <;> rfl), by repeat (first | (with_reducible first | exact HB.out | apply below_alloc | apply pw_below_drewN | apply below_drew1) | exact HB.out)⟩
                          · rw [if_neg c19] at H
                            have c19b0 : decide (100 < ((rdOf ByteArray.empty (l2.drop 1) x36_2).size : Int)) = false := decide_eq_false c19
                            have c19b0t := by (have z_ := c19b0; rw [List.drop_one] at z_; exact z_)
                            have c19b1 : decide (100 < (rdOf ByteArray.empty (l2.drop 1) x36_2).size) = false := decide_eq_false (by omega)
                            have c19b1t := by (have z_ := c19b1; rw [List.drop_one] at z_; exact z_)
                            clear c19
                            have H' := Aside0.mk H
                            clear H
                            have p184 : 0 ≤ (x36_2 : Int) := of_decide_eq_true (by first | (with_reducible assumption) | assumption)
                            have q184 : x36_2 < ((l2.drop 1).length : Int) := of_decide_eq_true (by first | (with_reducible assumption) | assumption)
                            obtain ⟨ad184, e184, hx184_0⟩ := Kd.at_string HR183.out x36_2 p184 q184
                            cases e184
                            replace hx184_0 := (HB.out.cell (World.block_lt_of_cell? w _ hx184_0)).trans hx184_0
                            replace p184 := eq_true p184
                            replace q184 := eq_true q184
                            try (have q184l := q184; rw [List.length_drop] at q184l)
                            go_wp2
                            repeat (go_quiet (fail); try go_wp2)
                            go_roundg k2
                            case measure => have := HJ9.out; have := HK2.out; omega
                            case rel => exact ⟨(wrap64 (x36_2 + 1)), (by first | rfl | (simp; done) | (simp [*]; done)), H', ⟨by have := HJ9.out; have := HK2.out; omega⟩, ⟨by repeat (first | (with_reducible first | exact HB.out | apply below_alloc | apply pw_below_drewN | apply below_drew1) | exact HB.out)⟩⟩
                        · rw [if_neg c18] at H
                          exact absurd H (by simp)
                      · rw [if_neg c17] at H
                        exact absurd H (by simp)
                    · rw [if_neg c16] at H
                      have c16b0 : decide (x36_2 < ((l2.drop 1).length : Int)) = false := decide_eq_false c16
                      have c16b0l := by (have z_ := c16b0; rw [List.length_drop] at z_; exact z_)
                      clear c16
                      replace H := Option.bind_eq_some_iff.mp H
                      obtain ⟨t185, A200, H⟩ := H
                      replace H : ((fuglemanref19_Inputs.f k2 a0 (rdOf ByteArray.empty l2 0) l1 (l2.drop 1)).bind fun t186 => (some (t185.toList == t186.toList))) = some r := H
                      have A20 := Aside0.mk A200
                      clear A200
                      replace H := Option.bind_eq_some_iff.mp H
                      obtain ⟨t186, A210, H⟩ := H
                      replace H : (some (t185.toList == t186.toList)) = some r := H
                      have A21 := Aside0.mk A210
                      clear A210
                      obtain rfl := Option.some.inj H
                      go_wp2_with (first | (go_at_call 7; (try rw [show l2.length - 1 = (l2.drop 1).length from by simp]); (with_reducible refine (image_Inputs.calls k2 a0 (rdOf ByteArray.empty l2 0) _ _ l1 _ _ (l2.drop 1) t185 _ ?side1 ?side2 ?side3 ?side4 A20.out).mono ?_); (case side1 => repeat (first | exact (Kd.C_below HR1.out HB.out) | (with_reducible refine Kd.C_alloc ?_ _) | (with_reducible refine Kd.C_drewN ?_ _) | (with_reducible refine Kd.C_drew ?_))); (case side2 => exact HC1.out); (case side3 => repeat (first | exact (Kd.C_below HR183.out HB.out) | (with_reducible refine Kd.C_alloc ?_ _) | (with_reducible refine Kd.C_drewN ?_ _) | (with_reducible refine Kd.C_drew ?_))); (case side4 => exact HC183.out); rintro e w22 ⟨rfl, hb⟩; have n0_ := Aside0.mk (below_step (by repeat (first | (with_reducible first | exact HB.out | apply below_alloc | apply pw_below_drewN | apply below_drew1) | exact HB.out)) hb); clear HB; have HB := n0_; clear n0_; (try clear hb); (try clear hb2); (try clear hk); (try clear hi)) | (go_at_call 8; (try rw [show l2.length - 1 = (l2.drop 1).length from by simp]); (with_reducible refine (fuglemanref19_Inputs.calls k2 a0 (rdOf ByteArray.empty l2 0) _ _ l1 _ _ (l2.drop 1) t186 _ ?side1 ?side2 ?side3 ?side4 A21.out).mono ?_); (case side1 => repeat (first | exact (Kd.C_below HR1.out HB.out) | (with_reducible refine Kd.C_alloc ?_ _) | (with_reducible refine Kd.C_drewN ?_ _) | (with_reducible refine Kd.C_drew ?_))); (case side2 => exact HC1.out); (case side3 => repeat (first | exact (Kd.C_below HR183.out HB.out) | (with_reducible refine Kd.C_alloc ?_ _) | (with_reducible refine Kd.C_drewN ?_ _) | (with_reducible refine Kd.C_drew ?_))); (case side4 => exact HC183.out); rintro e w23 ⟨rfl, hb⟩; have n0_ := Aside0.mk (below_step (by repeat (first | (with_reducible first | exact HB.out | apply below_alloc | apply pw_below_drewN | apply below_drew1) | exact HB.out)) hb); clear HB; have HB := n0_; clear n0_; (try clear hb); (try clear hb2); (try clear hk); (try clear hi)))
                      repeat (go_quiet (first | (go_at_call 7; (try rw [show l2.length - 1 = (l2.drop 1).length from by simp]); (with_reducible refine (image_Inputs.calls k2 a0 (rdOf ByteArray.empty l2 0) _ _ l1 _ _ (l2.drop 1) t185 _ ?side1 ?side2 ?side3 ?side4 A20.out).mono ?_); (case side1 => repeat (first | exact (Kd.C_below HR1.out HB.out) | (with_reducible refine Kd.C_alloc ?_ _) | (with_reducible refine Kd.C_drewN ?_ _) | (with_reducible refine Kd.C_drew ?_))); (case side2 => exact HC1.out); (case side3 => repeat (first | exact (Kd.C_below HR183.out HB.out) | (with_reducible refine Kd.C_alloc ?_ _) | (with_reducible refine Kd.C_drewN ?_ _) | (with_reducible refine Kd.C_drew ?_))); (case side4 => exact HC183.out); rintro e w22 ⟨rfl, hb⟩; have n0_ := Aside0.mk (below_step (by repeat (first | (with_reducible first | exact HB.out | apply below_alloc | apply pw_below_drewN | apply below_drew1) | exact HB.out)) hb); clear HB; have HB := n0_; clear n0_; (try clear hb); (try clear hb2); (try clear hk); (try clear hi)) | (go_at_call 8; (try rw [show l2.length - 1 = (l2.drop 1).length from by simp]); (with_reducible refine (fuglemanref19_Inputs.calls k2 a0 (rdOf ByteArray.empty l2 0) _ _ l1 _ _ (l2.drop 1) t186 _ ?side1 ?side2 ?side3 ?side4 A21.out).mono ?_); (case side1 => repeat (first | exact (Kd.C_below HR1.out HB.out) | (with_reducible refine Kd.C_alloc ?_ _) | (with_reducible refine Kd.C_drewN ?_ _) | (with_reducible refine Kd.C_drew ?_))); (case side2 => exact HC1.out); (case side3 => repeat (first | exact (Kd.C_below HR183.out HB.out) | (with_reducible refine Kd.C_alloc ?_ _) | (with_reducible refine Kd.C_drewN ?_ _) | (with_reducible refine Kd.C_drew ?_))); (case side4 => exact HC183.out); rintro e w23 ⟨rfl, hb⟩; have n0_ := Aside0.mk (below_step (by repeat (first | (with_reducible first | exact HB.out | apply below_alloc | apply pw_below_drewN | apply below_drew1) | exact HB.out)) hb); clear HB; have HB := n0_; clear n0_; (try clear hb); (try clear hb2); (try clear hk); (try clear hi))); try go_wp2_with (first | (go_at_call 7; (try rw [show l2.length - 1 = (l2.drop 1).length from by simp]); (with_reducible refine (image_Inputs.calls k2 a0 (rdOf ByteArray.empty l2 0) _ _ l1 _ _ (l2.drop 1) t185 _ ?side1 ?side2 ?side3 ?side4 A20.out).mono ?_); (case side1 => repeat (first | exact (Kd.C_below HR1.out HB.out) | (with_reducible refine Kd.C_alloc ?_ _) | (with_reducible refine Kd.C_drewN ?_ _) | (with_reducible refine Kd.C_drew ?_))); (case side2 => exact HC1.out); (case side3 => repeat (first | exact (Kd.C_below HR183.out HB.out) | (with_reducible refine Kd.C_alloc ?_ _) | (with_reducible refine Kd.C_drewN ?_ _) | (with_reducible refine Kd.C_drew ?_))); (case side4 => exact HC183.out); rintro e w22 ⟨rfl, hb⟩; have n0_ := Aside0.mk (below_step (by repeat (first | (with_reducible first | exact HB.out | apply below_alloc | apply pw_below_drewN | apply below_drew1) | exact HB.out)) hb); clear HB; have HB := n0_; clear n0_; (try clear hb); (try clear hb2); (try clear hk); (try clear hi)) | (go_at_call 8; (try rw [show l2.length - 1 = (l2.drop 1).length from by simp]); (with_reducible refine (fuglemanref19_Inputs.calls k2 a0 (rdOf ByteArray.empty l2 0) _ _ l1 _ _ (l2.drop 1) t186 _ ?side1 ?side2 ?side3 ?side4 A21.out).mono ?_); (case side1 => repeat (first | exact (Kd.C_below HR1.out HB.out) | (with_reducible refine Kd.C_alloc ?_ _) | (with_reducible refine Kd.C_drewN ?_ _) | (with_reducible refine Kd.C_drew ?_))); (case side2 => exact HC1.out); (case side3 => repeat (first | exact (Kd.C_below HR183.out HB.out) | (with_reducible refine Kd.C_alloc ?_ _) | (with_reducible refine Kd.C_drewN ?_ _) | (with_reducible refine Kd.C_drew ?_))); (case side4 => exact HC183.out); rintro e w23 ⟨rfl, hb⟩; have n0_ := Aside0.mk (below_step (by repeat (first | (with_reducible first | exact HB.out | apply below_alloc | apply pw_below_drewN | apply below_drew1) | exact HB.out)) hb); clear HB; have HB := n0_; clear n0_; (try clear hb); (try clear hb2); (try clear hk); (try clear hi))))
                      go_ret
                      exact ⟨by first | rfl | (simp [errW_none, errW_some] <;> rfl) | (simp [*, errW_none, errW_some] <;> rfl), by repeat (first | (with_reducible first | exact HB.out | apply below_alloc | apply pw_below_drewN | apply below_drew1) | exact HB.out)⟩
        · rw [if_neg c9] at H
          exact absurd H (by simp)
      · rw [if_neg c8] at H
        exact absurd H (by simp)
  · replace c5 := Bool.eq_false_iff.mpr c5
    subst c5
    have H1 : (some false) = some r := by rw [if_neg (show ¬ (false = true) by decide)] at H; exact H
    clear H
    have H := H1
    clear H1
    obtain rfl := Option.some.inj H
    go_enter Try.func3, Try.ntmps3
    go_wp2_with (first | (go_at_call 6; (with_reducible refine (fuglemanlaw19_awake.calls k  false _ A4.out).mono ?_); rintro e w24 ⟨rfl, hb⟩; have n0_ := Aside0.mk (below_step (by repeat (first | (with_reducible first | exact HB.out | apply below_alloc | apply pw_below_drewN | apply below_drew1) | exact HB.out)) hb); clear HB; have HB := n0_; clear n0_; (try clear hb); (try clear hb2); (try clear hk); (try clear hi)))
    repeat (go_quiet (first | (go_at_call 6; (with_reducible refine (fuglemanlaw19_awake.calls k  false _ A4.out).mono ?_); rintro e w24 ⟨rfl, hb⟩; have n0_ := Aside0.mk (below_step (by repeat (first | (with_reducible first | exact HB.out | apply below_alloc | apply pw_below_drewN | apply below_drew1) | exact HB.out)) hb); clear HB; have HB := n0_; clear n0_; (try clear hb); (try clear hb2); (try clear hk); (try clear hi))); try go_wp2_with (first | (go_at_call 6; (with_reducible refine (fuglemanlaw19_awake.calls k  false _ A4.out).mono ?_); rintro e w24 ⟨rfl, hb⟩; have n0_ := Aside0.mk (below_step (by repeat (first | (with_reducible first | exact HB.out | apply below_alloc | apply pw_below_drewN | apply below_drew1) | exact HB.out)) hb); clear HB; have HB := n0_; clear n0_; (try clear hb); (try clear hb2); (try clear hk); (try clear hi))))
    go_ret
    exact ⟨by first | rfl | (simp [errW_none, errW_some] <;> rfl) | (simp [*, errW_none, errW_some] <;> rfl), by repeat (first | (with_reducible first | exact HB.out | apply below_alloc | apply pw_below_drewN | apply below_drew1) | exact HB.out)⟩

end Go.Proofs.Ytpjpjamaimahaaa.PImageInputs
