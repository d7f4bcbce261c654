/- A part of a proof: functions of the program as functions over numbers and lists, and that the program's calls answer as these do. Written by a program for this claim. -/
import Derived.Test.YtalafpnpgigppaaPBlocksPartsx0
import Derived.Test.YtalafpnpgigppaaPBlocksPartsx1
namespace Go.Proofs.Ytalafpnpgigppaa.PBlocksParts
open Go.RowKit Go.Proofs.YtalafpnpgigppaaW.PrintWords Go.Proofs.YtalafpnpgigppaaW.PrintLast Go.Proofs.YtalafpnpgigppaaW.PrintMore
attribute [local go_sem] max2_int min2_int max_two min_two max_three min_three max_four min_four   -- for this text's walks alone
set_option linter.unusedVariables false
set_option linter.unusedSimpArgs false

/-! ### fuglemanlaw16_BlocksParts: function 3 -/
mutual
def fuglemanlaw16_BlocksParts.j0 : Nat → ByteArray → Int → List ByteArray → Option (Bool)
  | 0, _, _, _ => none
  | k + 1, x0, x1, x5 => (blocks_Parts.f (x0.size : Int)).bind fun t130 => (if t130 = (x5.length : Int) then (fuglemanlaw16_BlocksParts.l0 k x0 x1 x5 (⟨#[]⟩ : ByteArray) x5 (x5.length : Int) 0) else (some false))
def fuglemanlaw16_BlocksParts.l0 : Nat → ByteArray → Int → List ByteArray → ByteArray → List ByteArray → Int → Int → Option (Bool)
  | 0, _, _, _, _, _, _, _ => none
  | k + 1, x0, x1, x5, x6, x29, x30, x31 => if x31 < x30 then (if 0 ≤ x31 then (if x31 < (x29.length : Int) then ((blocks_Piece.f (x0.size : Int) x31).bind fun bt132 => ((blocks_Cut.f x0 x31).bind fun t134 => (if t134.toList = (rdOf ByteArray.empty x29 x31).toList then (if bt132.1 = (x6.size : Int) then (if bt132.2 = ((rdOf ByteArray.empty x29 x31).size : Int) then (if bt132.2 < 1 then (some false) else (if bt132.2 > 16 then (some false) else (if x6.size + (rdOf ByteArray.empty x29 x31).size ≤ 9223372036854775807 then (fuglemanlaw16_BlocksParts.l0 k x0 x1 x5 (x6 ++ (rdOf ByteArray.empty x29 x31)) x29 x30 (wrap64 (x31 + 1))) else (none)))) else (some false)) else (some false)) else (some false)))) else (none)) else (none)) else (if x1 < 0 then (fuglemanlaw16_BlocksParts.j2 k x0 x1 x6 true) else (fuglemanlaw16_BlocksParts.j2 k x0 x1 x6 (decide (x1 ≥ (x5.length : Int)))))
def fuglemanlaw16_BlocksParts.j2 : Nat → ByteArray → Int → ByteArray → Bool → Option (Bool)
  | 0, _, _, _, _ => none
  | k + 1, x0, x1, x6, x79 => if x79 = true then ((blocks_Piece.f (x0.size : Int) x1).bind fun bt135 => (if bt135.1 = 0 then (if bt135.2 = 0 then ((blocks_Cut.f x0 x1).bind fun t137 => (if t137.toList = ([] : List UInt8) then (if x6.toList = x0.toList then (some true) else (if (x0.size : Int) > 64 then (some (x6.toList == ([] : List UInt8))) else (some false))) else (some false))) else (some false)) else (some false))) else (if x6.toList = x0.toList then (some true) else (if (x0.size : Int) > 64 then (some (x6.toList == ([] : List UInt8))) else (some false)))
end
def fuglemanlaw16_BlocksParts.f (k : Nat) (a0 : ByteArray) (a1 : Int) : Option (Bool) := (fuglemanlaw16_awake.f k).bind fun t126 => (if t126 = true then (if (a0.size : Int) > 100 then (some true) else ((fuglemanref16_All.f k a0).bind fun t127 => (if (a0.size : Int) > 64 then (fuglemanlaw16_BlocksParts.j0 k a0 a1 ([] : List ByteArray)) else (fuglemanlaw16_BlocksParts.j0 k a0 a1 t127)))) else (some false))
theorem fuglemanlaw16_BlocksParts.mono_l : ∀ k, (∀ y0 y1 y2, LeO (fuglemanlaw16_BlocksParts.j0 k y0 y1 y2) (fuglemanlaw16_BlocksParts.j0 (k + 1) y0 y1 y2)) ∧ (∀ y0 y1 y2 y3 y4 y5 y6, LeO (fuglemanlaw16_BlocksParts.l0 k y0 y1 y2 y3 y4 y5 y6) (fuglemanlaw16_BlocksParts.l0 (k + 1) y0 y1 y2 y3 y4 y5 y6)) ∧ (∀ y0 y1 y2 y3, LeO (fuglemanlaw16_BlocksParts.j2 k y0 y1 y2 y3) (fuglemanlaw16_BlocksParts.j2 (k + 1) y0 y1 y2 y3))
  | 0 => ⟨fun _ _ _ r h => by simp [fuglemanlaw16_BlocksParts.j0] at h, fun _ _ _ _ _ _ _ r h => by simp [fuglemanlaw16_BlocksParts.l0] at h, fun _ _ _ _ r h => by simp [fuglemanlaw16_BlocksParts.j2] at h⟩
  | k + 1 => by
    obtain ⟨ih0, ih1, ih2⟩ := fuglemanlaw16_BlocksParts.mono_l k
    refine ⟨?_, ?_, ?_⟩
    · intro y0 y1 y2
      unfold fuglemanlaw16_BlocksParts.j0
      repeat' first
      | (with_reducible exact ih0 _ _ _)
      | (with_reducible exact ih1 _ _ _ _ _ _ _)
      | (with_reducible exact ih2 _ _ _ _)
      | (with_reducible exact fuglemanlaw16_awake.mono _)
      | (with_reducible exact fuglemanref16_All.mono _ _)
      | (with_reducible exact LeO.refl _)
      | (with_reducible exact LeO.none _)
      | (with_reducible refine LeO.ite ?_ ?_)
      | (with_reducible refine LeO.bind ?_ (fun _ => ?_))
      | exact ih0 _ _ _
      | exact ih1 _ _ _ _ _ _ _
      | exact ih2 _ _ _ _
      | exact fuglemanlaw16_awake.mono _
      | exact fuglemanref16_All.mono _ _
      | exact LeO.none _
      | refine LeO.ite ?_ ?_
      | refine LeO.bind ?_ (fun _ => ?_)
    · intro y0 y1 y2 y3 y4 y5 y6
      unfold fuglemanlaw16_BlocksParts.l0
      repeat' first
      | (with_reducible exact ih0 _ _ _)
      | (with_reducible exact ih1 _ _ _ _ _ _ _)
      | (with_reducible exact ih2 _ _ _ _)
      | (with_reducible exact fuglemanlaw16_awake.mono _)
      | (with_reducible exact fuglemanref16_All.mono _ _)
      | (with_reducible exact LeO.refl _)
      | (with_reducible exact LeO.none _)
      | (with_reducible refine LeO.ite ?_ ?_)
      | (with_reducible refine LeO.bind ?_ (fun _ => ?_))
      | exact ih0 _ _ _
      | exact ih1 _ _ _ _ _ _ _
      | exact ih2 _ _ _ _
      | exact fuglemanlaw16_awake.mono _
      | exact fuglemanref16_All.mono _ _
      | exact LeO.none _
      | refine LeO.ite ?_ ?_
      | refine LeO.bind ?_ (fun _ => ?_)
    · intro y0 y1 y2 y3
      unfold fuglemanlaw16_BlocksParts.j2
      repeat' first
      | (with_reducible exact ih0 _ _ _)
      | (with_reducible exact ih1 _ _ _ _ _ _ _)
      | (with_reducible exact ih2 _ _ _ _)
      | (with_reducible exact fuglemanlaw16_awake.mono _)
      | (with_reducible exact fuglemanref16_All.mono _ _)
      | (with_reducible exact LeO.refl _)
      | (with_reducible exact LeO.none _)
      | (with_reducible refine LeO.ite ?_ ?_)
      | (with_reducible refine LeO.bind ?_ (fun _ => ?_))
      | exact ih0 _ _ _
      | exact ih1 _ _ _ _ _ _ _
      | exact ih2 _ _ _ _
      | exact fuglemanlaw16_awake.mono _
      | exact fuglemanref16_All.mono _ _
      | exact LeO.none _
      | refine LeO.ite ?_ ?_
      | refine LeO.bind ?_ (fun _ => ?_)
theorem fuglemanlaw16_BlocksParts.mono : ∀ a0 a1 k, LeO (fuglemanlaw16_BlocksParts.f k a0 a1) (fuglemanlaw16_BlocksParts.f (k + 1) a0 a1) := by
  intro a0 a1 k
  obtain ⟨ih0, ih1, ih2⟩ := fuglemanlaw16_BlocksParts.mono_l k
  unfold fuglemanlaw16_BlocksParts.f
  repeat' first
      | (with_reducible exact ih0 _ _ _)
      | (with_reducible exact ih1 _ _ _ _ _ _ _)
      | (with_reducible exact ih2 _ _ _ _)
      | (with_reducible exact fuglemanlaw16_awake.mono _)
      | (with_reducible exact fuglemanref16_All.mono _ _)
      | (with_reducible exact LeO.refl _)
      | (with_reducible exact LeO.none _)
      | (with_reducible refine LeO.ite ?_ ?_)
      | (with_reducible refine LeO.bind ?_ (fun _ => ?_))
      | exact ih0 _ _ _
      | exact ih1 _ _ _ _ _ _ _
      | exact ih2 _ _ _ _
      | exact fuglemanlaw16_awake.mono _
      | exact fuglemanref16_All.mono _ _
      | exact LeO.none _
      | refine LeO.ite ?_ ?_
      | refine LeO.bind ?_ (fun _ => ?_)
set_option maxHeartbeats 8000000 in
set_option maxRecDepth 100000 in
theorem fuglemanlaw16_BlocksParts.calls (k : Nat) (a0 : ByteArray) (a1 : Int) (r : Bool) (w : World) (h : fuglemanlaw16_BlocksParts.f k a0 a1 = some r) :
    Calls Try.prog 3 #[.string a0, .int .i64 a1] w fun e w' => e = .returned (.bool r) ∧ Below w.heap.size w w' := by
  have HB := Aside0.mk (Below.refl w.heap.size w)
  have H : ((fuglemanlaw16_awake.f k).bind fun t126 => (if t126 = true then (if (a0.size : Int) > 100 then (some true) else ((fuglemanref16_All.f k a0).bind fun t127 => (if (a0.size : Int) > 64 then (fuglemanlaw16_BlocksParts.j0 k a0 a1 ([] : List ByteArray)) else (fuglemanlaw16_BlocksParts.j0 k a0 a1 t127)))) else (some false))) = some r := h
  clear h
  replace H := Option.bind_eq_some_iff.mp H
  obtain ⟨t126, A30, H⟩ := H
  replace H : (if t126 = true then (if (a0.size : Int) > 100 then (some true) else ((fuglemanref16_All.f k a0).bind fun t127 => (if (a0.size : Int) > 64 then (fuglemanlaw16_BlocksParts.j0 k a0 a1 ([] : List ByteArray)) else (fuglemanlaw16_BlocksParts.j0 k a0 a1 t127)))) else (some false)) = some r := H
  have A3 := Aside0.mk A30
  clear A30
  by_cases c4 : t126 = true
  · subst c4
    have H1 : (if (a0.size : Int) > 100 then (some true) else ((fuglemanref16_All.f k a0).bind fun t127 => (if (a0.size : Int) > 64 then (fuglemanlaw16_BlocksParts.j0 k a0 a1 ([] : List ByteArray)) else (fuglemanlaw16_BlocksParts.j0 k a0 a1 t127)))) = some r := by rw [if_pos rfl] at H; exact H
    clear H
    have H := H1
    clear H1
    by_cases c5 : (a0.size : Int) > 100
    · rw [if_pos c5] at H
      have c5b0 : decide (100 < (a0.size : Int)) = true := decide_eq_true c5
      have c5b1 : decide (100 < a0.size) = true := decide_eq_true (by omega)
      clear c5
      obtain rfl := Option.some.inj H
      go_enter Try.func3, Try.ntmps3
      go_wp2_with (first | ((with_reducible refine gate_callee (f := 6) rfl ?_); refine goesL_ (some 13) rfl rfl Try.func6 (by kernel_rfl) rfl #[] rfl (by (try simp only [List.map_toArray, List.map_cons, List.map_nil]); first | done | rfl | (simp only [List.length_drop, List.length_take]; rfl)) ?_; (with_reducible refine (fuglemanlaw16_awake.calls k  true _ A3.out).mono ?_); rintro e w6 ⟨rfl, hb⟩; refine ⟨_, rfl, ?_⟩; have n0_ := Aside0.mk (below_step (by repeat (first | (with_reducible first | exact HB.out | apply below_alloc | apply pw_below_drewN | apply below_drew1) | exact HB.out)) hb); clear HB; have HB := n0_; clear n0_; (try clear hb); (try clear hb2); (try clear hk); (try clear hi)))
      go_ret
      exact ⟨by first | rfl | (simp [errW_none, errW_some] <;> rfl) | (simp [*, errW_none, errW_some] <;> rfl), by repeat (first | (with_reducible first | exact HB.out | apply below_alloc | apply pw_below_drewN | apply below_drew1) | exact HB.out)⟩
    · rw [if_neg c5] at H
      have c5b0 : decide (100 < (a0.size : Int)) = false := decide_eq_false c5
      have c5b1 : decide (100 < a0.size) = false := decide_eq_false (by omega)
      clear c5
      replace H := Option.bind_eq_some_iff.mp H
      obtain ⟨t127, A70, H⟩ := H
      replace H : (if (a0.size : Int) > 64 then (fuglemanlaw16_BlocksParts.j0 k a0 a1 ([] : List ByteArray)) else (fuglemanlaw16_BlocksParts.j0 k a0 a1 t127)) = some r := H
      have A7 := Aside0.mk A70
      clear A70
      have HC8 := Aside0.mk H
      clear H
      go_enter Try.func3, Try.ntmps3
      go_upto_if 22 with (first | ((with_reducible refine gate_callee (f := 6) rfl ?_); refine goesL_ (some 13) rfl rfl Try.func6 (by kernel_rfl) rfl #[] rfl (by (try simp only [List.map_toArray, List.map_cons, List.map_nil]); first | done | rfl | (simp only [List.length_drop, List.length_take]; rfl)) ?_; (with_reducible refine (fuglemanlaw16_awake.calls k  true _ A3.out).mono ?_); rintro e w9 ⟨rfl, hb⟩; refine ⟨_, rfl, ?_⟩; have n0_ := Aside0.mk (below_step (by repeat (first | (with_reducible first | exact HB.out | apply below_alloc | apply pw_below_drewN | apply below_drew1) | exact HB.out)) hb); clear HB; have HB := n0_; clear n0_; (try clear hb); (try clear hb2); (try clear hk); (try clear hi)) | ((with_reducible refine gate_callee (f := 7) rfl ?_); refine goesL_ (some 19) rfl rfl Try.func7 (by kernel_rfl) rfl #[.string a0] rfl (by (try simp only [List.map_toArray, List.map_cons, List.map_nil]); first | done | rfl | (simp only [List.length_drop, List.length_take]; rfl)) ?_; (with_reducible refine (fuglemanref16_All.calls k a0 t127 _ A7.out).mono ?_); rintro e w10 ⟨v128, rfl, ho0, hb⟩; refine ⟨_, rfl, ?_⟩; have n0_ := Aside0.mk (Kd.R_lower ho0 (below_size (by repeat (first | (with_reducible first | exact HB.out | apply below_alloc | apply pw_below_drewN | apply below_drew1) | exact HB.out)))); have n1_ := Aside0.mk (below_step (by repeat (first | (with_reducible first | exact HB.out | apply below_alloc | apply pw_below_drewN | apply below_drew1) | exact HB.out)) hb); clear HB; have HO129 := n0_; have HB := n1_; clear n0_ n1_; (try clear hb); (try clear hb2); (try clear hk); (try clear hi); (try clear ho0)))
      (try simp only [Act.put, List.setIfInBounds_toArray, List.set_cons_zero, List.set_cons_succ])
      go_cut [5] (fun v5 wc => ∃ (kq : Nat) (x5_7 : List ByteArray), Aside0 (fuglemanlaw16_BlocksParts.j0 kq a0 a1 x5_7 = some r) ∧ Aside0 (kq ≤ k) ∧ Aside0 (Kd.R Kd.string 9 wc w.heap.size (fun _ => True) v5 x5_7) ∧ Aside0 (Below w.heap.size w wc))
      case first =>
        have H := HC8.out
        clear HC8
        by_cases c11 : (a0.size : Int) > 64
        · rw [if_pos c11] at H
          have c11b0 : decide (64 < (a0.size : Int)) = true := decide_eq_true c11
          have c11b1 : decide (64 < a0.size) = true := decide_eq_true (by omega)
          clear c11
          (first | rw [c11b0] | (simp only [i64_w, i32_w]; rw [c11b0]) | skip)
          have H' := Aside0.mk H
          clear H
          go_wp2
          go_meet
          case rel => exact ⟨_, (([] : List ByteArray)), H', ⟨by first | omega | exact Nat.le_refl _⟩, ⟨by first | exact Kd.R_nil _ _ _ _ _ | exact Kd.N_nil _ _ _ _ _ | exact Kd.V_nil _ _ _ _ _ | exact Kd.Q_nil _ _ _ _ _ | exact Kd.S_nil _ _ _ _ _⟩, ⟨by repeat (first | (with_reducible first | exact HB.out | apply below_alloc | apply pw_below_drewN | apply below_drew1) | exact HB.out)⟩⟩
        · rw [if_neg c11] at H
          have c11b0 : decide (64 < (a0.size : Int)) = false := decide_eq_false c11
          have c11b1 : decide (64 < a0.size) = false := decide_eq_false (by omega)
          clear c11
          (first | rw [c11b0] | (simp only [i64_w, i32_w]; rw [c11b0]) | skip)
          have H' := Aside0.mk H
          clear H
          go_wp2
          go_meet
          case rel => exact ⟨_, (t127), H', ⟨by first | omega | exact Nat.le_refl _⟩, ⟨by (with_reducible repeat (first | apply Kd.R_alloc | apply Kd.R_drewN | apply Kd.R_drew)); exact HO129.out⟩, ⟨by repeat (first | (with_reducible first | exact HB.out | apply below_alloc | apply pw_below_drewN | apply below_drew1) | exact HB.out)⟩⟩
      case rest =>
        clear HC8
        try clear c1
        try clear p2
        try clear c3
        try clear c4
        try clear c5
        try clear c5b0
        try clear c5b1
        try clear c6
        try clear c7
        try clear c11
        try clear c11b0
        try clear c11b1
        obtain ⟨kq, x5_7, HA, HJ7, HO_5, HB⟩ := hcut
        cases kq with
        | zero => exact absurd HA.out (by simp [fuglemanlaw16_BlocksParts.j0])
        | succ kj7 =>
          have H := HA.out
          clear HA
          simp only [fuglemanlaw16_BlocksParts.j0] at H
          replace H := Option.bind_eq_some_iff.mp H
          obtain ⟨t130, A120, H⟩ := H
          replace H : (if t130 = (x5_7.length : Int) then (fuglemanlaw16_BlocksParts.l0 kj7 a0 a1 x5_7 (⟨#[]⟩ : ByteArray) x5_7 (x5_7.length : Int) 0) else (some false)) = some r := H
          have A12 := Aside0.mk A120
          clear A120
          by_cases c13 : t130 = (x5_7.length : Int)
          · rw [if_pos c13] at H
            have c13b0 : (t130 == (x5_7.length : Int)) = true := beq_iff_eq.mpr c13
            have c13b1 : (t130 != (x5_7.length : Int)) = false := bne_eq_false_iff_eq.mpr c13
            clear c13
            have H' := Aside0.mk H
            clear H
            go_wp2_with (first | ((with_reducible refine gate_callee (f := 8) rfl ?_); refine goesL_ (some 25) rfl rfl Try.func8 (by kernel_rfl) rfl #[.int .i64 (a0.size : Int)] rfl (by (try simp only [List.map_toArray, List.map_cons, List.map_nil]); first | done | rfl | (simp only [List.length_drop, List.length_take]; rfl)) ?_; (with_reducible refine (blocks_Parts.calls (a0.size : Int) t130 _ A12.out).mono ?_); rintro e w' ⟨rfl, ⟨nd, rfl⟩⟩; refine ⟨_, rfl, ?_⟩; obtain ⟨Ao14, co14, eo14⟩ := Kd.R_slice HO_5.out; subst eo14))
            go_loopg [6, 31] kj7 (fun kq v6 v31 w' => ∃ (x6_2 : ByteArray) (x31_2 : Int), v6 = .string x6_2 ∧ v31 = .int .i64 x31_2 ∧ Aside0 (fuglemanlaw16_BlocksParts.l0 kq a0 a1 x5_7 x6_2 x5_7 (x5_7.length : Int) x31_2 = some r) ∧ Aside0 (kq ≤ kj7) ∧ Aside0 (Kd.R Kd.string 9 w' w.heap.size (fun _ => True) (.slice Ao14 x5_7.length co14) x5_7) ∧ Aside0 (Kd.R Kd.string 9 w' w.heap.size (fun _ => True) (.slice Ao14 x5_7.length co14) x5_7) ∧ Aside0 (Below w.heap.size w w'))
            case atStart => exact ⟨((⟨#[]⟩ : ByteArray)), (0), (by first | rfl | (simp; done) | (simp [*]; done)), (by first | rfl | (simp; done) | (simp [*]; done)), H', ⟨Nat.le_refl _⟩, ⟨by (with_reducible repeat (first | apply Kd.R_alloc | apply Kd.R_drewN | apply Kd.R_drew)); exact HO_5.out⟩, ⟨by (with_reducible repeat (first | apply Kd.R_alloc | apply Kd.R_drewN | apply Kd.R_drew)); exact HO_5.out⟩, ⟨by repeat (first | (with_reducible first | exact HB.out | apply below_alloc | apply pw_below_drewN | apply below_drew1) | exact HB.out)⟩⟩
            case round =>
              clear H'
              try clear c1
              try clear p2
              try clear c3
              try clear c4
              try clear c5
              try clear c5b0
              try clear c5b1
              try clear c6
              try clear c7
              try clear c8
              try clear c11
              try clear c11b0
              try clear c11b1
              try clear c13
              try clear c13b0
              try clear c13b1
              try clear p2
              obtain ⟨x6_2, x31_2, rfl, rfl, HA, HK2, HO_5, HO_29, HB⟩ := hrel
              cases gk with
              | zero => exact absurd HA.out (by simp [fuglemanlaw16_BlocksParts.l0])
              | succ k2 =>
                have H := HA.out
                clear HA
                simp only [fuglemanlaw16_BlocksParts.l0] at H
                by_cases c15 : x31_2 < (x5_7.length : Int)
                · rw [if_pos c15] at H
                  have c15b0 : decide (x31_2 < (x5_7.length : Int)) = true := decide_eq_true c15
                  clear c15
                  by_cases c16 : 0 ≤ x31_2
                  · rw [if_pos c16] at H
                    have c16b0 : decide (0 ≤ x31_2) = true := decide_eq_true c16
                    clear c16
                    by_cases c17 : x31_2 < (x5_7.length : Int)
                    · rw [if_pos c17] at H
                      have c17b0 : decide (x31_2 < (x5_7.length : Int)) = true := decide_eq_true c17
                      clear c17
                      replace H := Option.bind_eq_some_iff.mp H
                      obtain ⟨⟨t132, t133⟩, A180, H⟩ := H
                      replace H : ((blocks_Cut.f a0 x31_2).bind fun t134 => (if t134.toList = (rdOf ByteArray.empty x5_7 x31_2).toList then (if t132 = (x6_2.size : Int) then (if t133 = ((rdOf ByteArray.empty x5_7 x31_2).size : Int) then (if t133 < 1 then (some false) else (if t133 > 16 then (some false) else (if x6_2.size + (rdOf ByteArray.empty x5_7 x31_2).size ≤ 9223372036854775807 then (fuglemanlaw16_BlocksParts.l0 k2 a0 a1 x5_7 (x6_2 ++ (rdOf ByteArray.empty x5_7 x31_2)) x5_7 (x5_7.length : Int) (wrap64 (x31_2 + 1))) else (none)))) else (some false)) else (some false)) else (some false))) = some r := H
                      have A18 := Aside0.mk A180
                      clear A180
                      replace H := Option.bind_eq_some_iff.mp H
                      obtain ⟨t134, A190, H⟩ := H
                      replace H : (if t134.toList = (rdOf ByteArray.empty x5_7 x31_2).toList then (if t132 = (x6_2.size : Int) then (if t133 = ((rdOf ByteArray.empty x5_7 x31_2).size : Int) then (if t133 < 1 then (some false) else (if t133 > 16 then (some false) else (if x6_2.size + (rdOf ByteArray.empty x5_7 x31_2).size ≤ 9223372036854775807 then (fuglemanlaw16_BlocksParts.l0 k2 a0 a1 x5_7 (x6_2 ++ (rdOf ByteArray.empty x5_7 x31_2)) x5_7 (x5_7.length : Int) (wrap64 (x31_2 + 1))) else (none)))) else (some false)) else (some false)) else (some false)) = some r := H
                      have A19 := Aside0.mk A190
                      clear A190
                      by_cases c20 : t134.toList = (rdOf ByteArray.empty x5_7 x31_2).toList
                      · rw [if_pos c20] at H
                        have c20b0 : (t134.toList == (rdOf ByteArray.empty x5_7 x31_2).toList) = true := beq_iff_eq.mpr c20
                        have c20b1 : (t134.toList != (rdOf ByteArray.empty x5_7 x31_2).toList) = false := bne_eq_false_iff_eq.mpr c20
                        clear c20
                        by_cases c21 : t132 = (x6_2.size : Int)
                        · rw [if_pos c21] at H
                          have c21b0 : (t132 == (x6_2.size : Int)) = true := beq_iff_eq.mpr c21
                          have c21b1 : (t132 != (x6_2.size : Int)) = false := bne_eq_false_iff_eq.mpr c21
                          clear c21
                          by_cases c22 : t133 = ((rdOf ByteArray.empty x5_7 x31_2).size : Int)
                          · rw [if_pos c22] at H
                            have c22b0 : (t133 == ((rdOf ByteArray.empty x5_7 x31_2).size : Int)) = true := beq_iff_eq.mpr c22
                            have c22b1 : (t133 != ((rdOf ByteArray.empty x5_7 x31_2).size : Int)) = false := bne_eq_false_iff_eq.mpr c22
                            clear c22
                            by_cases c23 : t133 < 1
                            · rw [if_pos c23] at H
                              have c23b0 : decide (t133 < 1) = true := decide_eq_true c23
                              clear c23
                              obtain rfl := Option.some.inj H
                              have p131 : 0 ≤ (x31_2 : Int) := of_decide_eq_true (by first | (with_reducible assumption) | assumption)
                              have q131 : x31_2 < (x5_7.length : Int) := of_decide_eq_true (by first | (with_reducible assumption) | assumption)
                              obtain ⟨ad131, e131, hx131_0⟩ := Kd.at_string (Kd.R_reads' HO_29.out).2.2 x31_2 p131 q131
                              cases e131
                              replace p131 := eq_true p131
                              replace q131 := eq_true q131
                              go_wp2_with (first | ((with_reducible refine gate_callee (f := 9) rfl ?_); refine goesL_ (some 40) rfl rfl Try.func9 (by kernel_rfl) rfl #[.int .i64 (a0.size : Int), .int .i64 x31_2] rfl (by (try simp only [List.map_toArray, List.map_cons, List.map_nil]); first | done | rfl | (simp only [List.length_drop, List.length_take]; rfl)) ?_; (with_reducible refine (blocks_Piece.calls (a0.size : Int) x31_2 t132 t133 _ A18.out).mono ?_); rintro e w24 ⟨rfl, hb⟩; refine ⟨_, rfl, ?_⟩; have n0_ := Aside0.mk (Kd.R_below (by (with_reducible repeat (first | apply Kd.R_alloc | apply Kd.R_drewN | apply Kd.R_drew)); exact HO_5.out) hb); have n1_ := Aside0.mk (Kd.R_below (by (with_reducible repeat (first | apply Kd.R_alloc | apply Kd.R_drewN | apply Kd.R_drew)); exact HO_29.out) hb); have n2_ := Aside0.mk (below_step (by repeat (first | (with_reducible first | exact HB.out | apply below_alloc | apply pw_below_drewN | apply below_drew1) | exact HB.out)) hb); clear HO_5; clear HO_29; clear HB; have HO_5 := n0_; have HO_29 := n1_; have HB := n2_; clear n0_ n1_ n2_; (try clear hb); (try clear hb2); (try clear hk); (try clear hi)) | ((with_reducible refine gate_callee (f := 10) rfl ?_); refine goesL_ (some 45) rfl rfl Try.func10 (by kernel_rfl) rfl #[.string a0, .int .i64 x31_2] rfl (by (try simp only [List.map_toArray, List.map_cons, List.map_nil]); first | done | rfl | (simp only [List.length_drop, List.length_take]; rfl)) ?_; (with_reducible refine (blocks_Cut.calls a0 x31_2 t134 _ A19.out).mono ?_); rintro e w25 ⟨rfl, hb⟩; refine ⟨_, rfl, ?_⟩; have n0_ := Aside0.mk (Kd.R_below (by (with_reducible repeat (first | apply Kd.R_alloc | apply Kd.R_drewN | apply Kd.R_drew)); exact HO_5.out) hb); have n1_ := Aside0.mk (Kd.R_below (by (with_reducible repeat (first | apply Kd.R_alloc | apply Kd.R_drewN | apply Kd.R_drew)); exact HO_29.out) hb); have n2_ := Aside0.mk (below_step (by repeat (first | (with_reducible first | exact HB.out | apply below_alloc | apply pw_below_drewN | apply below_drew1) | exact HB.out)) hb); clear HO_5; clear HO_29; clear HB; have HO_5 := n0_; have HO_29 := n1_; have HB := n2_; clear n0_ n1_ n2_; (try clear hb); (try clear hb2); (try clear hk); (try clear hi)))
                              go_ret
                              exact ⟨by first | rfl | (simp [errW_none, errW_some] <;> rfl) | (simp [*, errW_none, errW_some] <;> rfl), by repeat (first | (with_reducible first | exact HB.out | apply below_alloc | apply pw_below_drewN | apply below_drew1) | exact HB.out)⟩
                            · rw [if_neg c23] at H
                              have c23b0 : decide (t133 < 1) = false := decide_eq_false c23
                              clear c23
                              by_cases c26 : t133 > 16
                              · rw [if_pos c26] at H
                                have c26b0 : decide (16 < t133) = true := decide_eq_true c26
                                clear c26
                                obtain rfl := Option.some.inj H
                                have p131 : 0 ≤ (x31_2 : Int) := of_decide_eq_true (by first | (with_reducible assumption) | assumption)
                                have q131 : x31_2 < (x5_7.length : Int) := of_decide_eq_true (by first | (with_reducible assumption) | assumption)
                                obtain ⟨ad131, e131, hx131_0⟩ := Kd.at_string (Kd.R_reads' HO_29.out).2.2 x31_2 p131 q131
                                cases e131
                                replace p131 := eq_true p131
                                replace q131 := eq_true q131
                                go_wp2_with (first | ((with_reducible refine gate_callee (f := 9) rfl ?_); refine goesL_ (some 40) rfl rfl Try.func9 (by kernel_rfl) rfl #[.int .i64 (a0.size : Int), .int .i64 x31_2] rfl (by (try simp only [List.map_toArray, List.map_cons, List.map_nil]); first | done | rfl | (simp only [List.length_drop, List.length_take]; rfl)) ?_; (with_reducible refine (blocks_Piece.calls (a0.size : Int) x31_2 t132 t133 _ A18.out).mono ?_); rintro e w27 ⟨rfl, hb⟩; refine ⟨_, rfl, ?_⟩; have n0_ := Aside0.mk (Kd.R_below (by (with_reducible repeat (first | apply Kd.R_alloc | apply Kd.R_drewN | apply Kd.R_drew)); exact HO_5.out) hb); have n1_ := Aside0.mk (Kd.R_below (by (with_reducible repeat (first | apply Kd.R_alloc | apply Kd.R_drewN | apply Kd.R_drew)); exact HO_29.out) hb); have n2_ := Aside0.mk (below_step (by repeat (first | (with_reducible first | exact HB.out | apply below_alloc | apply pw_below_drewN | apply below_drew1) | exact HB.out)) hb); clear HO_5; clear HO_29; clear HB; have HO_5 := n0_; have HO_29 := n1_; have HB := n2_; clear n0_ n1_ n2_; (try clear hb); (try clear hb2); (try clear hk); (try clear hi)) | ((with_reducible refine gate_callee (f := 10) rfl ?_); refine goesL_ (some 45) rfl rfl Try.func10 (by kernel_rfl) rfl #[.string a0, .int .i64 x31_2] rfl (by (try simp only [List.map_toArray, List.map_cons, List.map_nil]); first | done | rfl | (simp only [List.length_drop, List.length_take]; rfl)) ?_; (with_reducible refine (blocks_Cut.calls a0 x31_2 t134 _ A19.out).mono ?_); rintro e w28 ⟨rfl, hb⟩; refine ⟨_, rfl, ?_⟩; have n0_ := Aside0.mk (Kd.R_below (by (with_reducible repeat (first | apply Kd.R_alloc | apply Kd.R_drewN | apply Kd.R_drew)); exact HO_5.out) hb); have n1_ := Aside0.mk (Kd.R_below (by (with_reducible repeat (first | apply Kd.R_alloc | apply Kd.R_drewN | apply Kd.R_drew)); exact HO_29.out) hb); have n2_ := Aside0.mk (below_step (by repeat (first | (with_reducible first | exact HB.out | apply below_alloc | apply pw_below_drewN | apply below_drew1) | exact HB.out)) hb); clear HO_5; clear HO_29; clear HB; have HO_5 := n0_; have HO_29 := n1_; have HB := n2_; clear n0_ n1_ n2_; (try clear hb); (try clear hb2); (try clear hk); (try clear hi)))
                                go_ret
                                exact ⟨by first | rfl | (simp [errW_none, errW_some] <;> rfl) | (simp [*, errW_none, errW_some] <;> rfl), by repeat (first | (with_reducible first | exact HB.out | apply below_alloc | apply pw_below_drewN | apply below_drew1) | exact HB.out)⟩
                              · rw [if_neg c26] at H
                                have c26b0 : decide (16 < t133) = false := decide_eq_false c26
                                clear c26
                                by_cases c29 : x6_2.size + (rdOf ByteArray.empty x5_7 x31_2).size ≤ 9223372036854775807
                                · rw [if_pos c29] at H
                                  have c29b0 := eq_true c29
                                  have c29b1 : decide (x6_2.size + (rdOf ByteArray.empty x5_7 x31_2).size ≤ 9223372036854775807) = true := decide_eq_true c29
                                  try have c29b2 : (9223372036854775807 < x6_2.size + (rdOf ByteArray.empty x5_7 x31_2).size) = False := eq_false (Nat.not_lt.2 c29)
                                  have H' := Aside0.mk H
                                  clear H
                                  have p131 : 0 ≤ (x31_2 : Int) := of_decide_eq_true (by first | (with_reducible assumption) | assumption)
                                  have q131 : x31_2 < (x5_7.length : Int) := of_decide_eq_true (by first | (with_reducible assumption) | assumption)
                                  obtain ⟨ad131, e131, hx131_0⟩ := Kd.at_string (Kd.R_reads' HO_29.out).2.2 x31_2 p131 q131
                                  cases e131
                                  replace p131 := eq_true p131
                                  replace q131 := eq_true q131
                                  go_wp2_with (first | ((with_reducible refine gate_callee (f := 9) rfl ?_); refine goesL_ (some 40) rfl rfl Try.func9 (by kernel_rfl) rfl #[.int .i64 (a0.size : Int), .int .i64 x31_2] rfl (by (try simp only [List.map_toArray, List.map_cons, List.map_nil]); first | done | rfl | (simp only [List.length_drop, List.length_take]; rfl)) ?_; (with_reducible refine (blocks_Piece.calls (a0.size : Int) x31_2 t132 t133 _ A18.out).mono ?_); rintro e w30 ⟨rfl, hb⟩; refine ⟨_, rfl, ?_⟩; have n0_ := Aside0.mk (Kd.R_below (by (with_reducible repeat (first | apply Kd.R_alloc | apply Kd.R_drewN | apply Kd.R_drew)); exact HO_5.out) hb); have n1_ := Aside0.mk (Kd.R_below (by (with_reducible repeat (first | apply Kd.R_alloc | apply Kd.R_drewN | apply Kd.R_drew)); exact HO_29.out) hb); have n2_ := Aside0.mk (below_step (by repeat (first | (with_reducible first | exact HB.out | apply below_alloc | apply pw_below_drewN | apply below_drew1) | exact HB.out)) hb); clear HO_5; clear HO_29; clear HB; have HO_5 := n0_; have HO_29 := n1_; have HB := n2_; clear n0_ n1_ n2_; (try clear hb); (try clear hb2); (try clear hk); (try clear hi)) | ((with_reducible refine gate_callee (f := 10) rfl ?_); refine goesL_ (some 45) rfl rfl Try.func10 (by kernel_rfl) rfl #[.string a0, .int .i64 x31_2] rfl (by (try simp only [List.map_toArray, List.map_cons, List.map_nil]); first | done | rfl | (simp only [List.length_drop, List.length_take]; rfl)) ?_; (with_reducible refine (blocks_Cut.calls a0 x31_2 t134 _ A19.out).mono ?_); rintro e w31 ⟨rfl, hb⟩; refine ⟨_, rfl, ?_⟩; have n0_ := Aside0.mk (Kd.R_below (by (with_reducible repeat (first | apply Kd.R_alloc | apply Kd.R_drewN | apply Kd.R_drew)); exact HO_5.out) hb); have n1_ := Aside0.mk (Kd.R_below (by (with_reducible repeat (first | apply Kd.R_alloc | apply Kd.R_drewN | apply Kd.R_drew)); exact HO_29.out) hb); have n2_ := Aside0.mk (below_step (by repeat (first | (with_reducible first | exact HB.out | apply below_alloc | apply pw_below_drewN | apply below_drew1) | exact HB.out)) hb); clear HO_5; clear HO_29; clear HB; have HO_5 := n0_; have HO_29 := n1_; have HB := n2_; clear n0_ n1_ n2_; (try clear hb); (try clear hb2); (try clear hk); (try clear hi)))
                                  go_roundg k2
                                  case measure => have := HJ7.out; have := HK2.out; omega
                                  case rel => exact ⟨(x6_2 ++ (rdOf ByteArray.empty x5_7 x31_2)), (wrap64 (x31_2 + 1)), (by first | rfl | (simp; done) | (simp [*]; done)), (by first | rfl | (simp; done) | (simp [*]; done)), H', ⟨by have := HJ7.out; have := HK2.out; omega⟩, ⟨by (with_reducible repeat (first | apply Kd.R_alloc | apply Kd.R_drewN | apply Kd.R_drew)); exact HO_5.out⟩, ⟨by (with_reducible repeat (first | apply Kd.R_alloc | apply Kd.R_drewN | apply Kd.R_drew)); exact HO_29.out⟩, ⟨by repeat (first | (with_reducible first | exact HB.out | apply below_alloc | apply pw_below_drewN | apply below_drew1) | exact HB.out)⟩⟩
                                · rw [if_neg c29] at H
                                  exact absurd H (by simp)
                          · rw [if_neg c22] at H
                            have c22b0 : (t133 == ((rdOf ByteArray.empty x5_7 x31_2).size : Int)) = false := beq_eq_false_iff_ne.mpr c22
                            have c22b1 : (t133 != ((rdOf ByteArray.empty x5_7 x31_2).size : Int)) = true := bne_iff_ne.mpr c22
                            obtain rfl := Option.some.inj H
                            have p131 : 0 ≤ (x31_2 : Int) := of_decide_eq_true (by first | (with_reducible assumption) | assumption)
                            have q131 : x31_2 < (x5_7.length : Int) := of_decide_eq_true (by first | (with_reducible assumption) | assumption)
                            obtain ⟨ad131, e131, hx131_0⟩ := Kd.at_string (Kd.R_reads' HO_29.out).2.2 x31_2 p131 q131
                            cases e131
                            replace p131 := eq_true p131
                            replace q131 := eq_true q131
                            go_wp2_with (first | ((with_reducible refine gate_callee (f := 9) rfl ?_); refine goesL_ (some 40) rfl rfl Try.func9 (by kernel_rfl) rfl #[.int .i64 (a0.size : Int), .int .i64 x31_2] rfl (by (try simp only [List.map_toArray, List.map_cons, List.map_nil]); first | done | rfl | (simp only [List.length_drop, List.length_take]; rfl)) ?_; (with_reducible refine (blocks_Piece.calls (a0.size : Int) x31_2 t132 t133 _ A18.out).mono ?_); rintro e w32 ⟨rfl, hb⟩; refine ⟨_, rfl, ?_⟩; have n0_ := Aside0.mk (Kd.R_below (by (with_reducible repeat (first | apply Kd.R_alloc | apply Kd.R_drewN | apply Kd.R_drew)); exact HO_5.out) hb); have n1_ := Aside0.mk (Kd.R_below (by (with_reducible repeat (first | apply Kd.R_alloc | apply Kd.R_drewN | apply Kd.R_drew)); exact HO_29.out) hb); have n2_ := Aside0.mk (below_step (by repeat (first | (with_reducible first | exact HB.out | apply below_alloc | apply pw_below_drewN | apply below_drew1) | exact HB.out)) hb); clear HO_5; clear HO_29; clear HB; have HO_5 := n0_; have HO_29 := n1_; have HB := n2_; clear n0_ n1_ n2_; (try clear hb); (try clear hb2); (try clear hk); (try clear hi)) | ((with_reducible refine gate_callee (f := 10) rfl ?_); refine goesL_ (some 45) rfl rfl Try.func10 (by kernel_rfl) rfl #[.string a0, .int .i64 x31_2] rfl (by (try simp only [List.map_toArray, List.map_cons, List.map_nil]); first | done | rfl | (simp only [List.length_drop, List.length_take]; rfl)) ?_; (with_reducible refine (blocks_Cut.calls a0 x31_2 t134 _ A19.out).mono ?_); rintro e w33 ⟨rfl, hb⟩; refine ⟨_, rfl, ?_⟩; have n0_ := Aside0.mk (Kd.R_below (by (with_reducible repeat (first | apply Kd.R_alloc | apply Kd.R_drewN | apply Kd.R_drew)); exact HO_5.out) hb); have n1_ := Aside0.mk (Kd.R_below (by (with_reducible repeat (first | apply Kd.R_alloc | apply Kd.R_drewN | apply Kd.R_drew)); exact HO_29.out) hb); have n2_ := Aside0.mk (below_step (by repeat (first | (with_reducible first | exact HB.out | apply below_alloc | apply pw_below_drewN | apply below_drew1) | exact HB.out)) hb); clear HO_5; clear HO_29; clear HB; have HO_5 := n0_; have HO_29 := n1_; have HB := n2_; clear n0_ n1_ n2_; (try clear hb); (try clear hb2); (try clear hk); (try clear hi)))
                            go_ret
                            exact ⟨by first | rfl | (simp [errW_none, errW_some] <;> rfl) | (simp [*, errW_none, errW_some] <;> rfl), by repeat (first | (with_reducible first | exact HB.out | apply below_alloc | apply pw_below_drewN | apply below_drew1) | exact HB.out)⟩
                        · rw [if_neg c21] at H
                          have c21b0 : (t132 == (x6_2.size : Int)) = false := beq_eq_false_iff_ne.mpr c21
                          have c21b1 : (t132 != (x6_2.size : Int)) = true := bne_iff_ne.mpr c21
                          obtain rfl := Option.some.inj H
                          have p131 : 0 ≤ (x31_2 : Int) := of_decide_eq_true (by first | (with_reducible assumption) | assumption)
                          have q131 : x31_2 < (x5_7.length : Int) := of_decide_eq_true (by first | (with_reducible assumption) | assumption)
                          obtain ⟨ad131, e131, hx131_0⟩ := Kd.at_string (Kd.R_reads' HO_29.out).2.2 x31_2 p131 q131
                          cases e131
                          replace p131 := eq_true p131
                          replace q131 := eq_true q131
                          go_wp2_with (first | ((with_reducible refine gate_callee (f := 9) rfl ?_); refine goesL_ (some 40) rfl rfl Try.func9 (by kernel_rfl) rfl #[.int .i64 (a0.size : Int), .int .i64 x31_2] rfl (by (try simp only [List.map_toArray, List.map_cons, List.map_nil]); first | done | rfl | (simp only [List.length_drop, List.length_take]; rfl)) ?_; (with_reducible refine (blocks_Piece.calls (a0.size : Int) x31_2 t132 t133 _ A18.out).mono ?_); rintro e w34 ⟨rfl, hb⟩; refine ⟨_, rfl, ?_⟩; have n0_ := Aside0.mk (Kd.R_below (by (with_reducible repeat (first | apply Kd.R_alloc | apply Kd.R_drewN | apply Kd.R_drew)); exact HO_5.out) hb); have n1_ := Aside0.mk (Kd.R_below (by (with_reducible repeat (first | apply Kd.R_alloc | apply Kd.R_drewN | apply Kd.R_drew)); exact HO_29.out) hb); have n2_ := Aside0.mk (below_step (by repeat (first | (with_reducible first | exact HB.out | apply below_alloc | apply pw_below_drewN | apply below_drew1) | exact HB.out)) hb); clear HO_5; clear HO_29; clear HB; have HO_5 := n0_; have HO_29 := n1_; have HB := n2_; clear n0_ n1_ n2_; (try clear hb); (try clear hb2); (try clear hk); (try clear hi)) | ((with_reducible refine gate_callee (f := 10) rfl ?_); refine goesL_ (some 45) rfl rfl Try.func10 (by kernel_rfl) rfl #[.string a0, .int .i64 x31_2] rfl (by (try simp only [List.map_toArray, List.map_cons, List.map_nil]); first | done | rfl | (simp only [List.length_drop, List.length_take]; rfl)) ?_; (with_reducible refine (blocks_Cut.calls a0 x31_2 t134 _ A19.out).mono ?_); rintro e w35 ⟨rfl, hb⟩; refine ⟨_, rfl, ?_⟩; have n0_ := Aside0.mk (Kd.R_below (by (with_reducible repeat (first | apply Kd.R_alloc | apply Kd.R_drewN | apply Kd.R_drew)); exact HO_5.out) hb); have n1_ := Aside0.mk (Kd.R_below (by (with_reducible repeat (first | apply Kd.R_alloc | apply Kd.R_drewN | apply Kd.R_drew)); exact HO_29.out) hb); have n2_ := Aside0.mk (below_step (by repeat (first | (with_reducible first | exact HB.out | apply below_alloc | apply pw_below_drewN | apply below_drew1) | exact HB.out)) hb); clear HO_5; clear HO_29; clear HB; have HO_5 := n0_; have HO_29 := n1_; have HB := n2_; clear n0_ n1_ n2_; (try clear hb); (try clear hb2); (try clear hk); (try clear hi)))
                          go_ret
                          exact ⟨by first | rfl | (simp [errW_none, errW_some] <;> rfl) | (simp [*, errW_none, errW_some] <;> rfl), by repeat (first | (with_reducible first | exact HB.out | apply below_alloc | apply pw_below_drewN | apply below_drew1) | exact HB.out)⟩
                      · rw [if_neg c20] at H
                        have c20b0 : (t134.toList == (rdOf ByteArray.empty x5_7 x31_2).toList) = false := beq_eq_false_iff_ne.mpr c20
                        have c20b1 : (t134.toList != (rdOf ByteArray.empty x5_7 x31_2).toList) = true := bne_iff_ne.mpr c20
                        obtain rfl := Option.some.inj H
                        have p131 : 0 ≤ (x31_2 : Int) := of_decide_eq_true (by first | (with_reducible assumption) | assumption)
                        have q131 : x31_2 < (x5_7.length : Int) := of_decide_eq_true (by first | (with_reducible assumption) | assumption)
                        obtain ⟨ad131, e131, hx131_0⟩ := Kd.at_string (Kd.R_reads' HO_29.out).2.2 x31_2 p131 q131
                        cases e131
                        replace p131 := eq_true p131
                        replace q131 := eq_true q131
                        go_wp2_with (first | ((with_reducible refine gate_callee (f := 9) rfl ?_); refine goesL_ (some 40) rfl rfl Try.func9 (by kernel_rfl) rfl #[.int .i64 (a0.size : Int), .int .i64 x31_2] rfl (by (try simp only [List.map_toArray, List.map_cons, List.map_nil]); first | done | rfl | (simp only [List.length_drop, List.length_take]; rfl)) ?_; (with_reducible refine (blocks_Piece.calls (a0.size : Int) x31_2 t132 t133 _ A18.out).mono ?_); rintro e w36 ⟨rfl, hb⟩; refine ⟨_, rfl, ?_⟩; have n0_ := Aside0.mk (Kd.R_below (by (with_reducible repeat (first | apply Kd.R_alloc | apply Kd.R_drewN | apply Kd.R_drew)); exact HO_5.out) hb); have n1_ := Aside0.mk (Kd.R_below (by (with_reducible repeat (first | apply Kd.R_alloc | apply Kd.R_drewN | apply Kd.R_drew)); exact HO_29.out) hb); have n2_ := Aside0.mk (below_step (by repeat (first | (with_reducible first | exact HB.out | apply below_alloc | apply pw_below_drewN | apply below_drew1) | exact HB.out)) hb); clear HO_5; clear HO_29; clear HB; have HO_5 := n0_; have HO_29 := n1_; have HB := n2_; clear n0_ n1_ n2_; (try clear hb); (try clear hb2); (try clear hk); (try clear hi)) | ((with_reducible refine gate_callee (f := 10) rfl ?_); refine goesL_ (some 45) rfl rfl Try.func10 (by kernel_rfl) rfl #[.string a0, .int .i64 x31_2] rfl (by (try simp only [List.map_toArray, List.map_cons, List.map_nil]); first | done | rfl | (simp only [List.length_drop, List.length_take]; rfl)) ?_; (with_reducible refine (blocks_Cut.calls a0 x31_2 t134 _ A19.out).mono ?_); rintro e w37 ⟨rfl, hb⟩; refine ⟨_, rfl, ?_⟩; have n0_ := Aside0.mk (Kd.R_below (by (with_reducible repeat (first | apply Kd.R_alloc | apply Kd.R_drewN | apply Kd.R_drew)); exact HO_5.out) hb); have n1_ := Aside0.mk (Kd.R_below (by (with_reducible repeat (first | apply Kd.R_alloc | apply Kd.R_drewN | apply Kd.R_drew)); exact HO_29.out) hb); have n2_ := Aside0.mk (below_step (by repeat (first | (with_reducible first | exact HB.out | apply below_alloc | apply pw_below_drewN | apply below_drew1) | exact HB.out)) hb); clear HO_5; clear HO_29; clear HB; have HO_5 := n0_; have HO_29 := n1_; have HB := n2_; clear n0_ n1_ n2_; (try clear hb); (try clear hb2); (try clear hk); (try clear hi)))
                        go_ret
                        exact ⟨by first | rfl | (simp [errW_none, errW_some] <;> rfl) | (simp [*, errW_none, errW_some] <;> rfl), by repeat (first | (with_reducible first | exact HB.out | apply below_alloc | apply pw_below_drewN | apply below_drew1) | exact HB.out)⟩
                    · rw [if_neg c17] at H
                      exact absurd H (by simp)
                  · rw [if_neg c16] at H
                    exact absurd H (by simp)
                · rw [if_neg c15] at H
                  have c15b0 : decide (x31_2 < (x5_7.length : Int)) = false := decide_eq_false c15
                  clear c15
                  have HC38 := Aside0.mk H
                  clear H
                  go_upto_region 19 with (fail)
                  go_cut [79] (fun v79 wc => ∃ (kq : Nat) (x79_37 : Bool), v79 = .bool x79_37 ∧ Aside0 (fuglemanlaw16_BlocksParts.j2 kq a0 a1 x6_2 x79_37 = some r) ∧ Aside0 (kq ≤ k2) ∧ Aside0 (Below w.heap.size w wc))
                  case first =>
                    have H := HC38.out
                    clear HC38
                    by_cases c39 : a1 < 0
                    · rw [if_pos c39] at H
                      have c39b0 : decide (a1 < 0) = true := decide_eq_true c39
                      clear c39
                      (first | rw [c39b0] | (simp only [i64_w, i32_w]; rw [c39b0]) | skip)
                      have H' := Aside0.mk H
                      clear H
                      go_wp2
                      go_meet
                      case rel => exact ⟨_, (true), (by first | rfl | (simp; done) | (simp [*]; done)), H', ⟨by have := HJ7.out; have := HK2.out; first | omega | exact Nat.le_refl _⟩, ⟨by repeat (first | (with_reducible first | exact HB.out | apply below_alloc | apply pw_below_drewN | apply below_drew1) | exact HB.out)⟩⟩
                    · rw [if_neg c39] at H
                      have c39b0 : decide (a1 < 0) = false := decide_eq_false c39
                      clear c39
                      (first | rw [c39b0] | (simp only [i64_w, i32_w]; rw [c39b0]) | skip)
                      have H' := Aside0.mk H
                      clear H
                      go_wp2
                      go_meet
                      case rel => exact ⟨_, (decide (a1 ≥ (x5_7.length : Int))), (by first | rfl | (simp; done) | (simp [*]; done)), H', ⟨by have := HJ7.out; have := HK2.out; first | omega | exact Nat.le_refl _⟩, ⟨by repeat (first | (with_reducible first | exact HB.out | apply below_alloc | apply pw_below_drewN | apply below_drew1) | exact HB.out)⟩⟩
                  case rest =>
                    clear HC38
                    try clear c1
                    try clear p1
                    try clear q1
                    try clear hx1
                    try clear c2
                    try clear p2
                    try clear c3
                    try clear c4
                    try clear c5
                    try clear c5b0
                    try clear c5b1
                    try clear c6
                    try clear p6
                    try clear c7
                    try clear c8
                    try clear c9
                    try clear c10
                    try clear c11
                    try clear c11b0
                    try clear c11b1
                    try clear c13
                    try clear c13b0
                    try clear c13b1
                    try clear p13
                    try clear q13
                    try clear hx13
                    try clear c15
                    try clear c15b0
                    try clear c16
                    try clear c16b0
                    try clear c17
                    try clear c17b0
                    try clear c20
                    try clear c20b0
                    try clear c20b1
                    try clear c21
                    try clear c21b0
                    try clear c21b1
                    try clear c22
                    try clear c22b0
                    try clear c22b1
                    try clear c23
                    try clear c23b0
                    try clear c26
                    try clear c26b0
                    try clear c29
                    try clear c29b0
                    try clear c29b1
                    try clear c29b2
                    try clear c39
                    try clear c39b0
                    try clear hx131_0
                    try clear p131
                    try clear p2
                    try clear q131
                    obtain ⟨kq, x79_37, rfl, HA, HJ37, HB⟩ := hcut
                    cases kq with
                    | zero => exact absurd HA.out (by simp [fuglemanlaw16_BlocksParts.j2])
                    | succ kj37 =>
                      have H := HA.out
                      clear HA
                      simp only [fuglemanlaw16_BlocksParts.j2] at H
                      by_cases c40 : x79_37 = true
                      · subst c40
                        have H1 : ((blocks_Piece.f (a0.size : Int) a1).bind fun bt135 => (if bt135.1 = 0 then (if bt135.2 = 0 then ((blocks_Cut.f a0 a1).bind fun t137 => (if t137.toList = ([] : List UInt8) then (if x6_2.toList = a0.toList then (some true) else (if (a0.size : Int) > 64 then (some (x6_2.toList == ([] : List UInt8))) else (some false))) else (some false))) else (some false)) else (some false))) = some r := by rw [if_pos rfl] at H; exact H
                        clear H
                        have H := H1
                        clear H1
                        replace H := Option.bind_eq_some_iff.mp H
                        obtain ⟨⟨t135, t136⟩, A410, H⟩ := H
                        replace H : (if t135 = 0 then (if t136 = 0 then ((blocks_Cut.f a0 a1).bind fun t137 => (if t137.toList = ([] : List UInt8) then (if x6_2.toList = a0.toList then (some true) else (if (a0.size : Int) > 64 then (some (x6_2.toList == ([] : List UInt8))) else (some false))) else (some false))) else (some false)) else (some false)) = some r := H
                        have A41 := Aside0.mk A410
                        clear A410
                        by_cases c42 : t135 = 0
                        · rw [if_pos c42] at H
                          have c42b0 : (t135 == 0) = true := beq_iff_eq.mpr c42
                          have c42b1 : (t135 != 0) = false := bne_eq_false_iff_eq.mpr c42
                          clear c42
                          by_cases c43 : t136 = 0
                          · rw [if_pos c43] at H
                            have c43b0 : (t136 == 0) = true := beq_iff_eq.mpr c43
                            have c43b1 : (t136 != 0) = false := bne_eq_false_iff_eq.mpr c43
                            clear c43
                            replace H := Option.bind_eq_some_iff.mp H
                            obtain ⟨t137, A440, H⟩ := H
                            replace H : (if t137.toList = ([] : List UInt8) then (if x6_2.toList = a0.toList then (some true) else (if (a0.size : Int) > 64 then (some (x6_2.toList == ([] : List UInt8))) else (some false))) else (some false)) = some r := H
                            have A44 := Aside0.mk A440
                            clear A440
                            by_cases c45 : t137.toList = ([] : List UInt8)
                            · rw [if_pos c45] at H
                              have c45b0 : (t137.toList == ([] : List UInt8)) = true := beq_iff_eq.mpr c45
                              have c45b1 : (t137.toList != ([] : List UInt8)) = false := bne_eq_false_iff_eq.mpr c45
                              clear c45
                              by_cases c46 : x6_2.toList = a0.toList
                              · rw [if_pos c46] at H
                                have c46b0 : (x6_2.toList == a0.toList) = true := beq_iff_eq.mpr c46
                                have c46b1 : (x6_2.toList != a0.toList) = false := bne_eq_false_iff_eq.mpr c46
                                clear c46
                                obtain rfl := Option.some.inj H
                                go_wp2_with (first | ((with_reducible refine gate_callee (f := 9) rfl ?_); refine goesL_ (some 84) rfl rfl Try.func9 (by kernel_rfl) rfl #[.int .i64 (a0.size : Int), .int .i64 a1] rfl (by (try simp only [List.map_toArray, List.map_cons, List.map_nil]); first | done | rfl | (simp only [List.length_drop, List.length_take]; rfl)) ?_; (with_reducible refine (blocks_Piece.calls (a0.size : Int) a1 t135 t136 _ A41.out).mono ?_); rintro e w47 ⟨rfl, hb⟩; refine ⟨_, rfl, ?_⟩; have n0_ := Aside0.mk (below_step (by repeat (first | (with_reducible first | exact HB.out | apply below_alloc | apply pw_below_drewN | apply below_drew1) | exact HB.out)) hb); clear HB; have HB := n0_; clear n0_; (try clear hb); (try clear hb2); (try clear hk); (try clear hi)) | (go_at_call 10; (with_reducible refine (blocks_Cut.calls a0 a1 t137 _ A44.out).mono ?_); rintro e w48 ⟨rfl, hb⟩; have n0_ := Aside0.mk (below_step (by repeat (first | (with_reducible first | exact HB.out | apply below_alloc | apply pw_below_drewN | apply below_drew1) | exact HB.out)) hb); clear HB; have HB := n0_; clear n0_; (try clear hb); (try clear hb2); (try clear hk); (try clear hi)))
                                go_ret
                                exact ⟨by first | rfl | (simp [errW_none, errW_some] <;> rfl) | (simp [*, errW_none, errW_some] <;> rfl), by repeat (first | (with_reducible first | exact HB.out | apply below_alloc | apply pw_below_drewN | apply below_drew1) | exact HB.out)⟩
                              · rw [if_neg c46] at H
                                have c46b0 : (x6_2.toList == a0.toList) = false := beq_eq_false_iff_ne.mpr c46
                                have c46b1 : (x6_2.toList != a0.toList) = true := bne_iff_ne.mpr c46
                                by_cases c49 : (a0.size : Int) > 64
                                · rw [if_pos c49] at H
                                  have c49b0 : decide (64 < (a0.size : Int)) = true := decide_eq_true c49
                                  have c49b1 : decide (64 < a0.size) = true := decide_eq_true (by omega)
                                  clear c49
                                  obtain rfl := Option.some.inj H
                                  go_wp2_with (first | ((with_reducible refine gate_callee (f := 9) rfl ?_); refine goesL_ (some 84) rfl rfl Try.func9 (by kernel_rfl) rfl #[.int .i64 (a0.size : Int), .int .i64 a1] rfl (by (try simp only [List.map_toArray, List.map_cons, List.map_nil]); first | done | rfl | (simp only [List.length_drop, List.length_take]; rfl)) ?_; (with_reducible refine (blocks_Piece.calls (a0.size : Int) a1 t135 t136 _ A41.out).mono ?_); rintro e w50 ⟨rfl, hb⟩; refine ⟨_, rfl, ?_⟩; have n0_ := Aside0.mk (below_step (by repeat (first | (with_reducible first | exact HB.out | apply below_alloc | apply pw_below_drewN | apply below_drew1) | exact HB.out)) hb); clear HB; have HB := n0_; clear n0_; (try clear hb); (try clear hb2); (try clear hk); (try clear hi)) | (go_at_call 10; (with_reducible refine (blocks_Cut.calls a0 a1 t137 _ A44.out).mono ?_); rintro e w51 ⟨rfl, hb⟩; have n0_ := Aside0.mk (below_step (by repeat (first | (with_reducible first | exact HB.out | apply below_alloc | apply pw_below_drewN | apply below_drew1) | exact HB.out)) hb); clear HB; have HB := n0_; clear n0_; (try clear hb); (try clear hb2); (try clear hk); (try clear hi)))
                                  go_ret
                                  exact ⟨by first | rfl | (simp [errW_none, errW_some] <;> rfl) | (simp [*, errW_none, errW_some] <;> rfl), by repeat (first | (with_reducible first | exact HB.out | apply below_alloc | apply pw_below_drewN | apply below_drew1) | exact HB.out)⟩
                                · rw [if_neg c49] at H
                                  have c49b0 : decide (64 < (a0.size : Int)) = false := decide_eq_false c49
                                  have c49b1 : decide (64 < a0.size) = false := decide_eq_false (by omega)
                                  clear c49
                                  obtain rfl := Option.some.inj H
                                  go_wp2_with (first | ((with_reducible refine gate_callee (f := 9) rfl ?_); refine goesL_ (some 84) rfl rfl Try.func9 (by kernel_rfl) rfl #[.int .i64 (a0.size : Int), .int .i64 a1] rfl (by (try simp only [List.map_toArray, List.map_cons, List.map_nil]); first | done | rfl | (simp only [List.length_drop, List.length_take]; rfl)) ?_; (with_reducible refine (blocks_Piece.calls (a0.size : Int) a1 t135 t136 _ A41.out).mono ?_); rintro e w52 ⟨rfl, hb⟩; refine ⟨_, rfl, ?_⟩; have n0_ := Aside0.mk (below_step (by repeat (first | (with_reducible first | exact HB.out | apply below_alloc | apply pw_below_drewN | apply below_drew1) | exact HB.out)) hb); clear HB; have HB := n0_; clear n0_; (try clear hb); (try clear hb2); (try clear hk); (try clear hi)) | (go_at_call 10; (with_reducible refine (blocks_Cut.calls a0 a1 t137 _ A44.out).mono ?_); rintro e w53 ⟨rfl, hb⟩; have n0_ := Aside0.mk (below_step (by repeat (first | (with_reducible first | exact HB.out | apply below_alloc | apply pw_below_drewN | apply below_drew1) | exact HB.out)) hb); clear HB; have HB := n0_; clear n0_; (try clear hb); (try clear hb2); (try clear hk); (try clear hi)))
                                  go_ret
                                  exact ⟨by first | rfl | (simp [errW_none, errW_some] <;> rfl) | (simp [*, errW_none, errW_some] <;> rfl), by repeat (first | (with_reducible first | exact HB.out | apply below_alloc | apply pw_below_drewN | apply below_drew1) | exact HB.out)⟩
                            · rw [if_neg c45] at H
                              have c45b0 : (t137.toList == ([] : List UInt8)) = false := beq_eq_false_iff_ne.mpr c45
                              have c45b1 : (t137.toList != ([] : List UInt8)) = true := bne_iff_ne.mpr c45
                              obtain rfl := Option.some.inj H
                              go_wp2_with (first | ((with_reducible refine gate_callee (f := 9) rfl ?_); refine goesL_ (some 84) rfl rfl Try.func9 (by kernel_rfl) rfl #[.int .i64 (a0.size : Int), .int .i64 a1] rfl (by (try simp only [List.map_toArray, List.map_cons, List.map_nil]); first | done | rfl | (simp only [List.length_drop, List.length_take]; rfl)) ?_; (with_reducible refine (blocks_Piece.calls (a0.size : Int) a1 t135 t136 _ A41.out).mono ?_); rintro e w54 ⟨rfl, hb⟩; refine ⟨_, rfl, ?_⟩; have n0_ := Aside0.mk (below_step (by repeat (first | (with_reducible first | exact HB.out | apply below_alloc | apply pw_below_drewN | apply below_drew1) | exact HB.out)) hb); clear HB; have HB := n0_; clear n0_; (try clear hb); (try clear hb2); (try clear hk); (try clear hi)) | (go_at_call 10; (with_reducible refine (blocks_Cut.calls a0 a1 t137 _ A44.out).mono ?_); rintro e w55 ⟨rfl, hb⟩; have n0_ := Aside0.mk (below_step (by repeat (first | (with_reducible first | exact HB.out | apply below_alloc | apply pw_below_drewN | apply below_drew1) | exact HB.out)) hb); clear HB; have HB := n0_; clear n0_; (try clear hb); (try clear hb2); (try clear hk); (try clear hi)))
                              go_ret
                              exact ⟨by first | rfl | (simp [errW_none, errW_some] <;> rfl) | (simp [*, errW_none, errW_some] <;> rfl), by repeat (first | (with_reducible first | exact HB.out | apply below_alloc | apply pw_below_drewN | apply below_drew1) | exact HB.out)⟩
                          · rw [if_neg c43] at H
                            have c43b0 : (t136 == 0) = false := beq_eq_false_iff_ne.mpr c43
                            have c43b1 : (t136 != 0) = true := bne_iff_ne.mpr c43
                            obtain rfl := Option.some.inj H
                            go_wp2_with (first | ((with_reducible refine gate_callee (f := 9) rfl ?_); refine goesL_ (some 84) rfl rfl Try.func9 (by kernel_rfl) rfl #[.int .i64 (a0.size : Int), .int .i64 a1] rfl (by (try simp only [List.map_toArray, List.map_cons, List.map_nil]); first | done | rfl | (simp only [List.length_drop, List.length_take]; rfl)) ?_; (with_reducible refine (blocks_Piece.calls (a0.size : Int) a1 t135 t136 _ A41.out).mono ?_); rintro e w56 ⟨rfl, hb⟩; refine ⟨_, rfl, ?_⟩; have n0_ := Aside0.mk (below_step (by repeat (first | (with_reducible first | exact HB.out | apply below_alloc | apply pw_below_drewN | apply below_drew1) | exact HB.out)) hb); clear HB; have HB := n0_; clear n0_; (try clear hb); (try clear hb2); (try clear hk); (try clear hi)))
                            go_ret
                            exact ⟨by first | rfl | (simp [errW_none, errW_some] <;> rfl) | (simp [*, errW_none, errW_some] <;> rfl), by repeat (first | (with_reducible first | exact HB.out | apply below_alloc | apply pw_below_drewN | apply below_drew1) | exact HB.out)⟩
                        · rw [if_neg c42] at H
                          have c42b0 : (t135 == 0) = false := beq_eq_false_iff_ne.mpr c42
                          have c42b1 : (t135 != 0) = true := bne_iff_ne.mpr c42
                          obtain rfl := Option.some.inj H
                          go_wp2_with (first | ((with_reducible refine gate_callee (f := 9) rfl ?_); refine goesL_ (some 84) rfl rfl Try.func9 (by kernel_rfl) rfl #[.int .i64 (a0.size : Int), .int .i64 a1] rfl (by (try simp only [List.map_toArray, List.map_cons, List.map_nil]); first | done | rfl | (simp only [List.length_drop, List.length_take]; rfl)) ?_; (with_reducible refine (blocks_Piece.calls (a0.size : Int) a1 t135 t136 _ A41.out).mono ?_); rintro e w57 ⟨rfl, hb⟩; refine ⟨_, rfl, ?_⟩; have n0_ := Aside0.mk (below_step (by repeat (first | (with_reducible first | exact HB.out | apply below_alloc | apply pw_below_drewN | apply below_drew1) | exact HB.out)) hb); clear HB; have HB := n0_; clear n0_; (try clear hb); (try clear hb2); (try clear hk); (try clear hi)))
                          go_ret
                          exact ⟨by first | rfl | (simp [errW_none, errW_some] <;> rfl) | (simp [*, errW_none, errW_some] <;> rfl), by repeat (first | (with_reducible first | exact HB.out | apply below_alloc | apply pw_below_drewN | apply below_drew1) | exact HB.out)⟩
                      · replace c40 := Bool.eq_false_iff.mpr c40
                        subst c40
                        have H1 : (if x6_2.toList = a0.toList then (some true) else (if (a0.size : Int) > 64 then (some (x6_2.toList == ([] : List UInt8))) else (some false))) = some r := by rw [if_neg (show ¬ (false = true) by decide)] at H; exact H
                        clear H
                        have H := H1
                        clear H1
                        by_cases c58 : x6_2.toList = a0.toList
                        · rw [if_pos c58] at H
                          have c58b0 : (x6_2.toList == a0.toList) = true := beq_iff_eq.mpr c58
                          have c58b1 : (x6_2.toList != a0.toList) = false := bne_eq_false_iff_eq.mpr c58
                          clear c58
                          obtain rfl := Option.some.inj H
                          go_wp2
                          go_ret
                          exact ⟨by first | rfl | (simp [errW_none, errW_some] <;> rfl) | (simp [*, errW_none, errW_some] <;> rfl), by repeat (first | (with_reducible first | exact HB.out | apply below_alloc | apply pw_below_drewN | apply below_drew1) | exact HB.out)⟩
                        · rw [if_neg c58] at H
                          have c58b0 : (x6_2.toList == a0.toList) = false := beq_eq_false_iff_ne.mpr c58
                          have c58b1 : (x6_2.toList != a0.toList) = true := bne_iff_ne.mpr c58
                          by_cases c59 : (a0.size : Int) > 64
                          · rw [if_pos c59] at H
                            have c59b0 : decide (64 < (a0.size : Int)) = true := decide_eq_true c59
                            have c59b1 : decide (64 < a0.size) = true := decide_eq_true (by omega)
                            clear c59
                            obtain rfl := Option.some.inj H
                            go_wp2
                            go_ret
                            exact ⟨by first | rfl | (simp [errW_none, errW_some] <;> rfl) | (simp [*, errW_none, errW_some] <;> rfl), by repeat (first | (with_reducible first | exact HB.out | apply below_alloc | apply pw_below_drewN | apply below_drew1) | exact HB.out)⟩
                          · rw [if_neg c59] at H
                            have c59b0 : decide (64 < (a0.size : Int)) = false := decide_eq_false c59
                            have c59b1 : decide (64 < a0.size) = false := decide_eq_false (by omega)
                            clear c59
                            obtain rfl := Option.some.inj H
                            go_wp2
                            go_ret
                            exact ⟨by first | rfl | (simp [errW_none, errW_some] <;> rfl) | (simp [*, errW_none, errW_some] <;> rfl), by repeat (first | (with_reducible first | exact HB.out | apply below_alloc | apply pw_below_drewN | apply below_drew1) | exact HB.out)⟩
          · rw [if_neg c13] at H
            have c13b0 : (t130 == (x5_7.length : Int)) = false := beq_eq_false_iff_ne.mpr c13
            have c13b1 : (t130 != (x5_7.length : Int)) = true := bne_iff_ne.mpr c13
            obtain rfl := Option.some.inj H
            go_wp2_with (first | ((with_reducible refine gate_callee (f := 8) rfl ?_); refine goesL_ (some 25) rfl rfl Try.func8 (by kernel_rfl) rfl #[.int .i64 (a0.size : Int)] rfl (by (try simp only [List.map_toArray, List.map_cons, List.map_nil]); first | done | rfl | (simp only [List.length_drop, List.length_take]; rfl)) ?_; (with_reducible refine (blocks_Parts.calls (a0.size : Int) t130 _ A12.out).mono ?_); rintro e w' ⟨rfl, ⟨nd, rfl⟩⟩; refine ⟨_, rfl, ?_⟩; obtain ⟨Ao60, co60, eo60⟩ := Kd.R_slice HO_5.out; subst eo60))
            go_ret
            exact ⟨by first | rfl | (simp [errW_none, errW_some] <;> rfl) | (simp [*, errW_none, errW_some] <;> rfl), by repeat (first | (with_reducible first | exact HB.out | apply below_alloc | apply pw_below_drewN | apply below_drew1) | exact HB.out)⟩
  · replace c4 := Bool.eq_false_iff.mpr c4
    subst c4
    have H1 : (some false) = some r := by rw [if_neg (show ¬ (false = true) by decide)] at H; exact H
    clear H
    have H := H1
    clear H1
    obtain rfl := Option.some.inj H
    go_enter Try.func3, Try.ntmps3
    go_wp2_with (first | ((with_reducible refine gate_callee (f := 6) rfl ?_); refine goesL_ (some 13) rfl rfl Try.func6 (by kernel_rfl) rfl #[] rfl (by (try simp only [List.map_toArray, List.map_cons, List.map_nil]); first | done | rfl | (simp only [List.length_drop, List.length_take]; rfl)) ?_; (with_reducible refine (fuglemanlaw16_awake.calls k  false _ A3.out).mono ?_); rintro e w61 ⟨rfl, hb⟩; refine ⟨_, rfl, ?_⟩; have n0_ := Aside0.mk (below_step (by repeat (first | (with_reducible first | exact HB.out | apply below_alloc | apply pw_below_drewN | apply below_drew1) | exact HB.out)) hb); clear HB; have HB := n0_; clear n0_; (try clear hb); (try clear hb2); (try clear hk); (try clear hi)))
    go_ret
    exact ⟨by first | rfl | (simp [errW_none, errW_some] <;> rfl) | (simp [*, errW_none, errW_some] <;> rfl), by repeat (first | (with_reducible first | exact HB.out | apply below_alloc | apply pw_below_drewN | apply below_drew1) | exact HB.out)⟩

/-- THE ONE PURE STATEMENT of fuglemanlaw16_BlocksParts: yours. -/
def fuglemanlaw16_BlocksParts.Pure : Prop := ∀ (a0 : ByteArray) (a1 : Int), a0.size ≤ 140737488351232 → (Lit.int .i64 a1).wf = true → ∃ k, fuglemanlaw16_BlocksParts.f k a0 a1 = some true
theorem fuglemanlaw16_BlocksParts.walk (P : fuglemanlaw16_BlocksParts.Pure) (a0 : ByteArray) (a1 : Int) (w : World) (w0 : a0.size ≤ 140737488351232) (w1 : (Lit.int .i64 a1).wf = true) :
    Calls Try.prog 3 #[.string a0, .int .i64 a1] w fun e w' => e = .returned (.bool true) ∧ Below w.heap.size w w' := by
  obtain ⟨k, h⟩ := P a0 a1 w0 w1
  refine (fuglemanlaw16_BlocksParts.calls k a0 a1 true w h).mono ?_
  rintro e w' ⟨rfl, hd⟩
  exact ⟨rfl, hd⟩

end Go.Proofs.Ytalafpnpgigppaa.PBlocksParts
