/- A part of a proof: functions of the program as functions over numbers and lists, and that the program's calls answer as these do. Written by a program for this claim. -/
import Derived.Test.YtalafpnpgigppaaPBlocksListsx0
import Derived.Test.YtalafpnpgigppaaPBlocksListsx2
namespace Go.Proofs.Ytalafpnpgigppaa.PBlocksLists
open Go.RowKit Go.Proofs.YtalafpnpgigppaaW.PrintWords Go.Proofs.YtalafpnpgigppaaW.PrintLast Go.Proofs.YtalafpnpgigppaaW.PrintMore
attribute [local go_sem] max2_int min2_int max_two min_two max_three min_three max_four min_four   -- for this text's walks alone
set_option linter.unusedVariables false
set_option linter.unusedSimpArgs false

/-! ### fuglemanref16_Check: function 12 -/
mutual
def fuglemanref16_Check.l0 : Nat → List (S36) → Int → Option (Int × Int)
  | 0, _, _ => none
  | k + 1, x0, x4 => if x4 < (x0.length : Int) then (if 0 ≤ x4 then (if ((rd_T36 x0 x4).f0) < 0 then (fuglemanref16_Check.j1 k x0 x4 true ((rd_T36 x0 x4).f0) ((rd_T36 x0 x4).f1) ((rd_T36 x0 x4).f2) ((rd_T36 x0 x4).f3)) else (if ((rd_T36 x0 x4).f0) > 15 then (fuglemanref16_Check.j1 k x0 x4 true ((rd_T36 x0 x4).f0) ((rd_T36 x0 x4).f1) ((rd_T36 x0 x4).f2) ((rd_T36 x0 x4).f3)) else (if ((rd_T36 x0 x4).f1) < 0 then (fuglemanref16_Check.j1 k x0 x4 true ((rd_T36 x0 x4).f0) ((rd_T36 x0 x4).f1) ((rd_T36 x0 x4).f2) ((rd_T36 x0 x4).f3)) else (if ((rd_T36 x0 x4).f1) > 31 then (fuglemanref16_Check.j1 k x0 x4 true ((rd_T36 x0 x4).f0) ((rd_T36 x0 x4).f1) ((rd_T36 x0 x4).f2) ((rd_T36 x0 x4).f3)) else (if ((rd_T36 x0 x4).f2) < 1 then (fuglemanref16_Check.j1 k x0 x4 true ((rd_T36 x0 x4).f0) ((rd_T36 x0 x4).f1) ((rd_T36 x0 x4).f2) ((rd_T36 x0 x4).f3)) else (fuglemanref16_Check.j1 k x0 x4 (decide (((rd_T36 x0 x4).f2) > 64)) ((rd_T36 x0 x4).f0) ((rd_T36 x0 x4).f1) ((rd_T36 x0 x4).f2) ((rd_T36 x0 x4).f3))))))) else (none)) else (some (0, 0))
def fuglemanref16_Check.j1 : Nat → List (S36) → Int → Bool → Int → Int → Int → Bool → Option (Int × Int)
  | 0, _, _, _, _, _, _, _ => none
  | k + 1, x0, x4, x47, x120000, x120001, x120002, x120003 => if x47 = true then (some (3, x4)) else (fuglemanref16_Check.l1 k x0 x4 0 x120000 x120001 x120002 x120003)
def fuglemanref16_Check.l1 : Nat → List (S36) → Int → Int → Int → Int → Int → Bool → Option (Int × Int)
  | 0, _, _, _, _, _, _, _ => none
  | k + 1, x0, x4, x6, x120000, x120001, x120002, x120003 => if x6 < x4 then (if 0 ≤ x6 then (if x6 < (x0.length : Int) then (if ((rd_T36 x0 x6).f0) = x120000 then (some (14, x4)) else (fuglemanref16_Check.l1 k x0 x4 (wrap64 (x6 + 1)) x120000 x120001 x120002 x120003)) else (none)) else (none)) else (fuglemanref16_Check.l0 k x0 (wrap64 (x4 + 1)))
end
def fuglemanref16_Check.f (k : Nat) (l0 : List (S36)) : Option (Int × Int) := if (l0.length : Int) > 16 then (some (2, 16)) else (fuglemanref16_Check.l0 k l0 0)
theorem fuglemanref16_Check.mono_l : ∀ k, (∀ y0 y1, LeO (fuglemanref16_Check.l0 k y0 y1) (fuglemanref16_Check.l0 (k + 1) y0 y1)) ∧ (∀ y0 y1 y2 y3 y4 y5 y6, LeO (fuglemanref16_Check.j1 k y0 y1 y2 y3 y4 y5 y6) (fuglemanref16_Check.j1 (k + 1) y0 y1 y2 y3 y4 y5 y6)) ∧ (∀ y0 y1 y2 y3 y4 y5 y6, LeO (fuglemanref16_Check.l1 k y0 y1 y2 y3 y4 y5 y6) (fuglemanref16_Check.l1 (k + 1) y0 y1 y2 y3 y4 y5 y6))
  | 0 => ⟨fun _ _ r h => by simp [fuglemanref16_Check.l0] at h, fun _ _ _ _ _ _ _ r h => by simp [fuglemanref16_Check.j1] at h, fun _ _ _ _ _ _ _ r h => by simp [fuglemanref16_Check.l1] at h⟩
  | k + 1 => by
    obtain ⟨ih0, ih1, ih2⟩ := fuglemanref16_Check.mono_l k
    refine ⟨?_, ?_, ?_⟩
    · intro y0 y1
      unfold fuglemanref16_Check.l0
      repeat' first
      | (with_reducible exact ih0 _ _)
      | (with_reducible exact ih1 _ _ _ _ _ _ _)
      | (with_reducible exact ih2 _ _ _ _ _ _ _)
      | (with_reducible exact LeO.refl _)
      | (with_reducible exact LeO.none _)
      | (with_reducible refine LeO.ite ?_ ?_)
      | (with_reducible refine LeO.bind ?_ (fun _ => ?_))
      | exact ih0 _ _
      | exact ih1 _ _ _ _ _ _ _
      | exact ih2 _ _ _ _ _ _ _
      | exact LeO.none _
      | refine LeO.ite ?_ ?_
      | refine LeO.bind ?_ (fun _ => ?_)
    · intro y0 y1 y2 y3 y4 y5 y6
      unfold fuglemanref16_Check.j1
      repeat' first
      | (with_reducible exact ih0 _ _)
      | (with_reducible exact ih1 _ _ _ _ _ _ _)
      | (with_reducible exact ih2 _ _ _ _ _ _ _)
      | (with_reducible exact LeO.refl _)
      | (with_reducible exact LeO.none _)
      | (with_reducible refine LeO.ite ?_ ?_)
      | (with_reducible refine LeO.bind ?_ (fun _ => ?_))
      | exact ih0 _ _
      | exact ih1 _ _ _ _ _ _ _
      | exact ih2 _ _ _ _ _ _ _
      | exact LeO.none _
      | refine LeO.ite ?_ ?_
      | refine LeO.bind ?_ (fun _ => ?_)
    · intro y0 y1 y2 y3 y4 y5 y6
      unfold fuglemanref16_Check.l1
      repeat' first
      | (with_reducible exact ih0 _ _)
      | (with_reducible exact ih1 _ _ _ _ _ _ _)
      | (with_reducible exact ih2 _ _ _ _ _ _ _)
      | (with_reducible exact LeO.refl _)
      | (with_reducible exact LeO.none _)
      | (with_reducible refine LeO.ite ?_ ?_)
      | (with_reducible refine LeO.bind ?_ (fun _ => ?_))
      | exact ih0 _ _
      | exact ih1 _ _ _ _ _ _ _
      | exact ih2 _ _ _ _ _ _ _
      | exact LeO.none _
      | refine LeO.ite ?_ ?_
      | refine LeO.bind ?_ (fun _ => ?_)
theorem fuglemanref16_Check.mono : ∀ a0 k, LeO (fuglemanref16_Check.f k a0) (fuglemanref16_Check.f (k + 1) a0) := by
  intro a0 k
  obtain ⟨ih0, ih1, ih2⟩ := fuglemanref16_Check.mono_l k
  unfold fuglemanref16_Check.f
  repeat' first
      | (with_reducible exact ih0 _ _)
      | (with_reducible exact ih1 _ _ _ _ _ _ _)
      | (with_reducible exact ih2 _ _ _ _ _ _ _)
      | (with_reducible exact LeO.refl _)
      | (with_reducible exact LeO.none _)
      | (with_reducible refine LeO.ite ?_ ?_)
      | (with_reducible refine LeO.bind ?_ (fun _ => ?_))
      | exact ih0 _ _
      | exact ih1 _ _ _ _ _ _ _
      | exact ih2 _ _ _ _ _ _ _
      | exact LeO.none _
      | refine LeO.ite ?_ ?_
      | refine LeO.bind ?_ (fun _ => ?_)
set_option maxHeartbeats 8000000 in
set_option maxRecDepth 100000 in
theorem fuglemanref16_Check.calls (k : Nat) (A0 : Option Addr) (c0 : Nat) (l0 : List (S36)) (r1 : Int) (r2 : Int) (w : World) (hr0 : Kd.C k36 w A0 l0.length l0) (hc0 : l0.length ≤ c0) (h : fuglemanref16_Check.f k l0 = some (r1, r2)) :
    Calls Try.prog 12 #[.slice A0 l0.length c0] w fun e w' => e = .returned (.tuple #[.int .i64 r1, .int .i64 r2]) ∧ Below w.heap.size w w' := by
  have hu36 := Try.underlying36
  have HR0 := Aside0.mk hr0
  have HC0 := Aside0.mk hc0
  clear hr0 hc0
  have HB := Aside0.mk (Below.refl w.heap.size w)
  have H : (if (l0.length : Int) > 16 then (some (2, 16)) else (fuglemanref16_Check.l0 k l0 0)) = some (r1, r2) := h
  clear h
  by_cases c2 : (l0.length : Int) > 16
  · rw [if_pos c2] at H
    have c2b0 : decide (16 < (l0.length : Int)) = true := decide_eq_true c2
    have c2b1 : decide (16 < l0.length) = true := decide_eq_true (by omega)
    clear c2
    simp only [Option.some.injEq, Prod.mk.injEq] at H
    obtain ⟨rfl, rfl⟩ := H
    go_enter Try.func12, Try.ntmps12
    go_wp2
    repeat (go_quiet (fail); try go_wp2)
    go_ret2
    exact ⟨by first | rfl | (simp [errW_none, errW_some] <;> rfl) | (simp [*, errW_none, errW_some] <;> rfl), by repeat (first | (with_reducible first | exact HB.out | apply below_alloc | apply pw_below_drewN | apply below_drew1) | exact HB.out)⟩
  · rw [if_neg c2] at H
    have c2b0 : decide (16 < (l0.length : Int)) = false := decide_eq_false c2
    have c2b1 : decide (16 < l0.length) = false := decide_eq_false (by omega)
    clear c2
    have H' := Aside0.mk H
    clear H
    go_enter Try.func12, Try.ntmps12
    go_wp2
    repeat (go_quiet (fail); try go_wp2)
    go_loopg [4] k (fun kq v4 w' => ∃ (x4_1 : Int), v4 = .int .i64 x4_1 ∧ Aside0 (fuglemanref16_Check.l0 kq l0 x4_1 = some (r1, r2)) ∧ Aside0 (kq ≤ k) ∧ Aside0 (Below w.heap.size w w'))
    case atStart => exact ⟨(0), (by first | rfl | (simp; done) | (simp [*]; done)), H', ⟨Nat.le_refl _⟩, ⟨by repeat (first | (with_reducible first | exact HB.out | apply below_alloc | apply pw_below_drewN | apply below_drew1) | exact HB.out)⟩⟩
    case round =>
      clear H'
      try clear c1
      try clear c2
      try clear c2b0
      try clear c2b1
      try clear p2
      obtain ⟨x4_1, rfl, HA, HK1, HB⟩ := hrel
      cases gk with
      | zero => exact absurd HA.out (by simp [fuglemanref16_Check.l0])
      | succ k1 =>
        have H := HA.out
        clear HA
        simp only [fuglemanref16_Check.l0] at H
        by_cases c3 : x4_1 < (l0.length : Int)
        · rw [if_pos c3] at H
          have c3b0 : decide (x4_1 < (l0.length : Int)) = true := decide_eq_true c3
          clear c3
          by_cases c4 : 0 ≤ x4_1
          · rw [if_pos c4] at H
            have c4b0 : decide (0 ≤ x4_1) = true := decide_eq_true c4
            clear c4
            have HC5 := Aside0.mk H
            clear H
            have p118 : 0 ≤ (x4_1 : Int) := of_decide_eq_true (by first | (with_reducible assumption) | assumption)
            have q118 : x4_1 < (l0.length : Int) := of_decide_eq_true (by first | (with_reducible assumption) | assumption)
            obtain ⟨ad118, e118, hx118_0, hx118_1, hx118_2, hx118_3⟩ := at_T36 HR0.out x4_1 p118 q118
            cases e118
            replace hx118_0 := (HB.out.cell (World.block_lt_of_cell? w _ hx118_0)).trans hx118_0
            replace hx118_1 := (HB.out.cell (World.block_lt_of_cell? w _ hx118_1)).trans hx118_1
            replace hx118_2 := (HB.out.cell (World.block_lt_of_cell? w _ hx118_2)).trans hx118_2
            replace hx118_3 := (HB.out.cell (World.block_lt_of_cell? w _ hx118_3)).trans hx118_3
            replace p118 := eq_true p118
            replace q118 := eq_true q118
            go_upto_region 7 with (first | ((with_reducible refine gate_dst (N := 5) rfl ?_); refine box_event ?hg (N := 5) ?hd (cs := #[.int .i64 0, .int .i64 0, .int .i64 0, .bool false]) (t := 36) ?hr ?_; (case hd => rfl); (case hg => rfl); (case hr => first | (go_simp; done) | (go_simp; rfl)); intro gb119 hg w6 hbox hb; have n0_ := Aside0.mk (below_step (by repeat (first | (with_reducible first | exact HB.out | apply below_alloc | apply pw_below_drewN | apply below_drew1) | exact HB.out)) hb); have n1_ := Aside0.mk (hbox); have n2_ := Aside0.mk ((by rw [hg]; exact (below_size (by repeat (first | (with_reducible first | exact HB.out | apply below_alloc | apply pw_below_drewN | apply below_drew1) | exact HB.out))) : w.heap.size ≤ gb119)); have n3_ := Aside0.mk ((by rw [hg]; exact (below_size (by repeat (first | (with_reducible first | exact HB.out | apply below_alloc | apply pw_below_drewN | apply below_drew1) | exact HB.out))) : w.heap.size ≤ gb119)); clear HB; have HB := n0_; have BK119 := n1_; have GW119 := n2_; have GE119 := n3_; clear n0_ n1_ n2_ n3_; clear hb hbox hg; have hcz7_0 : w6.cell? ⟨gb119, 0, none⟩ = some (.int .i64 0) := (blk_cell BK119.out 0).trans rfl; have hcz7_1 : w6.cell? ⟨gb119, 1, none⟩ = some (.int .i64 0) := (blk_cell BK119.out 1).trans rfl; have hcz7_2 : w6.cell? ⟨gb119, 2, none⟩ = some (.int .i64 0) := (blk_cell BK119.out 2).trans rfl; have hcz7_3 : w6.cell? ⟨gb119, 3, none⟩ = some (.bool false) := (blk_cell BK119.out 3).trans rfl; have hfz7_0 := blk_frozen BK119.out 0; have hfz7_1 := blk_frozen BK119.out 1; have hfz7_2 := blk_frozen BK119.out 2; have hfz7_3 := blk_frozen BK119.out 3))
            repeat (go_quiet (first | ((with_reducible refine gate_dst (N := 5) rfl ?_); refine box_event ?hg (N := 5) ?hd (cs := #[.int .i64 0, .int .i64 0, .int .i64 0, .bool false]) (t := 36) ?hr ?_; (case hd => rfl); (case hg => rfl); (case hr => first | (go_simp; done) | (go_simp; rfl)); intro gb119 hg w6 hbox hb; have n0_ := Aside0.mk (below_step (by repeat (first | (with_reducible first | exact HB.out | apply below_alloc | apply pw_below_drewN | apply below_drew1) | exact HB.out)) hb); have n1_ := Aside0.mk (hbox); have n2_ := Aside0.mk ((by rw [hg]; exact (below_size (by repeat (first | (with_reducible first | exact HB.out | apply below_alloc | apply pw_below_drewN | apply below_drew1) | exact HB.out))) : w.heap.size ≤ gb119)); have n3_ := Aside0.mk ((by rw [hg]; exact (below_size (by repeat (first | (with_reducible first | exact HB.out | apply below_alloc | apply pw_below_drewN | apply below_drew1) | exact HB.out))) : w.heap.size ≤ gb119)); clear HB; have HB := n0_; have BK119 := n1_; have GW119 := n2_; have GE119 := n3_; clear n0_ n1_ n2_ n3_; clear hb hbox hg; have hcz7_0 : w6.cell? ⟨gb119, 0, none⟩ = some (.int .i64 0) := (blk_cell BK119.out 0).trans rfl; have hcz7_1 : w6.cell? ⟨gb119, 1, none⟩ = some (.int .i64 0) := (blk_cell BK119.out 1).trans rfl; have hcz7_2 : w6.cell? ⟨gb119, 2, none⟩ = some (.int .i64 0) := (blk_cell BK119.out 2).trans rfl; have hcz7_3 : w6.cell? ⟨gb119, 3, none⟩ = some (.bool false) := (blk_cell BK119.out 3).trans rfl; have hfz7_0 := blk_frozen BK119.out 0; have hfz7_1 := blk_frozen BK119.out 1; have hfz7_2 := blk_frozen BK119.out 2; have hfz7_3 := blk_frozen BK119.out 3)); go_upto_region 7 with (first | ((with_reducible refine gate_dst (N := 5) rfl ?_); refine box_event ?hg (N := 5) ?hd (cs := #[.int .i64 0, .int .i64 0, .int .i64 0, .bool false]) (t := 36) ?hr ?_; (case hd => rfl); (case hg => rfl); (case hr => first | (go_simp; done) | (go_simp; rfl)); intro gb119 hg w6 hbox hb; have n0_ := Aside0.mk (below_step (by repeat (first | (with_reducible first | exact HB.out | apply below_alloc | apply pw_below_drewN | apply below_drew1) | exact HB.out)) hb); have n1_ := Aside0.mk (hbox); have n2_ := Aside0.mk ((by rw [hg]; exact (below_size (by repeat (first | (with_reducible first | exact HB.out | apply below_alloc | apply pw_below_drewN | apply below_drew1) | exact HB.out))) : w.heap.size ≤ gb119)); have n3_ := Aside0.mk ((by rw [hg]; exact (below_size (by repeat (first | (with_reducible first | exact HB.out | apply below_alloc | apply pw_below_drewN | apply below_drew1) | exact HB.out))) : w.heap.size ≤ gb119)); clear HB; have HB := n0_; have BK119 := n1_; have GW119 := n2_; have GE119 := n3_; clear n0_ n1_ n2_ n3_; clear hb hbox hg; have hcz7_0 : w6.cell? ⟨gb119, 0, none⟩ = some (.int .i64 0) := (blk_cell BK119.out 0).trans rfl; have hcz7_1 : w6.cell? ⟨gb119, 1, none⟩ = some (.int .i64 0) := (blk_cell BK119.out 1).trans rfl; have hcz7_2 : w6.cell? ⟨gb119, 2, none⟩ = some (.int .i64 0) := (blk_cell BK119.out 2).trans rfl; have hcz7_3 : w6.cell? ⟨gb119, 3, none⟩ = some (.bool false) := (blk_cell BK119.out 3).trans rfl; have hfz7_0 := blk_frozen BK119.out 0; have hfz7_1 := blk_frozen BK119.out 1; have hfz7_2 := blk_frozen BK119.out 2; have hfz7_3 := blk_frozen BK119.out 3)))
            (try simp only [Act.put, List.setIfInBounds_toArray, List.set_cons_zero, List.set_cons_succ])
            go_cut [47] (fun v47 wc => ∃ (kq : Nat) (x47_4 : Bool), v47 = .bool x47_4 ∧ Aside0 (fuglemanref16_Check.j1 kq l0 x4_1 x47_4 ((rd_T36 l0 x4_1).f0) ((rd_T36 l0 x4_1).f1) ((rd_T36 l0 x4_1).f2) ((rd_T36 l0 x4_1).f3) = some (r1, r2)) ∧ Aside0 (kq ≤ k1) ∧ Aside0 (wc.heap[gb119]? = some (.cells #[.int .i64 ((rd_T36 l0 x4_1).f0), .int .i64 ((rd_T36 l0 x4_1).f1), .int .i64 ((rd_T36 l0 x4_1).f2), .bool ((rd_T36 l0 x4_1).f3)] 36 (0, 0))) ∧ Aside0 (Below w.heap.size w wc))
            case first =>
              have H := HC5.out
              clear HC5
              by_cases c8 : ((rd_T36 l0 x4_1).f0) < 0
              · rw [if_pos c8] at H
                have c8b0 : decide (((rd_T36 l0 x4_1).f0) < 0) = true := decide_eq_true c8
                clear c8
                (first | rw [c8b0] | (simp only [i64_w, i32_w]; rw [c8b0]) | skip)
                have H' := Aside0.mk H
                clear H
                have hcz9_0 : w6.cell? ⟨gb119, 0, none⟩ = some (.int .i64 0) := (blk_cell BK119.out 0).trans rfl
                have hcz9_1 : w6.cell? ⟨gb119, 1, none⟩ = some (.int .i64 0) := (blk_cell BK119.out 1).trans rfl
                have hcz9_2 : w6.cell? ⟨gb119, 2, none⟩ = some (.int .i64 0) := (blk_cell BK119.out 2).trans rfl
                have hcz9_3 : w6.cell? ⟨gb119, 3, none⟩ = some (.bool false) := (blk_cell BK119.out 3).trans rfl
                have hfz9_0 := blk_frozen BK119.out 0
                have hfz9_1 := blk_frozen BK119.out 1
                have hfz9_2 := blk_frozen BK119.out 2
                have hfz9_3 := blk_frozen BK119.out 3
                go_wp2
                repeat (go_quiet (fail); try go_wp2)
                go_meet
                case rel => exact ⟨_, (true), (by first | rfl | (simp; done) | (simp [*]; done)), H', ⟨by have := HK1.out; first | omega | exact Nat.le_refl _⟩, ⟨by (with_reducible repeat (first | refine blk_drewN ?_ _ | refine blk_drew ?_ | refine blk_alloc ?_ _)); refine blk_put (cs := #[.int .i64 ((rd_T36 l0 x4_1).f0), .int .i64 ((rd_T36 l0 x4_1).f1), .int .i64 ((rd_T36 l0 x4_1).f2), .bool false]) ?_ 3 _ rfl; (with_reducible repeat (first | refine blk_drewN ?_ _ | refine blk_drew ?_ | refine blk_alloc ?_ _)); refine blk_put (cs := #[.int .i64 ((rd_T36 l0 x4_1).f0), .int .i64 ((rd_T36 l0 x4_1).f1), .int .i64 0, .bool false]) ?_ 2 _ rfl; (with_reducible repeat (first | refine blk_drewN ?_ _ | refine blk_drew ?_ | refine blk_alloc ?_ _)); refine blk_put (cs := #[.int .i64 ((rd_T36 l0 x4_1).f0), .int .i64 0, .int .i64 0, .bool false]) ?_ 1 _ rfl; (with_reducible repeat (first | refine blk_drewN ?_ _ | refine blk_drew ?_ | refine blk_alloc ?_ _)); refine blk_put (cs := #[.int .i64 0, .int .i64 0, .int .i64 0, .bool false]) ?_ 0 _ rfl; (with_reducible repeat (first | refine blk_drewN ?_ _ | refine blk_drew ?_ | refine blk_alloc ?_ _)); exact BK119.out⟩, ⟨by repeat (first | (with_reducible first | exact HB.out | apply below_alloc | apply pw_below_drewN | apply below_drew1 | refine below_set ?_ GE119.out) | exact HB.out)⟩⟩
              · rw [if_neg c8] at H
                have c8b0 : decide (((rd_T36 l0 x4_1).f0) < 0) = false := decide_eq_false c8
                clear c8
                (first | rw [c8b0] | (simp only [i64_w, i32_w]; rw [c8b0]) | skip)
                by_cases c10 : ((rd_T36 l0 x4_1).f0) > 15
                · rw [if_pos c10] at H
                  have c10b0 : decide (15 < ((rd_T36 l0 x4_1).f0)) = true := decide_eq_true c10
                  clear c10
                  have H' := Aside0.mk H
                  clear H
                  have hcz11_0 : w6.cell? ⟨gb119, 0, none⟩ = some (.int .i64 0) := (blk_cell BK119.out 0).trans rfl
                  have hcz11_1 : w6.cell? ⟨gb119, 1, none⟩ = some (.int .i64 0) := (blk_cell BK119.out 1).trans rfl
                  have hcz11_2 : w6.cell? ⟨gb119, 2, none⟩ = some (.int .i64 0) := (blk_cell BK119.out 2).trans rfl
                  have hcz11_3 : w6.cell? ⟨gb119, 3, none⟩ = some (.bool false) := (blk_cell BK119.out 3).trans rfl
                  have hfz11_0 := blk_frozen BK119.out 0
                  have hfz11_1 := blk_frozen BK119.out 1
                  have hfz11_2 := blk_frozen BK119.out 2
                  have hfz11_3 := blk_frozen BK119.out 3
                  go_wp2
                  repeat (go_quiet (fail); try go_wp2)
                  go_meet
                  case rel => exact ⟨_, (true), (by first | rfl | (simp; done) | (simp [*]; done)), H', ⟨by have := HK1.out; first | omega | exact Nat.le_refl _⟩, ⟨by (with_reducible repeat (first | refine blk_drewN ?_ _ | refine blk_drew ?_ | refine blk_alloc ?_ _)); refine blk_put (cs := #[.int .i64 ((rd_T36 l0 x4_1).f0), .int .i64 ((rd_T36 l0 x4_1).f1), .int .i64 ((rd_T36 l0 x4_1).f2), .bool false]) ?_ 3 _ rfl; (with_reducible repeat (first | refine blk_drewN ?_ _ | refine blk_drew ?_ | refine blk_alloc ?_ _)); refine blk_put (cs := #[.int .i64 ((rd_T36 l0 x4_1).f0), .int .i64 ((rd_T36 l0 x4_1).f1), .int .i64 0, .bool false]) ?_ 2 _ rfl; (with_reducible repeat (first | refine blk_drewN ?_ _ | refine blk_drew ?_ | refine blk_alloc ?_ _)); refine blk_put (cs := #[.int .i64 ((rd_T36 l0 x4_1).f0), .int .i64 0, .int .i64 0, .bool false]) ?_ 1 _ rfl; (with_reducible repeat (first | refine blk_drewN ?_ _ | refine blk_drew ?_ | refine blk_alloc ?_ _)); refine blk_put (cs := #[.int .i64 0, .int .i64 0, .int .i64 0, .bool false]) ?_ 0 _ rfl; (with_reducible repeat (first | refine blk_drewN ?_ _ | refine blk_drew ?_ | refine blk_alloc ?_ _)); exact BK119.out⟩, ⟨by repeat (first | (with_reducible first | exact HB.out | apply below_alloc | apply pw_below_drewN | apply below_drew1 | refine below_set ?_ GE119.out) | exact HB.out)⟩⟩
                · rw [if_neg c10] at H
                  have c10b0 : decide (15 < ((rd_T36 l0 x4_1).f0)) = false := decide_eq_false c10
                  clear c10
                  by_cases c12 : ((rd_T36 l0 x4_1).f1) < 0
                  · rw [if_pos c12] at H
                    have c12b0 : decide (((rd_T36 l0 x4_1).f1) < 0) = true := decide_eq_true c12
                    clear c12
                    have H' := Aside0.mk H
                    clear H
                    have hcz13_0 : w6.cell? ⟨gb119, 0, none⟩ = some (.int .i64 0) := (blk_cell BK119.out 0).trans rfl
                    have hcz13_1 : w6.cell? ⟨gb119, 1, none⟩ = some (.int .i64 0) := (blk_cell BK119.out 1).trans rfl
                    have hcz13_2 : w6.cell? ⟨gb119, 2, none⟩ = some (.int .i64 0) := (blk_cell BK119.out 2).trans rfl
                    have hcz13_3 : w6.cell? ⟨gb119, 3, none⟩ = some (.bool false) := (blk_cell BK119.out 3).trans rfl
                    have hfz13_0 := blk_frozen BK119.out 0
                    have hfz13_1 := blk_frozen BK119.out 1
                    have hfz13_2 := blk_frozen BK119.out 2
                    have hfz13_3 := blk_frozen BK119.out 3
                    go_wp2
                    repeat (go_quiet (fail); try go_wp2)
                    go_meet
                    case rel => exact ⟨_, (true), (by first | rfl | (simp; done) | (simp [*]; done)), H', ⟨by have := HK1.out; first | omega | exact Nat.le_refl _⟩, ⟨by (with_reducible repeat (first | refine blk_drewN ?_ _ | refine blk_drew ?_ | refine blk_alloc ?_ _)); refine blk_put (cs := #[.int .i64 ((rd_T36 l0 x4_1).f0), .int .i64 ((rd_T36 l0 x4_1).f1), .int .i64 ((rd_T36 l0 x4_1).f2), .bool false]) ?_ 3 _ rfl; (with_reducible repeat (first | refine blk_drewN ?_ _ | refine blk_drew ?_ | refine blk_alloc ?_ _)); refine blk_put (cs := #[.int .i64 ((rd_T36 l0 x4_1).f0), .int .i64 ((rd_T36 l0 x4_1).f1), .int .i64 0, .bool false]) ?_ 2 _ rfl; (with_reducible repeat (first | refine blk_drewN ?_ _ | refine blk_drew ?_ | refine blk_alloc ?_ _)); refine blk_put (cs := #[.int .i64 ((rd_T36 l0 x4_1).f0), .int .i64 0, .int .i64 0, .bool false]) ?_ 1 _ rfl; (with_reducible repeat (first | refine blk_drewN ?_ _ | refine blk_drew ?_ | refine blk_alloc ?_ _)); refine blk_put (cs := #[.int .i64 0, .int .i64 0, .int .i64 0, .bool false]) ?_ 0 _ rfl; (with_reducible repeat (first | refine blk_drewN ?_ _ | refine blk_drew ?_ | refine blk_alloc ?_ _)); exact BK119.out⟩, ⟨by repeat (first | (with_reducible first | exact HB.out | apply below_alloc | apply pw_below_drewN | apply below_drew1 | refine below_set ?_ GE119.out) | exact HB.out)⟩⟩
                  · rw [if_neg c12] at H
                    have c12b0 : decide (((rd_T36 l0 x4_1).f1) < 0) = false := decide_eq_false c12
                    clear c12
                    by_cases c14 : ((rd_T36 l0 x4_1).f1) > 31
                    · rw [if_pos c14] at H
                      have c14b0 : decide (31 < ((rd_T36 l0 x4_1).f1)) = true := decide_eq_true c14
                      clear c14
                      have H' := Aside0.mk H
                      clear H
                      have hcz15_0 : w6.cell? ⟨gb119, 0, none⟩ = some (.int .i64 0) := (blk_cell BK119.out 0).trans rfl
                      have hcz15_1 : w6.cell? ⟨gb119, 1, none⟩ = some (.int .i64 0) := (blk_cell BK119.out 1).trans rfl
                      have hcz15_2 : w6.cell? ⟨gb119, 2, none⟩ = some (.int .i64 0) := (blk_cell BK119.out 2).trans rfl
                      have hcz15_3 : w6.cell? ⟨gb119, 3, none⟩ = some (.bool false) := (blk_cell BK119.out 3).trans rfl
                      have hfz15_0 := blk_frozen BK119.out 0
                      have hfz15_1 := blk_frozen BK119.out 1
                      have hfz15_2 := blk_frozen BK119.out 2
                      have hfz15_3 := blk_frozen BK119.out 3
                      go_wp2
                      repeat (go_quiet (fail); try go_wp2)
                      go_meet
                      case rel => exact ⟨_, (true), (by first | rfl | (simp; done) | (simp [*]; done)), H', ⟨by have := HK1.out; first | omega | exact Nat.le_refl _⟩, ⟨by (with_reducible repeat (first | refine blk_drewN ?_ _ | refine blk_drew ?_ | refine blk_alloc ?_ _)); refine blk_put (cs := #[.int .i64 ((rd_T36 l0 x4_1).f0), .int .i64 ((rd_T36 l0 x4_1).f1), .int .i64 ((rd_T36 l0 x4_1).f2), .bool false]) ?_ 3 _ rfl; (with_reducible repeat (first | refine blk_drewN ?_ _ | refine blk_drew ?_ | refine blk_alloc ?_ _)); refine blk_put (cs := #[.int .i64 ((rd_T36 l0 x4_1).f0), .int .i64 ((rd_T36 l0 x4_1).f1), .int .i64 0, .bool false]) ?_ 2 _ rfl; (with_reducible repeat (first | refine blk_drewN ?_ _ | refine blk_drew ?_ | refine blk_alloc ?_ _)); refine blk_put (cs := #[.int .i64 ((rd_T36 l0 x4_1).f0), .int .i64 0, .int .i64 0, .bool false]) ?_ 1 _ rfl; (with_reducible repeat (first | refine blk_drewN ?_ _ | refine blk_drew ?_ | refine blk_alloc ?_ _)); refine blk_put (cs := #[.int .i64 0, .int .i64 0, .int .i64 0, .bool false]) ?_ 0 _ rfl; (with_reducible repeat (first | refine blk_drewN ?_ _ | refine blk_drew ?_ | refine blk_alloc ?_ _)); exact BK119.out⟩, ⟨by repeat (first | (with_reducible first | exact HB.out | apply below_alloc | apply pw_below_drewN | apply below_drew1 | refine below_set ?_ GE119.out) | exact HB.out)⟩⟩
                    · rw [if_neg c14] at H
                      have c14b0 : decide (31 < ((rd_T36 l0 x4_1).f1)) = false := decide_eq_false c14
                      clear c14
                      by_cases c16 : ((rd_T36 l0 x4_1).f2) < 1
                      · rw [if_pos c16] at H
                        have c16b0 : decide (((rd_T36 l0 x4_1).f2) < 1) = true := decide_eq_true c16
                        clear c16
                        have H' := Aside0.mk H
                        clear H
                        have hcz17_0 : w6.cell? ⟨gb119, 0, none⟩ = some (.int .i64 0) := (blk_cell BK119.out 0).trans rfl
                        have hcz17_1 : w6.cell? ⟨gb119, 1, none⟩ = some (.int .i64 0) := (blk_cell BK119.out 1).trans rfl
                        have hcz17_2 : w6.cell? ⟨gb119, 2, none⟩ = some (.int .i64 0) := (blk_cell BK119.out 2).trans rfl
                        have hcz17_3 : w6.cell? ⟨gb119, 3, none⟩ = some (.bool false) := (blk_cell BK119.out 3).trans rfl
                        have hfz17_0 := blk_frozen BK119.out 0
                        have hfz17_1 := blk_frozen BK119.out 1
                        have hfz17_2 := blk_frozen BK119.out 2
                        have hfz17_3 := blk_frozen BK119.out 3
                        go_wp2
                        repeat (go_quiet (fail); try go_wp2)
                        go_meet
                        case rel => exact ⟨_, (true), (by first | rfl | (simp; done) | (simp [*]; done)), H', ⟨by have := HK1.out; first | omega | exact Nat.le_refl _⟩, ⟨by (with_reducible repeat (first | refine blk_drewN ?_ _ | refine blk_drew ?_ | refine blk_alloc ?_ _)); refine blk_put (cs := #[.int .i64 ((rd_T36 l0 x4_1).f0), .int .i64 ((rd_T36 l0 x4_1).f1), .int .i64 ((rd_T36 l0 x4_1).f2), .bool false]) ?_ 3 _ rfl; (with_reducible repeat (first | refine blk_drewN ?_ _ | refine blk_drew ?_ | refine blk_alloc ?_ _)); refine blk_put (cs := #[.int .i64 ((rd_T36 l0 x4_1).f0), .int .i64 ((rd_T36 l0 x4_1).f1), .int .i64 0, .bool false]) ?_ 2 _ rfl; (with_reducible repeat (first | refine blk_drewN ?_ _ | refine blk_drew ?_ | refine blk_alloc ?_ _)); refine blk_put (cs := #[.int .i64 ((rd_T36 l0 x4_1).f0), .int .i64 0, .int .i64 0, .bool false]) ?_ 1 _ rfl; (with_reducible repeat (first | refine blk_drewN ?_ _ | refine blk_drew ?_ | refine blk_alloc ?_ _)); refine blk_put (cs := #[.int .i64 0, .int .i64 0, .int .i64 0, .bool false]) ?_ 0 _ rfl; (with_reducible repeat (first | refine blk_drewN ?_ _ | refine blk_drew ?_ | refine blk_alloc ?_ _)); exact BK119.out⟩, ⟨by repeat (first | (with_reducible first | exact HB.out | apply below_alloc | apply pw_below_drewN | apply below_drew1 | refine below_set ?_ GE119.out) | exact HB.out)⟩⟩
                      · rw [if_neg c16] at H
                        have c16b0 : decide (((rd_T36 l0 x4_1).f2) < 1) = false := decide_eq_false c16
                        clear c16
                        have H' := Aside0.mk H
                        clear H
                        have hcz18_0 : w6.cell? ⟨gb119, 0, none⟩ = some (.int .i64 0) := (blk_cell BK119.out 0).trans rfl
                        have hcz18_1 : w6.cell? ⟨gb119, 1, none⟩ = some (.int .i64 0) := (blk_cell BK119.out 1).trans rfl
                        have hcz18_2 : w6.cell? ⟨gb119, 2, none⟩ = some (.int .i64 0) := (blk_cell BK119.out 2).trans rfl
                        have hcz18_3 : w6.cell? ⟨gb119, 3, none⟩ = some (.bool false) := (blk_cell BK119.out 3).trans rfl
                        have hfz18_0 := blk_frozen BK119.out 0
                        have hfz18_1 := blk_frozen BK119.out 1
                        have hfz18_2 := blk_frozen BK119.out 2
                        have hfz18_3 := blk_frozen BK119.out 3
                        go_wp2
                        repeat (go_quiet (fail); try go_wp2)
                        go_meet
                        case rel => exact ⟨_, (decide (((rd_T36 l0 x4_1).f2) > 64)), (by first | rfl | (simp; done) | (simp [*]; done)), H', ⟨by have := HK1.out; first | omega | exact Nat.le_refl _⟩, ⟨by (with_reducible repeat (first | refine blk_drewN ?_ _ | refine blk_drew ?_ | refine blk_alloc ?_ _)); refine blk_put (cs := #[.int .i64 ((rd_T36 l0 x4_1).f0), .int .i64 ((rd_T36 l0 x4_1).f1), .int .i64 ((rd_T36 l0 x4_1).f2), .bool false]) ?_ 3 _ rfl; (with_reducible repeat (first | refine blk_drewN ?_ _ | refine blk_drew ?_ | refine blk_alloc ?_ _)); refine blk_put (cs := #[.int .i64 ((rd_T36 l0 x4_1).f0), .int .i64 ((rd_T36 l0 x4_1).f1), .int .i64 0, .bool false]) ?_ 2 _ rfl; (with_reducible repeat (first | refine blk_drewN ?_ _ | refine blk_drew ?_ | refine blk_alloc ?_ _)); refine blk_put (cs := #[.int .i64 ((rd_T36 l0 x4_1).f0), .int .i64 0, .int .i64 0, .bool false]) ?_ 1 _ rfl; (with_reducible repeat (first | refine blk_drewN ?_ _ | refine blk_drew ?_ | refine blk_alloc ?_ _)); refine blk_put (cs := #[.int .i64 0, .int .i64 0, .int .i64 0, .bool false]) ?_ 0 _ rfl; (with_reducible repeat (first | refine blk_drewN ?_ _ | refine blk_drew ?_ | refine blk_alloc ?_ _)); exact BK119.out⟩, ⟨by repeat (first | (with_reducible first | exact HB.out | apply below_alloc | apply pw_below_drewN | apply below_drew1 | refine below_set ?_ GE119.out) | exact HB.out)⟩⟩
            case rest =>
              clear HC5
              try clear c1
              try clear p1
              try clear q1
              try clear hx1
              try clear c2
              try clear c2b0
              try clear c2b1
              try clear p2
              try clear c3
              try clear c3b0
              try clear c4
              try clear c4b0
              try clear c8
              try clear c8b0
              try clear c10
              try clear c10b0
              try clear p11
              try clear q11
              try clear hx11
              try clear c12
              try clear c12b0
              try clear c14
              try clear c14b0
              try clear c16
              try clear c16b0
              try clear hcz11_0
              try clear hcz11_1
              try clear hcz11_2
              try clear hcz11_3
              try clear hcz13_0
              try clear hcz13_1
              try clear hcz13_2
              try clear hcz13_3
              try clear hcz15_0
              try clear hcz15_1
              try clear hcz15_2
              try clear hcz15_3
              try clear hcz17_0
              try clear hcz17_1
              try clear hcz17_2
              try clear hcz17_3
              try clear hcz18_0
              try clear hcz18_1
              try clear hcz18_2
              try clear hcz18_3
              try clear hcz7_0
              try clear hcz7_1
              try clear hcz7_2
              try clear hcz7_3
              try clear hcz9_0
              try clear hcz9_1
              try clear hcz9_2
              try clear hcz9_3
              try clear hfz11_0
              try clear hfz11_1
              try clear hfz11_2
              try clear hfz11_3
              try clear hfz13_0
              try clear hfz13_1
              try clear hfz13_2
              try clear hfz13_3
              try clear hfz15_0
              try clear hfz15_1
              try clear hfz15_2
              try clear hfz15_3
              try clear hfz17_0
              try clear hfz17_1
              try clear hfz17_2
              try clear hfz17_3
              try clear hfz18_0
              try clear hfz18_1
              try clear hfz18_2
              try clear hfz18_3
              try clear hfz7_0
              try clear hfz7_1
              try clear hfz7_2
              try clear hfz7_3
              try clear hfz9_0
              try clear hfz9_1
              try clear hfz9_2
              try clear hfz9_3
              try clear hx118_0
              try clear hx118_1
              try clear hx118_2
              try clear hx118_3
              try clear p118
              try clear p2
              try clear q118
              obtain ⟨kq, x47_4, rfl, HA, HJ4, BK119, HB⟩ := hcut
              cases kq with
              | zero => exact absurd HA.out (by simp [fuglemanref16_Check.j1])
              | succ kj4 =>
                have H := HA.out
                clear HA
                simp only [fuglemanref16_Check.j1] at H
                by_cases c19 : x47_4 = true
                · subst c19
                  have H1 : (some (3, x4_1)) = some (r1, r2) := by rw [if_pos rfl] at H; exact H
                  clear H
                  have H := H1
                  clear H1
                  simp only [Option.some.injEq, Prod.mk.injEq] at H
                  obtain ⟨rfl, rfl⟩ := H
                  go_wp2
                  repeat (go_quiet (fail); try go_wp2)
                  go_ret2
                  exact ⟨by first | rfl | (simp [errW_none, errW_some] <;> rfl) | (simp [*, errW_none, errW_some] <;> rfl), by repeat (first | (with_reducible first | exact HB.out | apply below_alloc | apply pw_below_drewN | apply below_drew1 | refine below_set ?_ GE119.out) | exact HB.out)⟩
                · replace c19 := Bool.eq_false_iff.mpr c19
                  subst c19
                  have H1 : (fuglemanref16_Check.l1 kj4 l0 x4_1 0 ((rd_T36 l0 x4_1).f0) ((rd_T36 l0 x4_1).f1) ((rd_T36 l0 x4_1).f2) ((rd_T36 l0 x4_1).f3)) = some (r1, r2) := by rw [if_neg (show ¬ (false = true) by decide)] at H; exact H
                  clear H
                  have H := H1
                  clear H1
                  have H' := Aside0.mk H
                  clear H
                  go_wp2
                  repeat (go_quiet (fail); try go_wp2)
                  go_loopg [6] kj4 (fun kq v6 w' => ∃ (x6_3 : Int), v6 = .int .i64 x6_3 ∧ Aside0 (fuglemanref16_Check.l1 kq l0 x4_1 x6_3 ((rd_T36 l0 x4_1).f0) ((rd_T36 l0 x4_1).f1) ((rd_T36 l0 x4_1).f2) ((rd_T36 l0 x4_1).f3) = some (r1, r2)) ∧ Aside0 (kq ≤ kj4) ∧ Aside0 (w'.heap[gb119]? = some (.cells #[.int .i64 ((rd_T36 l0 x4_1).f0), .int .i64 ((rd_T36 l0 x4_1).f1), .int .i64 ((rd_T36 l0 x4_1).f2), .bool ((rd_T36 l0 x4_1).f3)] 36 (0, 0))) ∧ Aside0 (Below w.heap.size w w'))
                  case atStart => exact ⟨(0), (by first | rfl | (simp; done) | (simp [*]; done)), H', ⟨Nat.le_refl _⟩, ⟨by (with_reducible repeat (first | refine blk_drewN ?_ _ | refine blk_drew ?_ | refine blk_alloc ?_ _)); exact BK119.out⟩, ⟨by repeat (first | (with_reducible first | exact HB.out | apply below_alloc | apply pw_below_drewN | apply below_drew1 | refine below_set ?_ GE119.out) | exact HB.out)⟩⟩
                  case round =>
                    clear H'
                    try clear c1
                    try clear p1
                    try clear q1
                    try clear hx1
                    try clear c2
                    try clear c2b0
                    try clear c2b1
                    try clear p2
                    try clear c3
                    try clear c3b0
                    try clear c4
                    try clear c4b0
                    try clear c8
                    try clear c8b0
                    try clear c10
                    try clear c10b0
                    try clear p11
                    try clear q11
                    try clear hx11
                    try clear c12
                    try clear c12b0
                    try clear c14
                    try clear c14b0
                    try clear c16
                    try clear c16b0
                    try clear c19
                    try clear hcz11_0
                    try clear hcz11_1
                    try clear hcz11_2
                    try clear hcz11_3
                    try clear hcz13_0
                    try clear hcz13_1
                    try clear hcz13_2
                    try clear hcz13_3
                    try clear hcz15_0
                    try clear hcz15_1
                    try clear hcz15_2
                    try clear hcz15_3
                    try clear hcz17_0
                    try clear hcz17_1
                    try clear hcz17_2
                    try clear hcz17_3
                    try clear hcz18_0
                    try clear hcz18_1
                    try clear hcz18_2
                    try clear hcz18_3
                    try clear hcz7_0
                    try clear hcz7_1
                    try clear hcz7_2
                    try clear hcz7_3
                    try clear hcz9_0
                    try clear hcz9_1
                    try clear hcz9_2
                    try clear hcz9_3
                    try clear hfz11_0
                    try clear hfz11_1
                    try clear hfz11_2
                    try clear hfz11_3
                    try clear hfz13_0
                    try clear hfz13_1
                    try clear hfz13_2
                    try clear hfz13_3
                    try clear hfz15_0
                    try clear hfz15_1
                    try clear hfz15_2
                    try clear hfz15_3
                    try clear hfz17_0
                    try clear hfz17_1
                    try clear hfz17_2
                    try clear hfz17_3
                    try clear hfz18_0
                    try clear hfz18_1
                    try clear hfz18_2
                    try clear hfz18_3
                    try clear hfz7_0
                    try clear hfz7_1
                    try clear hfz7_2
                    try clear hfz7_3
                    try clear hfz9_0
                    try clear hfz9_1
                    try clear hfz9_2
                    try clear hfz9_3
                    try clear hx118_0
                    try clear hx118_1
                    try clear hx118_2
                    try clear hx118_3
                    try clear p1
                    try clear p11
                    try clear p118
                    try clear p2
                    try clear q1
                    try clear q11
                    try clear q118
                    obtain ⟨x6_3, rfl, HA, HK3, BK119, HB⟩ := hrel
                    cases gk with
                    | zero => exact absurd HA.out (by simp [fuglemanref16_Check.l1])
                    | succ k3 =>
                      have H := HA.out
                      clear HA
                      simp only [fuglemanref16_Check.l1] at H
                      by_cases c20 : x6_3 < x4_1
                      · rw [if_pos c20] at H
                        have c20b0 : decide (x6_3 < x4_1) = true := decide_eq_true c20
                        clear c20
                        by_cases c21 : 0 ≤ x6_3
                        · rw [if_pos c21] at H
                          have c21b0 : decide (0 ≤ x6_3) = true := decide_eq_true c21
                          clear c21
                          by_cases c22 : x6_3 < (l0.length : Int)
                          · rw [if_pos c22] at H
                            have c22b0 : decide (x6_3 < (l0.length : Int)) = true := decide_eq_true c22
                            clear c22
                            by_cases c23 : ((rd_T36 l0 x6_3).f0) = ((rd_T36 l0 x4_1).f0)
                            · rw [if_pos c23] at H
                              have c23b0 : (((rd_T36 l0 x6_3).f0) == ((rd_T36 l0 x4_1).f0)) = true := beq_iff_eq.mpr c23
                              have c23b1 : (((rd_T36 l0 x6_3).f0) != ((rd_T36 l0 x4_1).f0)) = false := bne_eq_false_iff_eq.mpr c23
                              clear c23
                              simp only [Option.some.injEq, Prod.mk.injEq] at H
                              obtain ⟨rfl, rfl⟩ := H
                              have p120 : 0 ≤ (x6_3 : Int) := of_decide_eq_true (by first | (with_reducible assumption) | assumption)
                              have q120 : x6_3 < (l0.length : Int) := of_decide_eq_true (by first | (with_reducible assumption) | assumption)
                              obtain ⟨ad120, e120, hx120_0, hx120_1, hx120_2, hx120_3⟩ := at_T36 HR0.out x6_3 p120 q120
                              obtain rfl : ad118 = ad120 := (by injection e120)
                              replace hx120_0 := (HB.out.cell (World.block_lt_of_cell? w _ hx120_0)).trans hx120_0
                              replace hx120_1 := (HB.out.cell (World.block_lt_of_cell? w _ hx120_1)).trans hx120_1
                              replace hx120_2 := (HB.out.cell (World.block_lt_of_cell? w _ hx120_2)).trans hx120_2
                              replace hx120_3 := (HB.out.cell (World.block_lt_of_cell? w _ hx120_3)).trans hx120_3
                              replace p120 := eq_true p120
                              replace q120 := eq_true q120
                              have hcz24_0 : wr.cell? ⟨gb119, 0, none⟩ = some (.int .i64 ((rd_T36 l0 x4_1).f0)) := (blk_cell BK119.out 0).trans rfl
                              have hcz24_1 : wr.cell? ⟨gb119, 1, none⟩ = some (.int .i64 ((rd_T36 l0 x4_1).f1)) := (blk_cell BK119.out 1).trans rfl
                              have hcz24_2 : wr.cell? ⟨gb119, 2, none⟩ = some (.int .i64 ((rd_T36 l0 x4_1).f2)) := (blk_cell BK119.out 2).trans rfl
                              have hcz24_3 : wr.cell? ⟨gb119, 3, none⟩ = some (.bool ((rd_T36 l0 x4_1).f3)) := (blk_cell BK119.out 3).trans rfl
                              have hfz24_0 := blk_frozen BK119.out 0
                              have hfz24_1 := blk_frozen BK119.out 1
                              have hfz24_2 := blk_frozen BK119.out 2
                              have hfz24_3 := blk_frozen BK119.out 3
                              go_wp2
                              repeat (go_quiet (fail); try go_wp2)
                              go_ret2
                              exact ⟨by first | rfl | (simp [errW_none, errW_some] <;> rfl) | (simp [*, errW_none, errW_some] <;> rfl), by repeat (first | (with_reducible first | exact HB.out | apply below_alloc | apply pw_below_drewN | apply below_drew1 | refine below_set ?_ GE119.out) | exact HB.out)⟩
                            · rw [if_neg c23] at H
                              have c23b0 : (((rd_T36 l0 x6_3).f0) == ((rd_T36 l0 x4_1).f0)) = false := beq_eq_false_iff_ne.mpr c23
                              have c23b1 : (((rd_T36 l0 x6_3).f0) != ((rd_T36 l0 x4_1).f0)) = true := bne_iff_ne.mpr c23
                              have H' := Aside0.mk H
                              clear H
                              have p120 : 0 ≤ (x6_3 : Int) := of_decide_eq_true (by first | (with_reducible assumption) | assumption)
                              have q120 : x6_3 < (l0.length : Int) := of_decide_eq_true (by first | (with_reducible assumption) | assumption)
                              obtain ⟨ad120, e120, hx120_0, hx120_1, hx120_2, hx120_3⟩ := at_T36 HR0.out x6_3 p120 q120
                              obtain rfl : ad118 = ad120 := (by injection e120)
                              replace hx120_0 := (HB.out.cell (World.block_lt_of_cell? w _ hx120_0)).trans hx120_0
                              replace hx120_1 := (HB.out.cell (World.block_lt_of_cell? w _ hx120_1)).trans hx120_1
                              replace hx120_2 := (HB.out.cell (World.block_lt_of_cell? w _ hx120_2)).trans hx120_2
                              replace hx120_3 := (HB.out.cell (World.block_lt_of_cell? w _ hx120_3)).trans hx120_3
                              replace p120 := eq_true p120
                              replace q120 := eq_true q120
                              have hcz25_0 : wr.cell? ⟨gb119, 0, none⟩ = some (.int .i64 ((rd_T36 l0 x4_1).f0)) := (blk_cell BK119.out 0).trans rfl
                              have hcz25_1 : wr.cell? ⟨gb119, 1, none⟩ = some (.int .i64 ((rd_T36 l0 x4_1).f1)) := (blk_cell BK119.out 1).trans rfl
                              have hcz25_2 : wr.cell? ⟨gb119, 2, none⟩ = some (.int .i64 ((rd_T36 l0 x4_1).f2)) := (blk_cell BK119.out 2).trans rfl
                              have hcz25_3 : wr.cell? ⟨gb119, 3, none⟩ = some (.bool ((rd_T36 l0 x4_1).f3)) := (blk_cell BK119.out 3).trans rfl
                              have hfz25_0 := blk_frozen BK119.out 0
                              have hfz25_1 := blk_frozen BK119.out 1
                              have hfz25_2 := blk_frozen BK119.out 2
                              have hfz25_3 := blk_frozen BK119.out 3
                              go_wp2
                              repeat (go_quiet (fail); try go_wp2)
                              go_roundg k3
                              case measure => have := HK1.out; have := HJ4.out; have := HK3.out; omega
                              case rel => exact ⟨(wrap64 (x6_3 + 1)), (by first | rfl | (simp; done) | (simp [*]; done)), H', ⟨by have := HK1.out; have := HJ4.out; have := HK3.out; omega⟩, ⟨by (with_reducible repeat (first | refine blk_drewN ?_ _ | refine blk_drew ?_ | refine blk_alloc ?_ _)); exact BK119.out⟩, ⟨by repeat (first | (with_reducible first | exact HB.out | apply below_alloc | apply pw_below_drewN | apply below_drew1 | refine below_set ?_ GE119.out) | exact HB.out)⟩⟩
                          · rw [if_neg c22] at H
                            exact absurd H (by simp)
                        · rw [if_neg c21] at H
                          exact absurd H (by simp)
                      · rw [if_neg c20] at H
                        have c20b0 : decide (x6_3 < x4_1) = false := decide_eq_false c20
                        clear c20
                        have H' := Aside0.mk H
                        clear H
                        go_wp2
                        repeat (go_quiet (fail); try go_wp2)
                        go_roundg k3
                        case measure => have := HK1.out; have := HJ4.out; have := HK3.out; omega
                        case rel => exact ⟨(wrap64 (x4_1 + 1)), (by first | rfl | (simp; done) | (simp [*]; done)), H', ⟨by have := HK1.out; have := HJ4.out; have := HK3.out; omega⟩, ⟨by repeat (first | (with_reducible first | exact HB.out | apply below_alloc | apply pw_below_drewN | apply below_drew1 | refine below_set ?_ GE119.out) | exact HB.out)⟩⟩
          · rw [if_neg c4] at H
            exact absurd H (by simp)
        · rw [if_neg c3] at H
          have c3b0 : decide (x4_1 < (l0.length : Int)) = false := decide_eq_false c3
          clear c3
          simp only [Option.some.injEq, Prod.mk.injEq] at H
          obtain ⟨rfl, rfl⟩ := H
          go_wp2
          repeat (go_quiet (fail); try go_wp2)
          go_ret2
          exact ⟨by first | rfl | (simp [errW_none, errW_some] <;> rfl) | (simp [*, errW_none, errW_some] <;> rfl), by repeat (first | (with_reducible first | exact HB.out | apply below_alloc | apply pw_below_drewN | apply below_drew1) | exact HB.out)⟩

/-! ### blocks_Find: function 13 -/
def blocks_Find.f (k : Nat) (l0 : List (S36)) (a1 : Int) : Option (Int × Int × Int × Bool × Bool) := (blocks_place.f k l0 a1).bind fun t122 => (if t122 < 0 then (some (0, 0, 0, false, false)) else (if 0 ≤ t122 then (if t122 < (l0.length : Int) then (some ((rd_T36 l0 t122).f0, (rd_T36 l0 t122).f1, (rd_T36 l0 t122).f2, (rd_T36 l0 t122).f3, true)) else (none)) else (none)))
theorem blocks_Find.mono : ∀ a0 a1 k, LeO (blocks_Find.f k a0 a1) (blocks_Find.f (k + 1) a0 a1) := by
  intro a0 a1 k
  unfold blocks_Find.f
  repeat' first
      | (with_reducible exact blocks_place.mono _ _ _)
      | (with_reducible exact LeO.refl _)
      | (with_reducible exact LeO.none _)
      | (with_reducible refine LeO.ite ?_ ?_)
      | (with_reducible refine LeO.bind ?_ (fun _ => ?_))
      | exact blocks_place.mono _ _ _
      | exact LeO.none _
      | refine LeO.ite ?_ ?_
      | refine LeO.bind ?_ (fun _ => ?_)
set_option maxHeartbeats 8000000 in
set_option maxRecDepth 100000 in
theorem blocks_Find.calls (k : Nat) (A0 : Option Addr) (c0 : Nat) (l0 : List (S36)) (a1 : Int) (r1 : Int) (r2 : Int) (r3 : Int) (r4 : Bool) (r5 : Bool) (w : World) (hr0 : Kd.C k36 w A0 l0.length l0) (hc0 : l0.length ≤ c0) (h : blocks_Find.f k l0 a1 = some (r1, r2, r3, r4, r5)) :
    Calls Try.prog 13 #[.slice A0 l0.length c0, .int .i64 a1] w fun e w' => e = .returned (.tuple #[.agg #[.int .i64 r1, .int .i64 r2, .int .i64 r3, .bool r4], .bool r5]) ∧ Below w.heap.size w w' := by
  have hu36 := Try.underlying36
  have HR0 := Aside0.mk hr0
  have HC0 := Aside0.mk hc0
  clear hr0 hc0
  have HB := Aside0.mk (Below.refl w.heap.size w)
  have H : ((blocks_place.f k l0 a1).bind fun t122 => (if t122 < 0 then (some (0, 0, 0, false, false)) else (if 0 ≤ t122 then (if t122 < (l0.length : Int) then (some ((rd_T36 l0 t122).f0, (rd_T36 l0 t122).f1, (rd_T36 l0 t122).f2, (rd_T36 l0 t122).f3, true)) else (none)) else (none)))) = some (r1, r2, r3, r4, r5) := h
  clear h
  replace H := Option.bind_eq_some_iff.mp H
  obtain ⟨t122, A30, H⟩ := H
  replace H : (if t122 < 0 then (some (0, 0, 0, false, false)) else (if 0 ≤ t122 then (if t122 < (l0.length : Int) then (some ((rd_T36 l0 t122).f0, (rd_T36 l0 t122).f1, (rd_T36 l0 t122).f2, (rd_T36 l0 t122).f3, true)) else (none)) else (none))) = some (r1, r2, r3, r4, r5) := H
  have A3 := Aside0.mk A30
  clear A30
  by_cases c4 : t122 < 0
  · rw [if_pos c4] at H
    have c4b0 : decide (t122 < 0) = true := decide_eq_true c4
    clear c4
    simp only [Option.some.injEq, Prod.mk.injEq] at H
    obtain ⟨rfl, rfl, rfl, rfl, rfl⟩ := H
    go_enter Try.func13, Try.ntmps13
    go_wp2_with (first | ((with_reducible refine gate_dst (N := 4) rfl ?_); refine box_event ?hg (N := 4) ?hd (cs := #[.int .i64 0, .int .i64 0, .int .i64 0, .bool false]) (t := 36) ?hr ?_; (case hd => rfl); (case hg => rfl); (case hr => first | (go_simp; done) | (go_simp; rfl)); intro gb121 hg w5 hbox hb; have n0_ := Aside0.mk (below_step (by repeat (first | (with_reducible first | exact HB.out | apply below_alloc | apply pw_below_drewN | apply below_drew1) | exact HB.out)) hb); have n1_ := Aside0.mk (hbox); have n2_ := Aside0.mk ((by rw [hg]; exact (below_size (by repeat (first | (with_reducible first | exact HB.out | apply below_alloc | apply pw_below_drewN | apply below_drew1) | exact HB.out))) : w.heap.size ≤ gb121)); have n3_ := Aside0.mk ((by rw [hg]; exact (below_size (by repeat (first | (with_reducible first | exact HB.out | apply below_alloc | apply pw_below_drewN | apply below_drew1) | exact HB.out))) : w.heap.size ≤ gb121)); clear HB; have HB := n0_; have BK121 := n1_; have GW121 := n2_; have GE121 := n3_; clear n0_ n1_ n2_ n3_; clear hb hbox hg) | ((with_reducible refine gate_callee (f := 19) rfl ?_); refine goesL_ (some 9) rfl rfl Try.func19 (by kernel_rfl) rfl #[.slice A0 l0.length c0, .int .i64 a1] rfl (by (try simp only [List.map_toArray, List.map_cons, List.map_nil]); first | done | rfl | (simp only [List.length_drop, List.length_take]; rfl)) ?_; (with_reducible refine (blocks_place.calls k _ _ l0 a1 t122 _ ?side1 ?side2 A3.out).mono ?_); (case side1 => repeat (first | exact (Kd.C_below HR0.out HB.out) | (with_reducible refine Kd.C_alloc ?_ _) | (with_reducible refine Kd.C_drewN ?_ _) | (with_reducible refine Kd.C_drew ?_))); (case side2 => exact HC0.out); rintro e w6 ⟨rfl, hb⟩; refine ⟨_, rfl, ?_⟩; have n0_ := Aside0.mk (blk_below (g := gb121) (o := .cells #[.int .i64 0, .int .i64 0, .int .i64 0, .bool false] 36 (0, 0)) (by (with_reducible repeat (first | refine blk_drewN ?_ _ | refine blk_drew ?_ | refine blk_alloc ?_ _)); exact BK121.out) hb); have n1_ := Aside0.mk (below_step (by repeat (first | (with_reducible first | exact HB.out | apply below_alloc | apply pw_below_drewN | apply below_drew1 | refine below_set ?_ GE121.out) | exact HB.out)) hb); clear BK121; clear HB; have BK121 := n0_; have HB := n1_; clear n0_ n1_; (try clear hb); (try clear hb2); (try clear hk); (try clear hi); have hcz7_0 : w6.cell? ⟨gb121, 0, none⟩ = some (.int .i64 0) := (blk_cell BK121.out 0).trans rfl; have hcz7_1 : w6.cell? ⟨gb121, 1, none⟩ = some (.int .i64 0) := (blk_cell BK121.out 1).trans rfl; have hcz7_2 : w6.cell? ⟨gb121, 2, none⟩ = some (.int .i64 0) := (blk_cell BK121.out 2).trans rfl; have hcz7_3 : w6.cell? ⟨gb121, 3, none⟩ = some (.bool false) := (blk_cell BK121.out 3).trans rfl; have hfz7_0 := blk_frozen BK121.out 0; have hfz7_1 := blk_frozen BK121.out 1; have hfz7_2 := blk_frozen BK121.out 2; have hfz7_3 := blk_frozen BK121.out 3))
    refine bodyPost_ret (results_ct rfl _ _ gb121 36 #[.int .i64 0, .int .i64 0, .int .i64 0, .bool false] (0, 0) _ rfl (by (with_reducible repeat (first | refine blk_drewN ?_ _ | refine blk_drew ?_ | refine blk_alloc ?_ _)); refine blk_put (cs := #[.int .i64 0, .int .i64 0, .int .i64 0, .bool false]) ?_ 3 _ rfl; (with_reducible repeat (first | refine blk_drewN ?_ _ | refine blk_drew ?_ | refine blk_alloc ?_ _)); refine blk_put (cs := #[.int .i64 0, .int .i64 0, .int .i64 0, .bool false]) ?_ 2 _ rfl; (with_reducible repeat (first | refine blk_drewN ?_ _ | refine blk_drew ?_ | refine blk_alloc ?_ _)); refine blk_put (cs := #[.int .i64 0, .int .i64 0, .int .i64 0, .bool false]) ?_ 1 _ rfl; (with_reducible repeat (first | refine blk_drewN ?_ _ | refine blk_drew ?_ | refine blk_alloc ?_ _)); refine blk_put (cs := #[.int .i64 0, .int .i64 0, .int .i64 0, .bool false]) ?_ 0 _ rfl; (with_reducible repeat (first | refine blk_drewN ?_ _ | refine blk_drew ?_ | refine blk_alloc ?_ _)); exact BK121.out) Try.underlying36 rfl (by kernel_rfl)) rfl ?_
    exact ⟨by first | rfl | (simp [errW_none, errW_some] <;> rfl) | (simp [*, errW_none, errW_some] <;> rfl), by repeat (first | (with_reducible first | exact HB.out | apply below_alloc | apply pw_below_drewN | apply below_drew1 | refine below_set ?_ GE121.out) | exact HB.out)⟩
  · rw [if_neg c4] at H
    have c4b0 : decide (t122 < 0) = false := decide_eq_false c4
    clear c4
    by_cases c8 : 0 ≤ t122
    · rw [if_pos c8] at H
      have c8b0 : decide (0 ≤ t122) = true := decide_eq_true c8
      clear c8
      by_cases c9 : t122 < (l0.length : Int)
      · rw [if_pos c9] at H
        have c9b0 : decide (t122 < (l0.length : Int)) = true := decide_eq_true c9
        clear c9
        simp only [Option.some.injEq, Prod.mk.injEq] at H
        obtain ⟨rfl, rfl, rfl, rfl, rfl⟩ := H
        go_enter Try.func13, Try.ntmps13
        go_wp2_with (first | ((with_reducible refine gate_dst (N := 4) rfl ?_); refine box_event ?hg (N := 4) ?hd (cs := #[.int .i64 0, .int .i64 0, .int .i64 0, .bool false]) (t := 36) ?hr ?_; (case hd => rfl); (case hg => rfl); (case hr => first | (go_simp; done) | (go_simp; rfl)); intro gb121 hg w10 hbox hb; have n0_ := Aside0.mk (below_step (by repeat (first | (with_reducible first | exact HB.out | apply below_alloc | apply pw_below_drewN | apply below_drew1) | exact HB.out)) hb); have n1_ := Aside0.mk (hbox); have n2_ := Aside0.mk ((by rw [hg]; exact (below_size (by repeat (first | (with_reducible first | exact HB.out | apply below_alloc | apply pw_below_drewN | apply below_drew1) | exact HB.out))) : w.heap.size ≤ gb121)); have n3_ := Aside0.mk ((by rw [hg]; exact (below_size (by repeat (first | (with_reducible first | exact HB.out | apply below_alloc | apply pw_below_drewN | apply below_drew1) | exact HB.out))) : w.heap.size ≤ gb121)); clear HB; have HB := n0_; have BK121 := n1_; have GW121 := n2_; have GE121 := n3_; clear n0_ n1_ n2_ n3_; clear hb hbox hg) | ((with_reducible refine gate_callee (f := 19) rfl ?_); refine goesL_ (some 9) rfl rfl Try.func19 (by kernel_rfl) rfl #[.slice A0 l0.length c0, .int .i64 a1] rfl (by (try simp only [List.map_toArray, List.map_cons, List.map_nil]); first | done | rfl | (simp only [List.length_drop, List.length_take]; rfl)) ?_; (with_reducible refine (blocks_place.calls k _ _ l0 a1 t122 _ ?side1 ?side2 A3.out).mono ?_); (case side1 => repeat (first | exact (Kd.C_below HR0.out HB.out) | (with_reducible refine Kd.C_alloc ?_ _) | (with_reducible refine Kd.C_drewN ?_ _) | (with_reducible refine Kd.C_drew ?_))); (case side2 => exact HC0.out); rintro e w11 ⟨rfl, hb⟩; refine ⟨_, rfl, ?_⟩; have n0_ := Aside0.mk (blk_below (g := gb121) (o := .cells #[.int .i64 0, .int .i64 0, .int .i64 0, .bool false] 36 (0, 0)) (by (with_reducible repeat (first | refine blk_drewN ?_ _ | refine blk_drew ?_ | refine blk_alloc ?_ _)); exact BK121.out) hb); have n1_ := Aside0.mk (below_step (by repeat (first | (with_reducible first | exact HB.out | apply below_alloc | apply pw_below_drewN | apply below_drew1 | refine below_set ?_ GE121.out) | exact HB.out)) hb); clear BK121; clear HB; have BK121 := n0_; have HB := n1_; clear n0_ n1_; (try clear hb); (try clear hb2); (try clear hk); (try clear hi); have p123 : 0 ≤ (t122 : Int) := of_decide_eq_true (by first | (with_reducible assumption) | assumption); have q123 : t122 < (l0.length : Int) := of_decide_eq_true (by first | (with_reducible assumption) | assumption); obtain ⟨ad123, e123, hx123_0, hx123_1, hx123_2, hx123_3⟩ := at_T36 HR0.out t122 p123 q123; cases e123; replace hx123_0 := (HB.out.cell (World.block_lt_of_cell? w _ hx123_0)).trans hx123_0; replace hx123_1 := (HB.out.cell (World.block_lt_of_cell? w _ hx123_1)).trans hx123_1; replace hx123_2 := (HB.out.cell (World.block_lt_of_cell? w _ hx123_2)).trans hx123_2; replace hx123_3 := (HB.out.cell (World.block_lt_of_cell? w _ hx123_3)).trans hx123_3; replace p123 := eq_true p123; replace q123 := eq_true q123; have hcz12_0 : w11.cell? ⟨gb121, 0, none⟩ = some (.int .i64 0) := (blk_cell BK121.out 0).trans rfl; have hcz12_1 : w11.cell? ⟨gb121, 1, none⟩ = some (.int .i64 0) := (blk_cell BK121.out 1).trans rfl; have hcz12_2 : w11.cell? ⟨gb121, 2, none⟩ = some (.int .i64 0) := (blk_cell BK121.out 2).trans rfl; have hcz12_3 : w11.cell? ⟨gb121, 3, none⟩ = some (.bool false) := (blk_cell BK121.out 3).trans rfl; have hfz12_0 := blk_frozen BK121.out 0; have hfz12_1 := blk_frozen BK121.out 1; have hfz12_2 := blk_frozen BK121.out 2; have hfz12_3 := blk_frozen BK121.out 3))
        refine bodyPost_ret (results_ct rfl _ _ gb121 36 #[.int .i64 ((rd_T36 l0 t122).f0), .int .i64 ((rd_T36 l0 t122).f1), .int .i64 ((rd_T36 l0 t122).f2), .bool ((rd_T36 l0 t122).f3)] (0, 0) _ rfl (by (with_reducible repeat (first | refine blk_drewN ?_ _ | refine blk_drew ?_ | refine blk_alloc ?_ _)); refine blk_put (cs := #[.int .i64 ((rd_T36 l0 t122).f0), .int .i64 ((rd_T36 l0 t122).f1), .int .i64 ((rd_T36 l0 t122).f2), .bool false]) ?_ 3 _ rfl; (with_reducible repeat (first | refine blk_drewN ?_ _ | refine blk_drew ?_ | refine blk_alloc ?_ _)); refine blk_put (cs := #[.int .i64 ((rd_T36 l0 t122).f0), .int .i64 ((rd_T36 l0 t122).f1), .int .i64 0, .bool false]) ?_ 2 _ rfl; (with_reducible repeat (first | refine blk_drewN ?_ _ | refine blk_drew ?_ | refine blk_alloc ?_ _)); refine blk_put (cs := #[.int .i64 ((rd_T36 l0 t122).f0), .int .i64 0, .int .i64 0, .bool false]) ?_ 1 _ rfl; (with_reducible repeat (first | refine blk_drewN ?_ _ | refine blk_drew ?_ | refine blk_alloc ?_ _)); refine blk_put (cs := #[.int .i64 0, .int .i64 0, .int .i64 0, .bool false]) ?_ 0 _ rfl; (with_reducible repeat (first | refine blk_drewN ?_ _ | refine blk_drew ?_ | refine blk_alloc ?_ _)); exact BK121.out) Try.underlying36 rfl (by kernel_rfl)) rfl ?_
        exact ⟨by first | rfl | (simp [errW_none, errW_some] <;> rfl) | (simp [*, errW_none, errW_some] <;> rfl), by repeat (first | (with_reducible first | exact HB.out | apply below_alloc | apply pw_below_drewN | apply below_drew1 | refine below_set ?_ GE121.out) | exact HB.out)⟩
      · rw [if_neg c9] at H
        exact absurd H (by simp)
    · rw [if_neg c8] at H
      exact absurd H (by simp)

/-! ### fuglemanref16_Find: function 14 -/
def fuglemanref16_Find.l0 : Nat → List (S36) → Int → Int → Option (Int × Int × Int × Bool × Bool)
  | 0, _, _, _ => none
  | k + 1, x0, x1, x6 => if x6 < (x0.length : Int) then (if 0 ≤ x6 then (if ((rd_T36 x0 x6).f0) = x1 then (some ((rd_T36 x0 x6).f0, (rd_T36 x0 x6).f1, (rd_T36 x0 x6).f2, (rd_T36 x0 x6).f3, true)) else (fuglemanref16_Find.l0 k x0 x1 (wrap64 (x6 + 1)))) else (none)) else (some (0, 0, 0, false, false))
def fuglemanref16_Find.f (k : Nat) (l0 : List (S36)) (a1 : Int) : Option (Int × Int × Int × Bool × Bool) := fuglemanref16_Find.l0 k l0 a1 0
theorem fuglemanref16_Find.mono_l : ∀ k, (∀ y0 y1 y2, LeO (fuglemanref16_Find.l0 k y0 y1 y2) (fuglemanref16_Find.l0 (k + 1) y0 y1 y2))
  | 0 => fun _ _ _ r h => by simp [fuglemanref16_Find.l0] at h
  | k + 1 => by
    have ih0 := fuglemanref16_Find.mono_l k
    · intro y0 y1 y2
      unfold fuglemanref16_Find.l0
      repeat' first
      | (with_reducible exact ih0 _ _ _)
      | (with_reducible exact LeO.refl _)
      | (with_reducible exact LeO.none _)
      | (with_reducible refine LeO.ite ?_ ?_)
      | (with_reducible refine LeO.bind ?_ (fun _ => ?_))
      | exact ih0 _ _ _
      | exact LeO.none _
      | refine LeO.ite ?_ ?_
      | refine LeO.bind ?_ (fun _ => ?_)
theorem fuglemanref16_Find.mono : ∀ a0 a1 k, LeO (fuglemanref16_Find.f k a0 a1) (fuglemanref16_Find.f (k + 1) a0 a1) := by
  intro a0 a1 k
  have ih0 := fuglemanref16_Find.mono_l k
  unfold fuglemanref16_Find.f
  repeat' first
      | (with_reducible exact ih0 _ _ _)
      | (with_reducible exact LeO.refl _)
      | (with_reducible exact LeO.none _)
      | (with_reducible refine LeO.ite ?_ ?_)
      | (with_reducible refine LeO.bind ?_ (fun _ => ?_))
      | exact ih0 _ _ _
      | exact LeO.none _
      | refine LeO.ite ?_ ?_
      | refine LeO.bind ?_ (fun _ => ?_)
set_option maxHeartbeats 8000000 in
set_option maxRecDepth 100000 in
theorem fuglemanref16_Find.calls (k : Nat) (A0 : Option Addr) (c0 : Nat) (l0 : List (S36)) (a1 : Int) (r1 : Int) (r2 : Int) (r3 : Int) (r4 : Bool) (r5 : Bool) (w : World) (hr0 : Kd.C k36 w A0 l0.length l0) (hc0 : l0.length ≤ c0) (h : fuglemanref16_Find.f k l0 a1 = some (r1, r2, r3, r4, r5)) :
    Calls Try.prog 14 #[.slice A0 l0.length c0, .int .i64 a1] w fun e w' => e = .returned (.tuple #[.agg #[.int .i64 r1, .int .i64 r2, .int .i64 r3, .bool r4], .bool r5]) ∧ Below w.heap.size w w' := by
  have hu36 := Try.underlying36
  have HR0 := Aside0.mk hr0
  have HC0 := Aside0.mk hc0
  clear hr0 hc0
  have HB := Aside0.mk (Below.refl w.heap.size w)
  have H : (fuglemanref16_Find.l0 k l0 a1 0) = some (r1, r2, r3, r4, r5) := h
  clear h
  have H' := Aside0.mk H
  clear H
  go_enter Try.func14, Try.ntmps14
  go_wp2_with (first | ((with_reducible refine gate_dst (N := 4) rfl ?_); refine box_event ?hg (N := 4) ?hd (cs := #[.int .i64 0, .int .i64 0, .int .i64 0, .bool false]) (t := 36) ?hr ?_; (case hd => rfl); (case hg => rfl); (case hr => first | (go_simp; done) | (go_simp; rfl)); intro gb124 hg w3 hbox hb; have n0_ := Aside0.mk (below_step (by repeat (first | (with_reducible first | exact HB.out | apply below_alloc | apply pw_below_drewN | apply below_drew1) | exact HB.out)) hb); have n1_ := Aside0.mk (hbox); have n2_ := Aside0.mk ((by rw [hg]; exact (below_size (by repeat (first | (with_reducible first | exact HB.out | apply below_alloc | apply pw_below_drewN | apply below_drew1) | exact HB.out))) : w.heap.size ≤ gb124)); have n3_ := Aside0.mk ((by rw [hg]; exact (below_size (by repeat (first | (with_reducible first | exact HB.out | apply below_alloc | apply pw_below_drewN | apply below_drew1) | exact HB.out))) : w.heap.size ≤ gb124)); clear HB; have HB := n0_; have BK124 := n1_; have GW124 := n2_; have GE124 := n3_; clear n0_ n1_ n2_ n3_; clear hb hbox hg))
  go_loopg [6] k (fun kq v6 w' => ∃ (x6_1 : Int) (x125000_1 : Int) (x125001_1 : Int) (x125002_1 : Int) (x125003_1 : Bool), v6 = .int .i64 x6_1 ∧ Aside0 (fuglemanref16_Find.l0 kq l0 a1 x6_1 = some (r1, r2, r3, r4, r5)) ∧ Aside0 (kq ≤ k) ∧ Aside0 (w'.heap[gb124]? = some (.cells #[.int .i64 x125000_1, .int .i64 x125001_1, .int .i64 x125002_1, .bool x125003_1] 36 (0, 0))) ∧ Aside0 (Below w.heap.size w w'))
  case atStart => exact ⟨(0), (0), (0), (0), (false), (by first | rfl | (simp; done) | (simp [*]; done)), H', ⟨Nat.le_refl _⟩, ⟨by (with_reducible repeat (first | refine blk_drewN ?_ _ | refine blk_drew ?_ | refine blk_alloc ?_ _)); exact BK124.out⟩, ⟨by repeat (first | (with_reducible first | exact HB.out | apply below_alloc | apply pw_below_drewN | apply below_drew1 | refine below_set ?_ GE124.out) | exact HB.out)⟩⟩
  case round =>
    clear H'
    try clear c1
    try clear p2
    obtain ⟨x6_1, x125000_1, x125001_1, x125002_1, x125003_1, rfl, HA, HK1, BK124, HB⟩ := hrel
    cases gk with
    | zero => exact absurd HA.out (by simp [fuglemanref16_Find.l0])
    | succ k1 =>
      have H := HA.out
      clear HA
      simp only [fuglemanref16_Find.l0] at H
      by_cases c4 : x6_1 < (l0.length : Int)
      · rw [if_pos c4] at H
        have c4b0 : decide (x6_1 < (l0.length : Int)) = true := decide_eq_true c4
        clear c4
        by_cases c5 : 0 ≤ x6_1
        · rw [if_pos c5] at H
          have c5b0 : decide (0 ≤ x6_1) = true := decide_eq_true c5
          clear c5
          by_cases c6 : ((rd_T36 l0 x6_1).f0) = a1
          · rw [if_pos c6] at H
            have c6b0 : (((rd_T36 l0 x6_1).f0) == a1) = true := beq_iff_eq.mpr c6
            have c6b1 : (((rd_T36 l0 x6_1).f0) != a1) = false := bne_eq_false_iff_eq.mpr c6
            clear c6
            simp only [Option.some.injEq, Prod.mk.injEq] at H
            obtain ⟨rfl, rfl, rfl, rfl, rfl⟩ := H
            have p125 : 0 ≤ (x6_1 : Int) := of_decide_eq_true (by first | (with_reducible assumption) | assumption)
            have q125 : x6_1 < (l0.length : Int) := of_decide_eq_true (by first | (with_reducible assumption) | assumption)
            obtain ⟨ad125, e125, hx125_0, hx125_1, hx125_2, hx125_3⟩ := at_T36 HR0.out x6_1 p125 q125
            cases e125
            replace hx125_0 := (HB.out.cell (World.block_lt_of_cell? w _ hx125_0)).trans hx125_0
            replace hx125_1 := (HB.out.cell (World.block_lt_of_cell? w _ hx125_1)).trans hx125_1
            replace hx125_2 := (HB.out.cell (World.block_lt_of_cell? w _ hx125_2)).trans hx125_2
            replace hx125_3 := (HB.out.cell (World.block_lt_of_cell? w _ hx125_3)).trans hx125_3
            replace p125 := eq_true p125
            replace q125 := eq_true q125
            have p126 : 0 ≤ (x6_1 : Int) := of_decide_eq_true (by first | (with_reducible assumption) | assumption)
            have q126 : x6_1 < (l0.length : Int) := of_decide_eq_true (by first | (with_reducible assumption) | assumption)
            obtain ⟨ad126, e126, hx126_0, hx126_1, hx126_2, hx126_3⟩ := at_T36 HR0.out x6_1 p126 q126
            obtain rfl : ad125 = ad126 := (by injection e126)
            replace hx126_0 := (HB.out.cell (World.block_lt_of_cell? w _ hx126_0)).trans hx126_0
            replace hx126_1 := (HB.out.cell (World.block_lt_of_cell? w _ hx126_1)).trans hx126_1
            replace hx126_2 := (HB.out.cell (World.block_lt_of_cell? w _ hx126_2)).trans hx126_2
            replace hx126_3 := (HB.out.cell (World.block_lt_of_cell? w _ hx126_3)).trans hx126_3
            replace p126 := eq_true p126
            replace q126 := eq_true q126
            have hcz7_0 : wr.cell? ⟨gb124, 0, none⟩ = some (.int .i64 x125000_1) := (blk_cell BK124.out 0).trans rfl
            have hcz7_1 : wr.cell? ⟨gb124, 1, none⟩ = some (.int .i64 x125001_1) := (blk_cell BK124.out 1).trans rfl
            have hcz7_2 : wr.cell? ⟨gb124, 2, none⟩ = some (.int .i64 x125002_1) := (blk_cell BK124.out 2).trans rfl
            have hcz7_3 : wr.cell? ⟨gb124, 3, none⟩ = some (.bool x125003_1) := (blk_cell BK124.out 3).trans rfl
            have hfz7_0 := blk_frozen BK124.out 0
            have hfz7_1 := blk_frozen BK124.out 1
            have hfz7_2 := blk_frozen BK124.out 2
            have hfz7_3 := blk_frozen BK124.out 3
            go_wp2
            refine bodyPost_ret (results_ct rfl _ _ gb124 36 #[.int .i64 ((rd_T36 l0 x6_1).f0), .int .i64 ((rd_T36 l0 x6_1).f1), .int .i64 ((rd_T36 l0 x6_1).f2), .bool ((rd_T36 l0 x6_1).f3)] (0, 0) _ rfl (by (with_reducible repeat (first | refine blk_drewN ?_ _ | refine blk_drew ?_ | refine blk_alloc ?_ _)); refine blk_put (cs := #[.int .i64 ((rd_T36 l0 x6_1).f0), .int .i64 ((rd_T36 l0 x6_1).f1), .int .i64 ((rd_T36 l0 x6_1).f2), .bool x125003_1]) ?_ 3 _ rfl; (with_reducible repeat (first | refine blk_drewN ?_ _ | refine blk_drew ?_ | refine blk_alloc ?_ _)); refine blk_put (cs := #[.int .i64 ((rd_T36 l0 x6_1).f0), .int .i64 ((rd_T36 l0 x6_1).f1), .int .i64 x125002_1, .bool x125003_1]) ?_ 2 _ rfl; (with_reducible repeat (first | refine blk_drewN ?_ _ | refine blk_drew ?_ | refine blk_alloc ?_ _)); refine blk_put (cs := #[.int .i64 ((rd_T36 l0 x6_1).f0), .int .i64 x125001_1, .int .i64 x125002_1, .bool x125003_1]) ?_ 1 _ rfl; (with_reducible repeat (first | refine blk_drewN ?_ _ | refine blk_drew ?_ | refine blk_alloc ?_ _)); refine blk_put (cs := #[.int .i64 x125000_1, .int .i64 x125001_1, .int .i64 x125002_1, .bool x125003_1]) ?_ 0 _ rfl; (with_reducible repeat (first | refine blk_drewN ?_ _ | refine blk_drew ?_ | refine blk_alloc ?_ _)); exact BK124.out) Try.underlying36 rfl (by kernel_rfl)) rfl ?_
            exact ⟨by first | rfl | (simp [errW_none, errW_some] <;> rfl) | (simp [*, errW_none, errW_some] <;> rfl), by repeat (first | (with_reducible first | exact HB.out | apply below_alloc | apply pw_below_drewN | apply below_drew1 | refine below_set ?_ GE124.out) | exact HB.out)⟩
          · rw [if_neg c6] at H
            have c6b0 : (((rd_T36 l0 x6_1).f0) == a1) = false := beq_eq_false_iff_ne.mpr c6
            have c6b1 : (((rd_T36 l0 x6_1).f0) != a1) = true := bne_iff_ne.mpr c6
            have H' := Aside0.mk H
            clear H
            have p125 : 0 ≤ (x6_1 : Int) := of_decide_eq_true (by first | (with_reducible assumption) | assumption)
            have q125 : x6_1 < (l0.length : Int) := of_decide_eq_true (by first | (with_reducible assumption) | assumption)
            obtain ⟨ad125, e125, hx125_0, hx125_1, hx125_2, hx125_3⟩ := at_T36 HR0.out x6_1 p125 q125
            cases e125
            replace hx125_0 := (HB.out.cell (World.block_lt_of_cell? w _ hx125_0)).trans hx125_0
            replace hx125_1 := (HB.out.cell (World.block_lt_of_cell? w _ hx125_1)).trans hx125_1
            replace hx125_2 := (HB.out.cell (World.block_lt_of_cell? w _ hx125_2)).trans hx125_2
            replace hx125_3 := (HB.out.cell (World.block_lt_of_cell? w _ hx125_3)).trans hx125_3
            replace p125 := eq_true p125
            replace q125 := eq_true q125
            go_wp2
            go_roundg k1
            case measure => have := HK1.out; omega
            case rel => exact ⟨(wrap64 (x6_1 + 1)), (x125000_1), (x125001_1), (x125002_1), (x125003_1), (by first | rfl | (simp; done) | (simp [*]; done)), H', ⟨by have := HK1.out; omega⟩, ⟨by (with_reducible repeat (first | refine blk_drewN ?_ _ | refine blk_drew ?_ | refine blk_alloc ?_ _)); exact BK124.out⟩, ⟨by repeat (first | (with_reducible first | exact HB.out | apply below_alloc | apply pw_below_drewN | apply below_drew1 | refine below_set ?_ GE124.out) | exact HB.out)⟩⟩
        · rw [if_neg c5] at H
          exact absurd H (by simp)
      · rw [if_neg c4] at H
        have c4b0 : decide (x6_1 < (l0.length : Int)) = false := decide_eq_false c4
        clear c4
        simp only [Option.some.injEq, Prod.mk.injEq] at H
        obtain ⟨rfl, rfl, rfl, rfl, rfl⟩ := H
        have hcz8_0 : wr.cell? ⟨gb124, 0, none⟩ = some (.int .i64 x125000_1) := (blk_cell BK124.out 0).trans rfl
        have hcz8_1 : wr.cell? ⟨gb124, 1, none⟩ = some (.int .i64 x125001_1) := (blk_cell BK124.out 1).trans rfl
        have hcz8_2 : wr.cell? ⟨gb124, 2, none⟩ = some (.int .i64 x125002_1) := (blk_cell BK124.out 2).trans rfl
        have hcz8_3 : wr.cell? ⟨gb124, 3, none⟩ = some (.bool x125003_1) := (blk_cell BK124.out 3).trans rfl
        have hfz8_0 := blk_frozen BK124.out 0
        have hfz8_1 := blk_frozen BK124.out 1
        have hfz8_2 := blk_frozen BK124.out 2
        have hfz8_3 := blk_frozen BK124.out 3
        go_wp2
        refine bodyPost_ret (results_ct rfl _ _ gb124 36 #[.int .i64 0, .int .i64 0, .int .i64 0, .bool false] (0, 0) _ rfl (by (with_reducible repeat (first | refine blk_drewN ?_ _ | refine blk_drew ?_ | refine blk_alloc ?_ _)); refine blk_put (cs := #[.int .i64 0, .int .i64 0, .int .i64 0, .bool x125003_1]) ?_ 3 _ rfl; (with_reducible repeat (first | refine blk_drewN ?_ _ | refine blk_drew ?_ | refine blk_alloc ?_ _)); refine blk_put (cs := #[.int .i64 0, .int .i64 0, .int .i64 x125002_1, .bool x125003_1]) ?_ 2 _ rfl; (with_reducible repeat (first | refine blk_drewN ?_ _ | refine blk_drew ?_ | refine blk_alloc ?_ _)); refine blk_put (cs := #[.int .i64 0, .int .i64 x125001_1, .int .i64 x125002_1, .bool x125003_1]) ?_ 1 _ rfl; (with_reducible repeat (first | refine blk_drewN ?_ _ | refine blk_drew ?_ | refine blk_alloc ?_ _)); refine blk_put (cs := #[.int .i64 x125000_1, .int .i64 x125001_1, .int .i64 x125002_1, .bool x125003_1]) ?_ 0 _ rfl; (with_reducible repeat (first | refine blk_drewN ?_ _ | refine blk_drew ?_ | refine blk_alloc ?_ _)); exact BK124.out) Try.underlying36 rfl (by kernel_rfl)) rfl ?_
        exact ⟨by first | rfl | (simp [errW_none, errW_some] <;> rfl) | (simp [*, errW_none, errW_some] <;> rfl), by repeat (first | (with_reducible first | exact HB.out | apply below_alloc | apply pw_below_drewN | apply below_drew1 | refine below_set ?_ GE124.out) | exact HB.out)⟩

end Go.Proofs.Ytalafpnpgigppaa.PBlocksLists
