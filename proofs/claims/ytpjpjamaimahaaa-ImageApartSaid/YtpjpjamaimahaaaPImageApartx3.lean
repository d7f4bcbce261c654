/- A part of a proof: functions of the program as functions over numbers and lists, and that the program's calls answer as these do. Written by a program for this claim. -/
import Derived.Test.YtpjpjamaimahaaaPImageApartx0
import Derived.Test.YtpjpjamaimahaaaPImageApartx1
import Derived.Test.YtpjpjamaimahaaaPImageApartx2
import Derived.Test.YtpjpjamaimahaaaCopy
namespace Go.Proofs.Ytpjpjamaimahaaa.PImageApart
open Go.RowKit Go.Proofs.YtpjpjamaimahaaaW.PrintWords Go.Proofs.YtpjpjamaimahaaaW.PrintLast Go.Proofs.YtpjpjamaimahaaaW.PrintMore
attribute [local go_sem] max2_int min2_int max_two min_two max_three min_three max_four min_four   -- for this text's walks alone
set_option linter.unusedVariables false
set_option linter.unusedSimpArgs false

/-! ### image_Value: function 11 -/
def image_Value.f (k : Nat) (a0 : ByteArray) (a1 : Int) (a2 : Int) : Option (ByteArray) := if -9223372036854775808 ≤ a1 ∧ a1 ≤ 9223372036854775807 ∧ a0.size ≤ 9223372036854775807 then some (strOfNums (image_put.S (List.replicate (mn (mx a2 0) 64).toNat 0) (-a1) a0)) else none
theorem image_Value.mono : ∀ a0 a1 a2 k, LeO (image_Value.f k a0 a1 a2) (image_Value.f (k + 1) a0 a1 a2) := fun _ _ _ _ => LeO.refl _
theorem image_Value.form {W : World} {base e : Nat} {ok : Nat → Prop} {v : Value} {xs : List Int} (h : (Kd.int .u8).R e W base ok v xs) (hb : ∃ b, v.ownBlock = some b ∧ W.heap.size ≤ b ∨ v.ownBlock = some b) : ∃ g cap, v = .slice (some ⟨g, 0, none⟩) xs.length cap := by
  obtain ⟨inner, ho⟩ := Kd.R_own h
  rcases ho.2 with ⟨rfl, _⟩ | ⟨g, cap, cur, rfl, _⟩
  · obtain ⟨b, hb⟩ := hb
    simp [Value.ownBlock] at hb
  · exact ⟨g, cap, rfl⟩

set_option maxHeartbeats 2000000 in
set_option maxRecDepth 100000 in
theorem image_Value.calls (k : Nat) (a0 : ByteArray) (a1 : Int) (a2 : Int) (r : ByteArray) (w : World) (h : image_Value.f k a0 a1 a2 = some r) :
    Calls Try.prog 11 #[.string a0, .int .i64 a1, .int .i64 a2] w fun e w' => e = .returned (.string r) ∧ Below w.heap.size w w' := by
  unfold image_Value.f at h
  by_cases hbd : -9223372036854775808 ≤ a1 ∧ a1 ≤ 9223372036854775807 ∧ a0.size ≤ 9223372036854775807
  · rw [if_pos hbd] at h
    obtain rfl := Option.some.inj h
    clear h
    have HB := Aside0.mk (Below.refl w.heap.size w)
    obtain ⟨j4, hj4⟩ : ∃ j : Int, mx a2 0 = j := ⟨_, rfl⟩
    have hj4_ : (if a2 < 0 then 0 else a2) = j4 := hj4
    obtain ⟨n, hn⟩ : ∃ n : Nat, mn j4 64 = (n : Int) := Int.eq_ofNat_of_zero_le (by subst hj4; unfold mn mx; (repeat' split) <;> omega)
    have hn64 : n ≤ 64 := by
      have : mn j4 64 ≤ 64 := by unfold mn; split <;> omega
      omega
    have hn_ : (if 64 < j4 then 64 else j4) = (n : Int) := hn
    have hL : List.replicate (mn (mx a2 0) 64).toNat (0 : Int) = List.replicate n 0 := by rw [hj4, hn]; rfl
    rw [hL]
    clear hL hj4 hn
    obtain ⟨Y, hY⟩ : ∃ Y : List Int, Y = List.replicate n 0 := ⟨_, rfl⟩
    rw [← hY]
    have NY := Aside0.mk hY
    have hYl : Y.length = n := by rw [hY, List.length_replicate]
    have NL := Aside0.mk hYl
    have hYn : (Y.length : Int) = (n : Int) := by rw [hYl]
    clear hY hYl
    have hn0 : decide (0 ≤ ((n : Nat) : Int)) = true := decide_eq_true (by omega)
    by_cases n1 : a1 ≥ (a0.size : Int)
    · have e : image_put.S Y (-a1) a0 = Y := image_put.S_none _ _ _ (fun i hi hx => by rw [NL.out] at hi; omega)
      rw [e]
      have b1 : decide ((a0.size : Int) ≤ a1) = true := decide_eq_true n1
      clear e n1 hbd
      go_enter Try.func11, Try.ntmps11
      go_wp2_with (first | ((with_reducible refine gate_dst (N := 12) rfl ?_); (try (refine gate_guard (by rfl) ?_; dsimp only)); refine Kd.R_make (Kd.int .u8) _ 5 rfl (N := 12) rfl 37 _ _ rfl (n : Int) rfl rfl Try.underlying37 (.int .u8 0) 1 info5 rfl (by decide) (by omega) 0 (ok := fun _ => True) (okp := fun _ => True) rfl (fun _ hk => hk) trivial (by omega) (by omega) (Below.refl _ _) (Nat.le_refl _) ?_; intro v1 w1 ho hb hg hnew; rw [show List.replicate ((n : Nat) : Int).toNat (0 : Int) = Y from NY.out.symm] at ho; obtain ⟨g, cap, rfl⟩ := image_Value.form ho (by obtain ⟨b, h1, h2⟩ := hnew; exact ⟨b, .inr h1⟩); have HR := Aside0.mk ho; have hcl : Y.length ≤ cap := (Kd.R_reads' ho).2.1; have HB1 := Aside0.mk (below_step HB.out hb); have HG := Aside0.mk (show w.heap.size ≤ g from by obtain ⟨b, h1, h2⟩ := hnew; simp [Value.ownBlock] at h1; omega); clear ho hb hg hnew; have hcv := own_string (P := Try.prog) Try.underlying37 Try.underlying5 Try.underlying9 (Kd.own_of_R HR.out)))
      go_ret
      exact ⟨rfl, HB1.out⟩
    · have b1 : decide ((a0.size : Int) ≤ a1) = false := decide_eq_false n1
      by_cases n2 : a1 ≤ -(n : Int)
      · have e : image_put.S Y (-a1) a0 = Y := image_put.S_none _ _ _ (fun i hi hx => by rw [NL.out] at hi; omega)
        rw [e]
        have b2 : decide (a1 ≤ -(n : Int)) = true := decide_eq_true n2
        clear e n1 n2 hbd
        go_enter Try.func11, Try.ntmps11
        go_wp2_with (first | ((with_reducible refine gate_dst (N := 12) rfl ?_); (try (refine gate_guard (by rfl) ?_; dsimp only)); refine Kd.R_make (Kd.int .u8) _ 5 rfl (N := 12) rfl 37 _ _ rfl (n : Int) rfl rfl Try.underlying37 (.int .u8 0) 1 info5 rfl (by decide) (by omega) 0 (ok := fun _ => True) (okp := fun _ => True) rfl (fun _ hk => hk) trivial (by omega) (by omega) (Below.refl _ _) (Nat.le_refl _) ?_; intro v1 w1 ho hb hg hnew; rw [show List.replicate ((n : Nat) : Int).toNat (0 : Int) = Y from NY.out.symm] at ho; obtain ⟨g, cap, rfl⟩ := image_Value.form ho (by obtain ⟨b, h1, h2⟩ := hnew; exact ⟨b, .inr h1⟩); have HR := Aside0.mk ho; have hcl : Y.length ≤ cap := (Kd.R_reads' ho).2.1; have HB1 := Aside0.mk (below_step HB.out hb); have HG := Aside0.mk (show w.heap.size ≤ g from by obtain ⟨b, h1, h2⟩ := hnew; simp [Value.ownBlock] at h1; omega); clear ho hb hg hnew; have hcv := own_string (P := Try.prog) Try.underlying37 Try.underlying5 Try.underlying9 (Kd.own_of_R HR.out)))
        go_ret
        exact ⟨rfl, HB1.out⟩
      · have b2 : decide (a1 ≤ -(n : Int)) = false := decide_eq_false n2
        by_cases n3 : a1 < 0
        · obtain ⟨o, ho⟩ := Int.eq_ofNat_of_zero_le (show 0 ≤ -a1 by omega)
          obtain rfl : a1 = -(o : Int) := by omega
          have hon : o < n := by omega
          have b3 : decide (-(o : Int) < 0) = true := decide_eq_true n3
          have hneg : IntKind.i64.wrap (- -(o : Int)) = (o : Int) := by rw [ho]; exact (i64_w _).trans (by unfold wrap64; omega)
          have hoY : ((o : Nat) : Int) ≤ (Y.length : Int) := by rw [hYn]; omega
          have hoo : 0 ≤ ((o : Nat) : Int) := by omega
          have ho0 : 0 < o := by omega
          have hoL : o < Y.length := by rw [NL.out]; omega
          rw [ho]
          clear n1 n2 n3 ho hbd
          have ha2 : 0 < a2 := by
            rcases Int.lt_or_le 0 a2 with h | h
            · exact h
            · exfalso; have hj : j4 = 0 := by rw [← hj4_]; split <;> omega
              rw [hj] at hn_; rw [if_neg (by omega)] at hn_; omega
          by_cases hbig : 64 < a2
          · obtain rfl : n = 64 := by
              have hj : j4 = a2 := by rw [← hj4_, if_neg (by omega)]
              rw [hj, if_pos hbig] at hn_; omega
            clear hj4_ hn_
            go_enter Try.func11, Try.ntmps11
            go_wp2_with (first | ((with_reducible refine gate_dst (N := 12) rfl ?_); (try (refine gate_guard (by rfl) ?_; dsimp only)); refine Kd.R_make (Kd.int .u8) _ 5 rfl (N := 12) rfl 37 _ _ rfl (64 : Int) rfl rfl Try.underlying37 (.int .u8 0) 1 info5 rfl (by decide) (by omega) 0 (ok := fun _ => True) (okp := fun _ => True) rfl (fun _ hk => hk) trivial (by omega) (by omega) (Below.refl _ _) (Nat.le_refl _) ?_; intro v1 w1 ho hb hg hnew; rw [show List.replicate ((64 : Int)).toNat (0 : Int) = Y from NY.out.symm] at ho; obtain ⟨g, cap, rfl⟩ := image_Value.form ho (by obtain ⟨b, h1, h2⟩ := hnew; exact ⟨b, .inr h1⟩); have HR := Aside0.mk ho; have hcl : Y.length ≤ cap := (Kd.R_reads' ho).2.1; have HB1 := Aside0.mk (below_step HB.out hb); have HG := Aside0.mk (show w.heap.size ≤ g from by obtain ⟨b, h1, h2⟩ := hnew; simp [Value.ownBlock] at h1; omega); clear ho hb hg hnew))
            have hcopy := Go.Proofs.Ytpjpjamaimahaaa.Copy.R_copy (P := Try.prog) HR.out o (Nat.le_of_lt hoL) a0
            rw [image_put.S_copy Y o a0 (Nat.le_of_lt hoL)] at hcopy
            obtain ⟨w2, hrun0, hR2, hgr⟩ := hcopy
            have hrun := hrun0 37 9 3 5 (cap - o) Try.underlying37 (by kernel_rfl)
            have HR2 := Aside0.mk hR2
            have HB2 := Aside0.mk (pw_below_grown HB1.out (some g) HB1.out.size hgr (fun k hk => by cases hk; exact HG.out))
            clear hrun0 hR2 hgr
            have hcv := own_string (P := Try.prog) Try.underlying37 Try.underlying5 Try.underlying9 (Kd.own_of_R HR2.out)
            rw [hrun]
            go_wp2
            go_ret
            exact ⟨rfl, HB2.out⟩
          · obtain rfl : a2 = (n : Int) := by
              have hj : j4 = a2 := by rw [← hj4_, if_neg (by omega)]
              rw [hj, if_neg hbig] at hn_; exact hn_
            clear hj4_ hn_
            go_enter Try.func11, Try.ntmps11
            go_wp2_with (first | ((with_reducible refine gate_dst (N := 12) rfl ?_); (try (refine gate_guard (by rfl) ?_; dsimp only)); refine Kd.R_make (Kd.int .u8) _ 5 rfl (N := 12) rfl 37 _ _ rfl (n : Int) rfl rfl Try.underlying37 (.int .u8 0) 1 info5 rfl (by decide) (by omega) 0 (ok := fun _ => True) (okp := fun _ => True) rfl (fun _ hk => hk) trivial (by omega) (by omega) (Below.refl _ _) (Nat.le_refl _) ?_; intro v1 w1 ho hb hg hnew; rw [show List.replicate ((n : Int)).toNat (0 : Int) = Y from NY.out.symm] at ho; obtain ⟨g, cap, rfl⟩ := image_Value.form ho (by obtain ⟨b, h1, h2⟩ := hnew; exact ⟨b, .inr h1⟩); have HR := Aside0.mk ho; have hcl : Y.length ≤ cap := (Kd.R_reads' ho).2.1; have HB1 := Aside0.mk (below_step HB.out hb); have HG := Aside0.mk (show w.heap.size ≤ g from by obtain ⟨b, h1, h2⟩ := hnew; simp [Value.ownBlock] at h1; omega); clear ho hb hg hnew))
            have hcopy := Go.Proofs.Ytpjpjamaimahaaa.Copy.R_copy (P := Try.prog) HR.out o (Nat.le_of_lt hoL) a0
            rw [image_put.S_copy Y o a0 (Nat.le_of_lt hoL)] at hcopy
            obtain ⟨w2, hrun0, hR2, hgr⟩ := hcopy
            have hrun := hrun0 37 9 3 5 (cap - o) Try.underlying37 (by kernel_rfl)
            have HR2 := Aside0.mk hR2
            have HB2 := Aside0.mk (pw_below_grown HB1.out (some g) HB1.out.size hgr (fun k hk => by cases hk; exact HG.out))
            clear hrun0 hR2 hgr
            have hcv := own_string (P := Try.prog) Try.underlying37 Try.underlying5 Try.underlying9 (Kd.own_of_R HR2.out)
            rw [hrun]
            go_wp2
            go_ret
            exact ⟨rfl, HB2.out⟩
        · obtain ⟨o, rfl⟩ := Int.eq_ofNat_of_zero_le (show 0 ≤ a1 by omega)
          have hos : o < a0.size := by omega
          have b3 : decide (((o : Nat) : Int) < 0) = false := decide_eq_false n3
          have hm1 : 0 ≤ ((o : Nat) : Int) := by omega
          have hm2 : ((o : Nat) : Int) ≤ (a0.size : Int) := by omega
          rw [← image_put.S_low Y o a0 hos]
          clear n1 n2 n3 hbd
          by_cases hbig : 64 < a2
          · obtain rfl : n = 64 := by
              have hj : j4 = a2 := by rw [← hj4_, if_neg (by omega)]
              rw [hj, if_pos hbig] at hn_; omega
            clear hj4_ hn_
            go_enter Try.func11, Try.ntmps11
            go_wp2_with (first | ((with_reducible refine gate_dst (N := 12) rfl ?_); (try (refine gate_guard (by rfl) ?_; dsimp only)); refine Kd.R_make (Kd.int .u8) _ 5 rfl (N := 12) rfl 37 _ _ rfl (64 : Int) rfl rfl Try.underlying37 (.int .u8 0) 1 info5 rfl (by decide) (by omega) 0 (ok := fun _ => True) (okp := fun _ => True) rfl (fun _ hk => hk) trivial (by omega) (by omega) (Below.refl _ _) (Nat.le_refl _) ?_; intro v1 w1 ho hb hg hnew; rw [show List.replicate ((64 : Int)).toNat (0 : Int) = Y from NY.out.symm] at ho; obtain ⟨g, cap, rfl⟩ := image_Value.form ho (by obtain ⟨b, h1, h2⟩ := hnew; exact ⟨b, .inr h1⟩); have HR := Aside0.mk ho; have hcl : Y.length ≤ cap := (Kd.R_reads' ho).2.1; have HB1 := Aside0.mk (below_step HB.out hb); have HG := Aside0.mk (show w.heap.size ≤ g from by obtain ⟨b, h1, h2⟩ := hnew; simp [Value.ownBlock] at h1; omega); clear ho hb hg hnew))
            have hcopy := Go.Proofs.Ytpjpjamaimahaaa.Copy.R_copy (P := Try.prog) HR.out 0 (Nat.zero_le _) (a0.extract o a0.size)
            rw [image_put.S_copy Y 0 (a0.extract o a0.size) (Nat.zero_le _)] at hcopy
            obtain ⟨w2, hrun0, hR2, hgr⟩ := hcopy
            have hrun := hrun0 37 9 3 5 cap Try.underlying37 (by kernel_rfl)
            rw [Nat.sub_zero] at hrun
            have HR2 := Aside0.mk hR2
            have HB2 := Aside0.mk (pw_below_grown HB1.out (some g) HB1.out.size hgr (fun k hk => by cases hk; exact HG.out))
            clear hrun0 hR2 hgr
            have hcv := own_string (P := Try.prog) Try.underlying37 Try.underlying5 Try.underlying9 (Kd.own_of_R HR2.out)
            rw [hrun]
            go_wp2
            go_ret
            exact ⟨rfl, HB2.out⟩
          · by_cases hneg2 : a2 < 0
            · obtain rfl : n = 0 := by
                have hj : j4 = 0 := by rw [← hj4_, if_pos hneg2]
                rw [hj, if_neg (by omega)] at hn_; omega
              have ho0 : 0 < o := by have := of_decide_eq_false b2; omega
              clear hj4_ hn_
              go_enter Try.func11, Try.ntmps11
              go_wp2_with (first | ((with_reducible refine gate_dst (N := 12) rfl ?_); (try (refine gate_guard (by rfl) ?_; dsimp only)); refine Kd.R_make (Kd.int .u8) _ 5 rfl (N := 12) rfl 37 _ _ rfl (0 : Int) rfl rfl Try.underlying37 (.int .u8 0) 1 info5 rfl (by decide) (by omega) 0 (ok := fun _ => True) (okp := fun _ => True) rfl (fun _ hk => hk) trivial (by omega) (by omega) (Below.refl _ _) (Nat.le_refl _) ?_; intro v1 w1 ho hb hg hnew; rw [show List.replicate (0 : Int).toNat (0 : Int) = Y from NY.out.symm] at ho; obtain ⟨g, cap, rfl⟩ := image_Value.form ho (by obtain ⟨b, h1, h2⟩ := hnew; exact ⟨b, .inr h1⟩); have HR := Aside0.mk ho; have hcl : Y.length ≤ cap := (Kd.R_reads' ho).2.1; have HB1 := Aside0.mk (below_step HB.out hb); have HG := Aside0.mk (show w.heap.size ≤ g from by obtain ⟨b, h1, h2⟩ := hnew; simp [Value.ownBlock] at h1; omega); clear ho hb hg hnew))
              have hcopy := Go.Proofs.Ytpjpjamaimahaaa.Copy.R_copy (P := Try.prog) HR.out 0 (Nat.zero_le _) (a0.extract o a0.size)
              rw [image_put.S_copy Y 0 (a0.extract o a0.size) (Nat.zero_le _)] at hcopy
              obtain ⟨w2, hrun0, hR2, hgr⟩ := hcopy
              have hrun := hrun0 37 9 3 5 cap Try.underlying37 (by kernel_rfl)
              rw [Nat.sub_zero] at hrun
              have HR2 := Aside0.mk hR2
              have HB2 := Aside0.mk (pw_below_grown HB1.out (some g) HB1.out.size hgr (fun k hk => by cases hk; exact HG.out))
              clear hrun0 hR2 hgr
              have hcv := own_string (P := Try.prog) Try.underlying37 Try.underlying5 Try.underlying9 (Kd.own_of_R HR2.out)
              rw [hrun]
              go_wp2
              go_ret
              exact ⟨rfl, HB2.out⟩
            · obtain rfl : a2 = (n : Int) := by
                have hj : j4 = a2 := by rw [← hj4_, if_neg hneg2]
                rw [hj, if_neg hbig] at hn_; exact hn_
              clear hj4_ hn_
              go_enter Try.func11, Try.ntmps11
              go_wp2_with (first | ((with_reducible refine gate_dst (N := 12) rfl ?_); (try (refine gate_guard (by rfl) ?_; dsimp only)); refine Kd.R_make (Kd.int .u8) _ 5 rfl (N := 12) rfl 37 _ _ rfl (n : Int) rfl rfl Try.underlying37 (.int .u8 0) 1 info5 rfl (by decide) (by omega) 0 (ok := fun _ => True) (okp := fun _ => True) rfl (fun _ hk => hk) trivial (by omega) (by omega) (Below.refl _ _) (Nat.le_refl _) ?_; intro v1 w1 ho hb hg hnew; rw [show List.replicate ((n : Int)).toNat (0 : Int) = Y from NY.out.symm] at ho; obtain ⟨g, cap, rfl⟩ := image_Value.form ho (by obtain ⟨b, h1, h2⟩ := hnew; exact ⟨b, .inr h1⟩); have HR := Aside0.mk ho; have hcl : Y.length ≤ cap := (Kd.R_reads' ho).2.1; have HB1 := Aside0.mk (below_step HB.out hb); have HG := Aside0.mk (show w.heap.size ≤ g from by obtain ⟨b, h1, h2⟩ := hnew; simp [Value.ownBlock] at h1; omega); clear ho hb hg hnew))
              have hcopy := Go.Proofs.Ytpjpjamaimahaaa.Copy.R_copy (P := Try.prog) HR.out 0 (Nat.zero_le _) (a0.extract o a0.size)
              rw [image_put.S_copy Y 0 (a0.extract o a0.size) (Nat.zero_le _)] at hcopy
              obtain ⟨w2, hrun0, hR2, hgr⟩ := hcopy
              have hrun := hrun0 37 9 3 5 cap Try.underlying37 (by kernel_rfl)
              rw [Nat.sub_zero] at hrun
              have HR2 := Aside0.mk hR2
              have HB2 := Aside0.mk (pw_below_grown HB1.out (some g) HB1.out.size hgr (fun k hk => by cases hk; exact HG.out))
              clear hrun0 hR2 hgr
              have hcv := own_string (P := Try.prog) Try.underlying37 Try.underlying5 Try.underlying9 (Kd.own_of_R HR2.out)
              rw [hrun]
              go_wp2
              go_ret
              exact ⟨rfl, HB2.out⟩
  · rw [if_neg hbd] at h
    cases h

/-! ### image_Put: function 15 -/
theorem image_put.grown_refl (w : World) (r : Option Nat) : w.grownBy w r := ⟨rfl, rfl, rfl, Nat.le_refl _, fun _ _ _ => rfl⟩
set_option maxHeartbeats 2000000 in
set_option maxRecDepth 100000 in
theorem image_put.callsZ (g c : Nat) (l0 : List Int) (a1 : Int) (a2 : ByteArray) (w : World) (hmax : l0.length ≤ 9223372036854775807) (hlc : l0.length ≤ c) (hz : Go.Proofs.Ytpjpjamaimahaaa.Copy.RowZ w g 5 l0) (hbd : -9223372036854775808 ≤ a1 ∧ a1 ≤ 9223372036854775807 ∧ a2.size ≤ 9223372036854775807) :
    Calls Try.prog 16 #[.slice (some ⟨g, 0, none⟩) l0.length c, .int .i64 a1, .string a2] w fun e w' => e = .returned (.tuple #[]) ∧ Go.Proofs.Ytpjpjamaimahaaa.Copy.RowZ w' g 5 (image_put.S l0 a1 a2) ∧ w.grownBy w' (some g) := by
  have HR := Aside0.mk hz
  clear hz
  obtain ⟨hb1, hb2, hb3⟩ := hbd
  by_cases n1 : a1 < 0
  · have hw : wrap64 (-a1) = if a1 = -9223372036854775808 then -9223372036854775808 else -a1 := by
      unfold wrap64
      split <;> omega
    have b0 : decide (a1 < 0) = true := decide_eq_true n1
    by_cases n2 : wrap64 (-a1) < 0
    · have e : image_put.S l0 a1 a2 = l0 := image_put.S_none _ _ _ (fun i hi hx => by
        rw [hw] at n2
        split at n2 <;> omega)
      rw [e]
      have b1 : decide (wrap64 (-a1) < 0) = true := decide_eq_true n2
      clear hw n1 n2 e hb1 hb2
      go_enter Try.func16, Try.ntmps16
      go_wp2
      first | go_end0 | ((try simp only [Exit.inBlock, Exit.then]); refine bodyPost_ret (results_none rfl _ _ _) rfl ?_)
      exact ⟨rfl, HR.out, image_put.grown_refl _ _⟩
    · by_cases n3 : wrap64 (-a1) ≥ (a2.size : Int)
      · have e : image_put.S l0 a1 a2 = l0 := image_put.S_none _ _ _ (fun i hi hx => by
          rw [hw] at n2 n3
          split at n2 <;> omega)
        rw [e]
        have b1 : decide (wrap64 (-a1) < 0) = false := decide_eq_false n2
        have b2 : decide ((a2.size : Int) ≤ wrap64 (-a1)) = true := decide_eq_true n3
        clear hw n1 n2 n3 e hb1 hb2
        go_enter Try.func16, Try.ntmps16
        go_wp2
        first | go_end0 | ((try simp only [Exit.inBlock, Exit.then]); refine bodyPost_ret (results_none rfl _ _ _) rfl ?_)
        exact ⟨rfl, HR.out, image_put.grown_refl _ _⟩
      · obtain ⟨m, hm⟩ := Int.eq_ofNat_of_zero_le (show 0 ≤ wrap64 (-a1) by omega)
        have hma : a1 = -(m : Int) := by
          rw [hw] at hm n2
          split at hm <;> omega
        have hms : m < a2.size := by omega
        have b1 : decide (wrap64 (-a1) < 0) = false := decide_eq_false n2
        have b2 : decide ((a2.size : Int) ≤ wrap64 (-a1)) = false := decide_eq_false n3
        rw [hm] at b1 b2
        have hmw : IntKind.i64.wrap (-a1) = (m : Int) := (i64_w _).trans hm
        have hm1 : 0 ≤ ((m : Nat) : Int) := by omega
        have hm2 : ((m : Nat) : Int) ≤ (a2.size : Int) := by omega
        have hS : image_put.S l0 0 (a2.extract m a2.size) = image_put.S l0 a1 a2 := by
          rw [hma]
          exact image_put.S_low l0 m a2 hms
        rw [← hS]
        clear hS
        clear hw n1 n2 n3 hma hb1 hb2
        by_cases n5 : 0 < l0.length
        · have hcopy := Go.Proofs.Ytpjpjamaimahaaa.Copy.Z_copy (P := Try.prog) HR.out 0 (Nat.zero_le _) (a2.extract m a2.size)
          rw [image_put.S_copy _ _ _ (Nat.zero_le _)] at hcopy
          obtain ⟨w1, hrun0, hR1, hgr⟩ := hcopy
          have hrun := hrun0 37 9 3 5 c Try.underlying37 (by kernel_rfl)
          rw [Nat.sub_zero] at hrun
          have HR1 := Aside0.mk hR1
          have HG := Aside0.mk hgr
          clear hrun0 hR1 hgr
          have b4 : decide ((0 : Int) < (l0.length : Int)) = true := decide_eq_true (by omega)
          go_enter Try.func16, Try.ntmps16
          go_wp2
          first | go_end0 | ((try simp only [Exit.inBlock, Exit.then]); refine bodyPost_ret (results_none rfl _ _ _) rfl ?_)
          exact ⟨rfl, HR1.out, HG.out⟩
        · have e : image_put.S l0 0 (a2.extract m a2.size) = l0 := image_put.S_none _ _ _ (fun i hi hx => by omega)
          rw [e]
          have b4 : decide ((0 : Int) < (l0.length : Int)) = false := decide_eq_false (by omega)
          clear e
          go_enter Try.func16, Try.ntmps16
          go_wp2
          first | go_end0 | ((try simp only [Exit.inBlock, Exit.then]); refine bodyPost_ret (results_none rfl _ _ _) rfl ?_)
          exact ⟨rfl, HR.out, image_put.grown_refl _ _⟩
  · by_cases n4 : a1 < (l0.length : Int)
    · obtain ⟨o, rfl⟩ := Int.eq_ofNat_of_zero_le (show 0 ≤ a1 by omega)
      have b1 : decide (((o : Nat) : Int) < 0) = false := decide_eq_false n1
      have b2 : decide (((o : Nat) : Int) < (l0.length : Int)) = true := decide_eq_true n4
      have b3 : o < l0.length := by omega
      have hcopy := Go.Proofs.Ytpjpjamaimahaaa.Copy.Z_copy (P := Try.prog) HR.out o (Nat.le_of_lt b3) a2
      rw [image_put.S_copy _ _ _ (Nat.le_of_lt b3)] at hcopy
      obtain ⟨w1, hrun0, hR1, hgr⟩ := hcopy
      have hrun := hrun0 37 9 3 5 (c - o) Try.underlying37 (by kernel_rfl)
      have HR1 := Aside0.mk hR1
      have HG := Aside0.mk hgr
      clear hrun0 hR1 hgr
      go_enter Try.func16, Try.ntmps16
      go_wp2
      first | go_end0 | ((try simp only [Exit.inBlock, Exit.then]); refine bodyPost_ret (results_none rfl _ _ _) rfl ?_)
      exact ⟨rfl, HR1.out, HG.out⟩
    · have e : image_put.S l0 a1 a2 = l0 := image_put.S_none _ _ _ (fun i hi hx => by omega)
      rw [e]
      have b1 : decide (a1 < 0) = false := decide_eq_false n1
      have b2 : decide (a1 < (l0.length : Int)) = false := decide_eq_false n4
      clear e n1 n4 hb1 hb2
      go_enter Try.func16, Try.ntmps16
      go_wp2
      first | go_end0 | ((try simp only [Exit.inBlock, Exit.then]); refine bodyPost_ret (results_none rfl _ _ _) rfl ?_)
      exact ⟨rfl, HR.out, image_put.grown_refl _ _⟩

def image_Put.f (k : Nat) (a0 : ByteArray) (a1 : Int) (a2 : ByteArray) : Option (ByteArray) := if -9223372036854775808 ≤ a1 ∧ a1 ≤ 9223372036854775807 ∧ a2.size ≤ 9223372036854775807 ∧ a0.size ≤ 9223372036854775807 then some (strOfNums (image_put.S (bytesOf a0) a1 a2)) else none
theorem image_Put.mono : ∀ a0 a1 a2 k, LeO (image_Put.f k a0 a1 a2) (image_Put.f (k + 1) a0 a1 a2) := fun _ _ _ _ => LeO.refl _
set_option maxHeartbeats 2000000 in
set_option maxRecDepth 100000 in
theorem image_Put.calls (k : Nat) (a0 : ByteArray) (a1 : Int) (a2 : ByteArray) (r : ByteArray) (w : World) (h : image_Put.f k a0 a1 a2 = some r) :
    Calls Try.prog 15 #[.string a0, .int .i64 a1, .string a2] w fun e w' => e = .returned (.string r) ∧ Below w.heap.size w w' := by
  unfold image_Put.f at h
  by_cases hbd : -9223372036854775808 ≤ a1 ∧ a1 ≤ 9223372036854775807 ∧ a2.size ≤ 9223372036854775807 ∧ a0.size ≤ 9223372036854775807
  · rw [if_pos hbd] at h
    obtain rfl := Option.some.inj h
    clear h
    have HBD := Aside0.mk hbd
    clear hbd
    have kb := fun W => print_bytes (P := Try.prog) 9 37 5 Try.underlying9 Try.underlying37 Try.underlying5 a0 W
    go_enter Try.func15, Try.ntmps15
    go_wp2_with fail
    have hrow := Go.Proofs.Ytpjpjamaimahaaa.Copy.RowZ.made w 5 a0
    have hgc : a0.size ≤ grownCap w a0.size 0 5 := grownCap_ge _ _ _ _
    have hcall := image_put.callsZ w.heap.size (grownCap w a0.size 0 5) (bytesOf a0) a1 a2 (Lib.bytesWorld w 5 a0) (by rw [bytesOf_length]; exact HBD.out.2.2.2) (by rw [bytesOf_length]; exact hgc) hrow ⟨HBD.out.1, HBD.out.2.1, HBD.out.2.2.1⟩
    rw [bytesOf_length] at hcall
    clear kb
    refine hcall.mono ?_
    rintro e w' ⟨rfl, hz, hg⟩
    have hcv := string_of_reads (P := Try.prog) (c := grownCap w a0.size 0 5) Try.underlying37 Try.underlying5 Try.underlying9 (hz.reads (by unfold image_put.S; rw [List.length_mapIdx, bytesOf_length]; exact HBD.out.2.2.2))
    rw [show (image_put.S (bytesOf a0) a1 a2).length = a0.size from by unfold image_put.S; rw [List.length_mapIdx, bytesOf_length]] at hcv
    have HB := Aside0.mk (pw_below_grown (bytes_below (Below.refl w.heap.size w) (Nat.le_refl _) 5 a0) (some w.heap.size) (by rw [Lib.bytesWorld_size]; omega) hg (fun k hk => by cases hk; exact Nat.le_refl _))
    clear hz hg hcall hrow
    go_wp2
    go_ret
    exact ⟨rfl, HB.out⟩
  · rw [if_neg hbd] at h
    cases h

/-! ### fuglemanlaw19_awake: function 6 -/
def fuglemanlaw19_awake.f (k : Nat)  : Option (Bool) := (image_Lay.f k 4 (([(⟨1, 2⟩ : S32)] : List (S32))) (([(⟨1, 0, 8, false⟩ : S34)] : List (S34)))).bind fun bt158 => ((image_Inputs.f k 2 (⟨#[97, 98, 99]⟩ : ByteArray) (([(⟨1, 3⟩ : S32)] : List (S32))) (([(⟨#[120, 121]⟩ : ByteArray)] : List ByteArray))).bind fun t166 => (if bt158.1 = 15 then (if bt158.2 = 0 then (if (t166.size : Int) = 64 then (if 0 ≤ 6 then (if 6 ≤ (t166.size : Int) then (if (t166.extract 0 6).toList = ([97, 98, 0, 120, 121, 0] : List UInt8) then ((image_Value.f k (⟨#[97, 98, 99]⟩ : ByteArray) 1 3).bind fun t167 => (if t167.toList = ([98, 99, 0] : List UInt8) then ((image_Put.f k (⟨#[97, 98, 99]⟩ : ByteArray) 1 (⟨#[122, 122, 122]⟩ : ByteArray)).bind fun t168 => (some (t168.toList == ([97, 122, 122] : List UInt8)))) else (some false))) else (some false)) else (none)) else (none)) else (some false)) else (some false)) else (some false)))
theorem fuglemanlaw19_awake.mono : ∀ k, LeO (fuglemanlaw19_awake.f k ) (fuglemanlaw19_awake.f (k + 1) ) := by
  intro  k
  unfold fuglemanlaw19_awake.f
  repeat' first
      | (with_reducible exact image_Inputs.mono _ _ _ _ _)
      | (with_reducible exact image_Lay.mono _ _ _ _)
      | (with_reducible exact image_Put.mono _ _ _ _)
      | (with_reducible exact image_Value.mono _ _ _ _)
      | (with_reducible exact LeO.refl _)
      | (with_reducible exact LeO.none _)
      | (with_reducible refine LeO.ite ?_ ?_)
      | (with_reducible refine LeO.bind ?_ (fun _ => ?_))
      | exact image_Inputs.mono _ _ _ _ _
      | exact image_Lay.mono _ _ _ _
      | exact image_Put.mono _ _ _ _
      | exact image_Value.mono _ _ _ _
      | exact LeO.none _
      | refine LeO.ite ?_ ?_
      | refine LeO.bind ?_ (fun _ => ?_)
set_option maxHeartbeats 8000000 in
set_option maxRecDepth 100000 in
theorem fuglemanlaw19_awake.calls (k : Nat)  (r : Bool) (w : World) (h : fuglemanlaw19_awake.f k  = some r) :
    Calls Try.prog 6 #[] w fun e w' => e = .returned (.bool r) ∧ Below w.heap.size w w' := by
  have hu32 := Try.underlying32
  have hu34 := Try.underlying34
  have HB := Aside0.mk (Below.refl w.heap.size w)
  have H : ((image_Lay.f k 4 (([(⟨1, 2⟩ : S32)] : List (S32))) (([(⟨1, 0, 8, false⟩ : S34)] : List (S34)))).bind fun bt158 => ((image_Inputs.f k 2 (⟨#[97, 98, 99]⟩ : ByteArray) (([(⟨1, 3⟩ : S32)] : List (S32))) (([(⟨#[120, 121]⟩ : ByteArray)] : List ByteArray))).bind fun t166 => (if bt158.1 = 15 then (if bt158.2 = 0 then (if (t166.size : Int) = 64 then (if 0 ≤ 6 then (if 6 ≤ (t166.size : Int) then (if (t166.extract 0 6).toList = ([97, 98, 0, 120, 121, 0] : List UInt8) then ((image_Value.f k (⟨#[97, 98, 99]⟩ : ByteArray) 1 3).bind fun t167 => (if t167.toList = ([98, 99, 0] : List UInt8) then ((image_Put.f k (⟨#[97, 98, 99]⟩ : ByteArray) 1 (⟨#[122, 122, 122]⟩ : ByteArray)).bind fun t168 => (some (t168.toList == ([97, 122, 122] : List UInt8)))) else (some false))) else (some false)) else (none)) else (none)) else (some false)) else (some false)) else (some false)))) = some r := h
  clear h
  obtain ⟨y152, hy152⟩ : ∃ y_ : List (S32), y_ = (([(⟨1, 2⟩ : S32)] : List (S32))) := ⟨_, rfl⟩
  replace H : ((image_Lay.f k 4 y152 (([(⟨1, 0, 8, false⟩ : S34)] : List (S34)))).bind fun bt158 => ((image_Inputs.f k 2 (⟨#[97, 98, 99]⟩ : ByteArray) (([(⟨1, 3⟩ : S32)] : List (S32))) (([(⟨#[120, 121]⟩ : ByteArray)] : List ByteArray))).bind fun t166 => (if bt158.1 = 15 then (if bt158.2 = 0 then (if (t166.size : Int) = 64 then (if 0 ≤ 6 then (if 6 ≤ (t166.size : Int) then (if (t166.extract 0 6).toList = ([97, 98, 0, 120, 121, 0] : List UInt8) then ((image_Value.f k (⟨#[97, 98, 99]⟩ : ByteArray) 1 3).bind fun t167 => (if t167.toList = ([98, 99, 0] : List UInt8) then ((image_Put.f k (⟨#[97, 98, 99]⟩ : ByteArray) 1 (⟨#[122, 122, 122]⟩ : ByteArray)).bind fun t168 => (some (t168.toList == ([97, 122, 122] : List UInt8)))) else (some false))) else (some false)) else (none)) else (none)) else (some false)) else (some false)) else (some false)))) = some r := by first | (rw [hy152]; with_reducible exact H) | (have H2_ := (Option.bind_some _ _).symm.trans H; rw [hy152]; with_reducible exact H2_) | (have H2_ := (Option.bind_some _ _).symm.trans H; with_reducible exact H2_) | with_reducible exact H | (rw [hy152]; exact H) | exact H
  have Ny152 := Aside0.mk hy152
  clear hy152
  obtain ⟨y155, hy155⟩ : ∃ y_ : List (S34), y_ = (([(⟨1, 0, 8, false⟩ : S34)] : List (S34))) := ⟨_, rfl⟩
  replace H : ((image_Lay.f k 4 y152 y155).bind fun bt158 => ((image_Inputs.f k 2 (⟨#[97, 98, 99]⟩ : ByteArray) (([(⟨1, 3⟩ : S32)] : List (S32))) (([(⟨#[120, 121]⟩ : ByteArray)] : List ByteArray))).bind fun t166 => (if bt158.1 = 15 then (if bt158.2 = 0 then (if (t166.size : Int) = 64 then (if 0 ≤ 6 then (if 6 ≤ (t166.size : Int) then (if (t166.extract 0 6).toList = ([97, 98, 0, 120, 121, 0] : List UInt8) then ((image_Value.f k (⟨#[97, 98, 99]⟩ : ByteArray) 1 3).bind fun t167 => (if t167.toList = ([98, 99, 0] : List UInt8) then ((image_Put.f k (⟨#[97, 98, 99]⟩ : ByteArray) 1 (⟨#[122, 122, 122]⟩ : ByteArray)).bind fun t168 => (some (t168.toList == ([97, 122, 122] : List UInt8)))) else (some false))) else (some false)) else (none)) else (none)) else (some false)) else (some false)) else (some false)))) = some r := by first | (rw [hy155]; with_reducible exact H) | (have H2_ := (Option.bind_some _ _).symm.trans H; rw [hy155]; with_reducible exact H2_) | (have H2_ := (Option.bind_some _ _).symm.trans H; with_reducible exact H2_) | with_reducible exact H | (rw [hy155]; exact H) | exact H
  have Ny155 := Aside0.mk hy155
  clear hy155
  replace H := Option.bind_eq_some_iff.mp H
  obtain ⟨⟨t158, t159⟩, A10, H⟩ := H
  replace H : ((image_Inputs.f k 2 (⟨#[97, 98, 99]⟩ : ByteArray) (([(⟨1, 3⟩ : S32)] : List (S32))) (([(⟨#[120, 121]⟩ : ByteArray)] : List ByteArray))).bind fun t166 => (if t158 = 15 then (if t159 = 0 then (if (t166.size : Int) = 64 then (if 0 ≤ 6 then (if 6 ≤ (t166.size : Int) then (if (t166.extract 0 6).toList = ([97, 98, 0, 120, 121, 0] : List UInt8) then ((image_Value.f k (⟨#[97, 98, 99]⟩ : ByteArray) 1 3).bind fun t167 => (if t167.toList = ([98, 99, 0] : List UInt8) then ((image_Put.f k (⟨#[97, 98, 99]⟩ : ByteArray) 1 (⟨#[122, 122, 122]⟩ : ByteArray)).bind fun t168 => (some (t168.toList == ([97, 122, 122] : List UInt8)))) else (some false))) else (some false)) else (none)) else (none)) else (some false)) else (some false)) else (some false))) = some r := H
  have A1 := Aside0.mk A10
  clear A10
  obtain ⟨y160, hy160⟩ : ∃ y_ : List (S32), y_ = (([(⟨1, 3⟩ : S32)] : List (S32))) := ⟨_, rfl⟩
  replace H : ((image_Inputs.f k 2 (⟨#[97, 98, 99]⟩ : ByteArray) y160 (([(⟨#[120, 121]⟩ : ByteArray)] : List ByteArray))).bind fun t166 => (if t158 = 15 then (if t159 = 0 then (if (t166.size : Int) = 64 then (if 0 ≤ 6 then (if 6 ≤ (t166.size : Int) then (if (t166.extract 0 6).toList = ([97, 98, 0, 120, 121, 0] : List UInt8) then ((image_Value.f k (⟨#[97, 98, 99]⟩ : ByteArray) 1 3).bind fun t167 => (if t167.toList = ([98, 99, 0] : List UInt8) then ((image_Put.f k (⟨#[97, 98, 99]⟩ : ByteArray) 1 (⟨#[122, 122, 122]⟩ : ByteArray)).bind fun t168 => (some (t168.toList == ([97, 122, 122] : List UInt8)))) else (some false))) else (some false)) else (none)) else (none)) else (some false)) else (some false)) else (some false))) = some r := by first | (rw [hy160]; with_reducible exact H) | (have H2_ := (Option.bind_some _ _).symm.trans H; rw [hy160]; with_reducible exact H2_) | (have H2_ := (Option.bind_some _ _).symm.trans H; with_reducible exact H2_) | with_reducible exact H | (rw [hy160]; exact H) | exact H
  have Ny160 := Aside0.mk hy160
  clear hy160
  obtain ⟨y163, hy163⟩ : ∃ y_ : List ByteArray, y_ = (([(⟨#[120, 121]⟩ : ByteArray)] : List ByteArray)) := ⟨_, rfl⟩
  replace H : ((image_Inputs.f k 2 (⟨#[97, 98, 99]⟩ : ByteArray) y160 y163).bind fun t166 => (if t158 = 15 then (if t159 = 0 then (if (t166.size : Int) = 64 then (if 0 ≤ 6 then (if 6 ≤ (t166.size : Int) then (if (t166.extract 0 6).toList = ([97, 98, 0, 120, 121, 0] : List UInt8) then ((image_Value.f k (⟨#[97, 98, 99]⟩ : ByteArray) 1 3).bind fun t167 => (if t167.toList = ([98, 99, 0] : List UInt8) then ((image_Put.f k (⟨#[97, 98, 99]⟩ : ByteArray) 1 (⟨#[122, 122, 122]⟩ : ByteArray)).bind fun t168 => (some (t168.toList == ([97, 122, 122] : List UInt8)))) else (some false))) else (some false)) else (none)) else (none)) else (some false)) else (some false)) else (some false))) = some r := by first | (rw [hy163]; with_reducible exact H) | (have H2_ := (Option.bind_some _ _).symm.trans H; rw [hy163]; with_reducible exact H2_) | (have H2_ := (Option.bind_some _ _).symm.trans H; with_reducible exact H2_) | with_reducible exact H | (rw [hy163]; exact H) | exact H
  have Ny163 := Aside0.mk hy163
  clear hy163
  replace H := Option.bind_eq_some_iff.mp H
  obtain ⟨t166, A20, H⟩ := H
  replace H : (if t158 = 15 then (if t159 = 0 then (if (t166.size : Int) = 64 then (if 0 ≤ 6 then (if 6 ≤ (t166.size : Int) then (if (t166.extract 0 6).toList = ([97, 98, 0, 120, 121, 0] : List UInt8) then ((image_Value.f k (⟨#[97, 98, 99]⟩ : ByteArray) 1 3).bind fun t167 => (if t167.toList = ([98, 99, 0] : List UInt8) then ((image_Put.f k (⟨#[97, 98, 99]⟩ : ByteArray) 1 (⟨#[122, 122, 122]⟩ : ByteArray)).bind fun t168 => (some (t168.toList == ([97, 122, 122] : List UInt8)))) else (some false))) else (some false)) else (none)) else (none)) else (some false)) else (some false)) else (some false)) = some r := H
  have A2 := Aside0.mk A20
  clear A20
  by_cases c3 : t158 = 15
  · rw [if_pos c3] at H
    have c3b0 : (t158 == 15) = true := beq_iff_eq.mpr c3
    have c3b1 : (t158 != 15) = false := bne_eq_false_iff_eq.mpr c3
    clear c3
    by_cases c4 : t159 = 0
    · rw [if_pos c4] at H
      have c4b0 : (t159 == 0) = true := beq_iff_eq.mpr c4
      have c4b1 : (t159 != 0) = false := bne_eq_false_iff_eq.mpr c4
      clear c4
      by_cases c5 : (t166.size : Int) = 64
      · rw [if_pos c5] at H
        have c5b0 : ((t166.size : Int) == 64) = true := beq_iff_eq.mpr c5
        have c5b1 : ((t166.size : Int) != 64) = false := bne_eq_false_iff_eq.mpr c5
        clear c5
        by_cases c6 : 0 ≤ 6
        · rw [if_pos c6] at H
          have c6b0 := eq_true c6
          have c6b1 : decide (0 ≤ 6) = true := decide_eq_true c6
          clear c6
          by_cases c7 : 6 ≤ (t166.size : Int)
          · rw [if_pos c7] at H
            have c7b0 := eq_true c7
            have c7b1 : decide (6 ≤ (t166.size : Int)) = true := decide_eq_true c7
            clear c7
            by_cases c8 : (t166.extract 0 6).toList = ([97, 98, 0, 120, 121, 0] : List UInt8)
            · rw [if_pos c8] at H
              have c8b0 : ((t166.extract 0 6).toList == ([97, 98, 0, 120, 121, 0] : List UInt8)) = true := beq_iff_eq.mpr c8
              have c8b1 : ((t166.extract 0 6).toList != ([97, 98, 0, 120, 121, 0] : List UInt8)) = false := bne_eq_false_iff_eq.mpr c8
              clear c8
              replace H := Option.bind_eq_some_iff.mp H
              obtain ⟨t167, A90, H⟩ := H
              replace H : (if t167.toList = ([98, 99, 0] : List UInt8) then ((image_Put.f k (⟨#[97, 98, 99]⟩ : ByteArray) 1 (⟨#[122, 122, 122]⟩ : ByteArray)).bind fun t168 => (some (t168.toList == ([97, 122, 122] : List UInt8)))) else (some false)) = some r := H
              have A9 := Aside0.mk A90
              clear A90
              by_cases c10 : t167.toList = ([98, 99, 0] : List UInt8)
              · rw [if_pos c10] at H
                have c10b0 : (t167.toList == ([98, 99, 0] : List UInt8)) = true := beq_iff_eq.mpr c10
                have c10b1 : (t167.toList != ([98, 99, 0] : List UInt8)) = false := bne_eq_false_iff_eq.mpr c10
                clear c10
                replace H := Option.bind_eq_some_iff.mp H
                obtain ⟨t168, A110, H⟩ := H
                replace H : (some (t168.toList == ([97, 122, 122] : List UInt8))) = some r := H
                have A11 := Aside0.mk A110
                clear A110
                obtain rfl := Option.some.inj H
                go_enter Try.func6, Try.ntmps6
                go_wp2_with (first | ((with_reducible refine gate_dst (N := 6) rfl ?_); (try (refine gate_guard (by rfl) ?_; dsimp only)); refine Kd.R_lit k32 _ 32 ?hg (N := 6) ?hd (xs := ([(⟨1, 2⟩ : S32)] : List (S32))) (inner := [.int .i64 1, .int .i64 2]) (ok := fun _ => True) (okp := fun _ => True) ?hr ?hp (fun _ hk => hk) trivial (Below.refl _ _) (Nat.le_refl _) (by simp) ?_; (case hd => rfl); (case hg => rfl); (case hr => first | (go_simp; done) | (go_simp; rfl)); (case hp => exact (Reps.c2 (show Kd.M k32 _ _ _ (⟨1, 2⟩ : S32) [.int .i64 1, .int .i64 2] from (k32_mkM _ _ _ (⟨1, 2⟩ : S32) )) (Reps.none _ _))); intro v153 w12 ho13 hb hg_ hnew_; clear hg_ hnew_; (first | rw [← Ny152.out] at ho13 | (simp only [Int.reduceToNat] at ho13; rw [← Ny152.out] at ho13)); have n0_ := Aside0.mk (Kd.R_lower ho13 (below_size (by repeat (first | (with_reducible first | exact HB.out | apply below_alloc | apply pw_below_drewN | apply below_drew1) | exact HB.out)))); have n1_ := Aside0.mk (below_step (by repeat (first | (with_reducible first | exact HB.out | apply below_alloc | apply pw_below_drewN | apply below_drew1) | exact HB.out)) hb); clear HB; have HO154 := n0_; have HB := n1_; clear n0_ n1_; clear hb ho13) | ((with_reducible refine gate_dst (N := 8) rfl ?_); (try (refine gate_guard (by rfl) ?_; dsimp only)); refine Kd.R_lit k34 _ 34 ?hg (N := 8) ?hd (xs := ([(⟨1, 0, 8, false⟩ : S34)] : List (S34))) (inner := [.int .i64 1, .int .i64 0, .int .i64 8, .bool false]) (ok := fun _ => True) (okp := fun _ => True) ?hr ?hp (fun _ hk => hk) trivial (Below.refl _ _) (Nat.le_refl _) (by simp) ?_; (case hd => rfl); (case hg => rfl); (case hr => first | (go_simp; done) | (go_simp; rfl)); (case hp => exact (Reps.c4 (show Kd.M k34 _ _ _ (⟨1, 0, 8, false⟩ : S34) [.int .i64 1, .int .i64 0, .int .i64 8, .bool false] from (k34_mkM _ _ _ (⟨1, 0, 8, false⟩ : S34) )) (Reps.none _ _))); intro v156 w14 ho15 hb hg_ hnew_; clear hg_ hnew_; (first | rw [← Ny155.out] at ho15 | (simp only [Int.reduceToNat] at ho15; rw [← Ny155.out] at ho15)); have n0_ := Aside0.mk (Kd.R_below (by (with_reducible repeat (first | apply Kd.R_alloc | apply Kd.R_drewN | apply Kd.R_drew)); exact HO154.out) hb); have n1_ := Aside0.mk (Kd.R_lower ho15 (below_size (by repeat (first | (with_reducible first | exact HB.out | apply below_alloc | apply pw_below_drewN | apply below_drew1) | exact HB.out)))); have n2_ := Aside0.mk (below_step (by repeat (first | (with_reducible first | exact HB.out | apply below_alloc | apply pw_below_drewN | apply below_drew1) | exact HB.out)) hb); clear HO154; clear HB; have HO154 := n0_; have HO157 := n1_; have HB := n2_; clear n0_ n1_ n2_; clear hb ho15; obtain ⟨Ao16, co16, eo16⟩ := Kd.R_slice HO154.out; subst eo16; obtain ⟨Ao17, co17, eo17⟩ := Kd.R_slice HO157.out; subst eo17) | ((with_reducible refine gate_callee (f := 9) rfl ?_); refine goesL_ (some 9) rfl rfl Try.func9 (by kernel_rfl) rfl #[.int .i64 4, .slice Ao16 y152.length co16, .slice Ao17 y155.length co17] rfl (by (try simp only [List.map_toArray, List.map_cons, List.map_nil]); first | done | rfl | (simp only [List.length_drop, List.length_take]; rfl)) ?_; (with_reducible refine (image_Lay.calls k 4 _ _ y152 _ _ y155 t158 t159 _ ?side1 ?side2 ?side3 ?side4 A1.out).mono ?_); (case side1 => repeat (first | exact (Kd.R_reads' HO154.out).2.2 | (with_reducible refine Kd.C_alloc ?_ _) | (with_reducible refine Kd.C_drewN ?_ _) | (with_reducible refine Kd.C_drew ?_))); (case side2 => exact (Kd.R_reads' HO154.out).2.1); (case side3 => repeat (first | exact (Kd.R_reads' HO157.out).2.2 | (with_reducible refine Kd.C_alloc ?_ _) | (with_reducible refine Kd.C_drewN ?_ _) | (with_reducible refine Kd.C_drew ?_))); (case side4 => exact (Kd.R_reads' HO157.out).2.1); rintro e w18 ⟨rfl, hb⟩; refine ⟨_, rfl, ?_⟩; have n0_ := Aside0.mk (Kd.R_below (by (with_reducible repeat (first | apply Kd.R_alloc | apply Kd.R_drewN | apply Kd.R_drew)); exact HO154.out) hb); have n1_ := Aside0.mk (Kd.R_below (by (with_reducible repeat (first | apply Kd.R_alloc | apply Kd.R_drewN | apply Kd.R_drew)); exact HO157.out) hb); have n2_ := Aside0.mk (below_step (by repeat (first | (with_reducible first | exact HB.out | apply below_alloc | apply pw_below_drewN | apply below_drew1) | exact HB.out)) hb); clear HO154; clear HO157; clear HB; have HO154 := n0_; have HO157 := n1_; have HB := n2_; clear n0_ n1_ n2_; (try clear hb); (try clear hb2); (try clear hk); (try clear hi)) | ((with_reducible refine gate_dst (N := 13) rfl ?_); (try (refine gate_guard (by rfl) ?_; dsimp only)); refine Kd.R_lit k32 _ 32 ?hg (N := 13) ?hd (xs := ([(⟨1, 3⟩ : S32)] : List (S32))) (inner := [.int .i64 1, .int .i64 3]) (ok := fun _ => True) (okp := fun _ => True) ?hr ?hp (fun _ hk => hk) trivial (Below.refl _ _) (Nat.le_refl _) (by simp) ?_; (case hd => rfl); (case hg => rfl); (case hr => first | (go_simp; done) | (go_simp; rfl)); (case hp => exact (Reps.c2 (show Kd.M k32 _ _ _ (⟨1, 3⟩ : S32) [.int .i64 1, .int .i64 3] from (k32_mkM _ _ _ (⟨1, 3⟩ : S32) )) (Reps.none _ _))); intro v161 w19 ho20 hb hg_ hnew_; clear hg_ hnew_; (first | rw [← Ny160.out] at ho20 | (simp only [Int.reduceToNat] at ho20; rw [← Ny160.out] at ho20)); have n0_ := Aside0.mk (Kd.R_elder' (by (with_reducible repeat (first | apply Kd.R_alloc | apply Kd.R_drewN | apply Kd.R_drew)); exact HO154.out) (Kd.R_base ho20) hb); have n1_ := Aside0.mk (Kd.R_below (by (with_reducible repeat (first | apply Kd.R_alloc | apply Kd.R_drewN | apply Kd.R_drew)); exact HO157.out) hb); have n2_ := Aside0.mk (Kd.R_lower (Kd.R_new' ho20 (Kd.R_lt (by (with_reducible repeat (first | apply Kd.R_alloc | apply Kd.R_drewN | apply Kd.R_drew)); exact HO154.out))) (below_size (by repeat (first | (with_reducible first | exact HB.out | apply below_alloc | apply pw_below_drewN | apply below_drew1) | exact HB.out)))); have n3_ := Aside0.mk (below_step (by repeat (first | (with_reducible first | exact HB.out | apply below_alloc | apply pw_below_drewN | apply below_drew1) | exact HB.out)) hb); clear HO154; clear HO157; clear HB; have HO154 := n0_; have HO157 := n1_; have HO162 := n2_; have HB := n3_; clear n0_ n1_ n2_ n3_; clear hb ho20) | ((with_reducible refine gate_dst (N := 14) rfl ?_); (try (refine gate_guard (by rfl) ?_; dsimp only)); refine Kd.R_lit Kd.string _ 9 ?hg (N := 14) ?hd (xs := ([(⟨#[120, 121]⟩ : ByteArray)] : List ByteArray)) (inner := [.string (⟨#[120, 121]⟩ : ByteArray)]) (ok := fun _ => True) (okp := fun _ => True) ?hr ?hp (fun _ hk => hk) trivial (Below.refl _ _) (Nat.le_refl _) (by simp) ?_; (case hd => rfl); (case hg => rfl); (case hr => first | (go_simp; done) | (go_simp; rfl)); (case hp => exact (Reps.one (show Kd.M Kd.string _ _ _ (⟨#[120, 121]⟩ : ByteArray) [.string (⟨#[120, 121]⟩ : ByteArray)] from rfl) (Reps.none _ _))); intro v164 w21 ho22 hb hg_ hnew_; clear hg_ hnew_; (first | rw [← Ny163.out] at ho22 | (simp only [Int.reduceToNat] at ho22; rw [← Ny163.out] at ho22)); have n0_ := Aside0.mk (Kd.R_below (by (with_reducible repeat (first | apply Kd.R_alloc | apply Kd.R_drewN | apply Kd.R_drew)); exact HO154.out) hb); have n1_ := Aside0.mk (Kd.R_below (by (with_reducible repeat (first | apply Kd.R_alloc | apply Kd.R_drewN | apply Kd.R_drew)); exact HO157.out) hb); have n2_ := Aside0.mk (Kd.R_below (by (with_reducible repeat (first | apply Kd.R_alloc | apply Kd.R_drewN | apply Kd.R_drew)); exact HO162.out) hb); have n3_ := Aside0.mk (Kd.R_lower ho22 (below_size (by repeat (first | (with_reducible first | exact HB.out | apply below_alloc | apply pw_below_drewN | apply below_drew1) | exact HB.out)))); have n4_ := Aside0.mk (below_step (by repeat (first | (with_reducible first | exact HB.out | apply below_alloc | apply pw_below_drewN | apply below_drew1) | exact HB.out)) hb); clear HO154; clear HO157; clear HO162; clear HB; have HO154 := n0_; have HO157 := n1_; have HO162 := n2_; have HO165 := n3_; have HB := n4_; clear n0_ n1_ n2_ n3_ n4_; clear hb ho22; obtain ⟨Ao23, co23, eo23⟩ := Kd.R_slice HO162.out; subst eo23; obtain ⟨Ao24, co24, eo24⟩ := Kd.R_slice HO165.out; subst eo24) | ((with_reducible refine gate_callee (f := 7) rfl ?_); refine goesL_ (some 15) rfl rfl Try.func7 (by kernel_rfl) rfl #[.int .i64 2, .string (⟨#[97, 98, 99]⟩ : ByteArray), .slice Ao23 y160.length co23, .slice Ao24 y163.length co24] rfl (by (try simp only [List.map_toArray, List.map_cons, List.map_nil]); first | done | rfl | (simp only [List.length_drop, List.length_take]; rfl)) ?_; (with_reducible refine (image_Inputs.calls k 2 (⟨#[97, 98, 99]⟩ : ByteArray) _ _ y160 _ _ y163 t166 _ ?side1 ?side2 ?side3 ?side4 A2.out).mono ?_); (case side1 => repeat (first | exact (Kd.R_reads' HO162.out).2.2 | (with_reducible refine Kd.C_alloc ?_ _) | (with_reducible refine Kd.C_drewN ?_ _) | (with_reducible refine Kd.C_drew ?_))); (case side2 => exact (Kd.R_reads' HO162.out).2.1); (case side3 => repeat (first | exact (Kd.R_reads' HO165.out).2.2 | (with_reducible refine Kd.C_alloc ?_ _) | (with_reducible refine Kd.C_drewN ?_ _) | (with_reducible refine Kd.C_drew ?_))); (case side4 => exact (Kd.R_reads' HO165.out).2.1); rintro e w25 ⟨rfl, hb⟩; refine ⟨_, rfl, ?_⟩; have n0_ := Aside0.mk (Kd.R_below (by (with_reducible repeat (first | apply Kd.R_alloc | apply Kd.R_drewN | apply Kd.R_drew)); exact HO154.out) hb); have n1_ := Aside0.mk (Kd.R_below (by (with_reducible repeat (first | apply Kd.R_alloc | apply Kd.R_drewN | apply Kd.R_drew)); exact HO157.out) hb); have n2_ := Aside0.mk (Kd.R_below (by (with_reducible repeat (first | apply Kd.R_alloc | apply Kd.R_drewN | apply Kd.R_drew)); exact HO162.out) hb); have n3_ := Aside0.mk (Kd.R_below (by (with_reducible repeat (first | apply Kd.R_alloc | apply Kd.R_drewN | apply Kd.R_drew)); exact HO165.out) hb); have n4_ := Aside0.mk (below_step (by repeat (first | (with_reducible first | exact HB.out | apply below_alloc | apply pw_below_drewN | apply below_drew1) | exact HB.out)) hb); clear HO154; clear HO157; clear HO162; clear HO165; clear HB; have HO154 := n0_; have HO157 := n1_; have HO162 := n2_; have HO165 := n3_; have HB := n4_; clear n0_ n1_ n2_ n3_ n4_; (try clear hb); (try clear hb2); (try clear hk); (try clear hi)) | (go_at_call 11; (with_reducible refine (image_Value.calls k (⟨#[97, 98, 99]⟩ : ByteArray) 1 3 t167 _ A9.out).mono ?_); rintro e w26 ⟨rfl, hb⟩; have n0_ := Aside0.mk (Kd.R_below (by (with_reducible repeat (first | apply Kd.R_alloc | apply Kd.R_drewN | apply Kd.R_drew)); exact HO154.out) hb); have n1_ := Aside0.mk (Kd.R_below (by (with_reducible repeat (first | apply Kd.R_alloc | apply Kd.R_drewN | apply Kd.R_drew)); exact HO157.out) hb); have n2_ := Aside0.mk (Kd.R_below (by (with_reducible repeat (first | apply Kd.R_alloc | apply Kd.R_drewN | apply Kd.R_drew)); exact HO162.out) hb); have n3_ := Aside0.mk (Kd.R_below (by (with_reducible repeat (first | apply Kd.R_alloc | apply Kd.R_drewN | apply Kd.R_drew)); exact HO165.out) hb); have n4_ := Aside0.mk (below_step (by repeat (first | (with_reducible first | exact HB.out | apply below_alloc | apply pw_below_drewN | apply below_drew1) | exact HB.out)) hb); clear HO154; clear HO157; clear HO162; clear HO165; clear HB; have HO154 := n0_; have HO157 := n1_; have HO162 := n2_; have HO165 := n3_; have HB := n4_; clear n0_ n1_ n2_ n3_ n4_; (try clear hb); (try clear hb2); (try clear hk); (try clear hi)) | (go_at_call 15; (with_reducible refine (image_Put.calls k (⟨#[97, 98, 99]⟩ : ByteArray) 1 (⟨#[122, 122, 122]⟩ : ByteArray) t168 _ A11.out).mono ?_); rintro e w27 ⟨rfl, hb⟩; have n0_ := Aside0.mk (Kd.R_below (by (with_reducible repeat (first | apply Kd.R_alloc | apply Kd.R_drewN | apply Kd.R_drew)); exact HO154.out) hb); have n1_ := Aside0.mk (Kd.R_below (by (with_reducible repeat (first | apply Kd.R_alloc | apply Kd.R_drewN | apply Kd.R_drew)); exact HO157.out) hb); have n2_ := Aside0.mk (Kd.R_below (by (with_reducible repeat (first | apply Kd.R_alloc | apply Kd.R_drewN | apply Kd.R_drew)); exact HO162.out) hb); have n3_ := Aside0.mk (Kd.R_below (by (with_reducible repeat (first | apply Kd.R_alloc | apply Kd.R_drewN | apply Kd.R_drew)); exact HO165.out) hb); have n4_ := Aside0.mk (below_step (by repeat (first | (with_reducible first | exact HB.out | apply below_alloc | apply pw_below_drewN | apply below_drew1) | exact HB.out)) hb); clear HO154; clear HO157; clear HO162; clear HO165; clear HB; have HO154 := n0_; have HO157 := n1_; have HO162 := n2_; have HO165 := n3_; have HB := n4_; clear n0_ n1_ n2_ n3_ n4_; (try clear hb); (try clear hb2); (try clear hk); (try clear hi)))
                go_ret
                exact ⟨by first | rfl | (simp [errW_none, errW_some] <;> rfl) | (simp [*, errW_none, errW_some] <;> rfl), by repeat (first | (with_reducible first | exact HB.out | apply below_alloc | apply pw_below_drewN | apply below_drew1) | exact HB.out)⟩
              · rw [if_neg c10] at H
                have c10b0 : (t167.toList == ([98, 99, 0] : List UInt8)) = false := beq_eq_false_iff_ne.mpr c10
                have c10b1 : (t167.toList != ([98, 99, 0] : List UInt8)) = true := bne_iff_ne.mpr c10
                obtain rfl := Option.some.inj H
                go_enter Try.func6, Try.ntmps6
                go_wp2_with (first | ((with_reducible refine gate_dst (N := 6) rfl ?_); (try (refine gate_guard (by rfl) ?_; dsimp only)); refine Kd.R_lit k32 _ 32 ?hg (N := 6) ?hd (xs := ([(⟨1, 2⟩ : S32)] : List (S32))) (inner := [.int .i64 1, .int .i64 2]) (ok := fun _ => True) (okp := fun _ => True) ?hr ?hp (fun _ hk => hk) trivial (Below.refl _ _) (Nat.le_refl _) (by simp) ?_; (case hd => rfl); (case hg => rfl); (case hr => first | (go_simp; done) | (go_simp; rfl)); (case hp => exact (Reps.c2 (show Kd.M k32 _ _ _ (⟨1, 2⟩ : S32) [.int .i64 1, .int .i64 2] from (k32_mkM _ _ _ (⟨1, 2⟩ : S32) )) (Reps.none _ _))); intro v153 w28 ho29 hb hg_ hnew_; clear hg_ hnew_; (first | rw [← Ny152.out] at ho29 | (simp only [Int.reduceToNat] at ho29; rw [← Ny152.out] at ho29)); have n0_ := Aside0.mk (Kd.R_lower ho29 (below_size (by repeat (first | (with_reducible first | exact HB.out | apply below_alloc | apply pw_below_drewN | apply below_drew1) | exact HB.out)))); have n1_ := Aside0.mk (below_step (by repeat (first | (with_reducible first | exact HB.out | apply below_alloc | apply pw_below_drewN | apply below_drew1) | exact HB.out)) hb); clear HB; have HO154 := n0_; have HB := n1_; clear n0_ n1_; clear hb ho29) | ((with_reducible refine gate_dst (N := 8) rfl ?_); (try (refine gate_guard (by rfl) ?_; dsimp only)); refine Kd.R_lit k34 _ 34 ?hg (N := 8) ?hd (xs := ([(⟨1, 0, 8, false⟩ : S34)] : List (S34))) (inner := [.int .i64 1, .int .i64 0, .int .i64 8, .bool false]) (ok := fun _ => True) (okp := fun _ => True) ?hr ?hp (fun _ hk => hk) trivial (Below.refl _ _) (Nat.le_refl _) (by simp) ?_; (case hd => rfl); (case hg => rfl); (case hr => first | (go_simp; done) | (go_simp; rfl)); (case hp => exact (Reps.c4 (show Kd.M k34 _ _ _ (⟨1, 0, 8, false⟩ : S34) [.int .i64 1, .int .i64 0, .int .i64 8, .bool false] from (k34_mkM _ _ _ (⟨1, 0, 8, false⟩ : S34) )) (Reps.none _ _))); intro v156 w30 ho31 hb hg_ hnew_; clear hg_ hnew_; (first | rw [← Ny155.out] at ho31 | (simp only [Int.reduceToNat] at ho31; rw [← Ny155.out] at ho31)); have n0_ := Aside0.mk (Kd.R_below (by (with_reducible repeat (first | apply Kd.R_alloc | apply Kd.R_drewN | apply Kd.R_drew)); exact HO154.out) hb); have n1_ := Aside0.mk (Kd.R_lower ho31 (below_size (by repeat (first | (with_reducible first | exact HB.out | apply below_alloc | apply pw_below_drewN | apply below_drew1) | exact HB.out)))); have n2_ := Aside0.mk (below_step (by repeat (first | (with_reducible first | exact HB.out | apply below_alloc | apply pw_below_drewN | apply below_drew1) | exact HB.out)) hb); clear HO154; clear HB; have HO154 := n0_; have HO157 := n1_; have HB := n2_; clear n0_ n1_ n2_; clear hb ho31; obtain ⟨Ao32, co32, eo32⟩ := Kd.R_slice HO154.out; subst eo32; obtain ⟨Ao33, co33, eo33⟩ := Kd.R_slice HO157.out; subst eo33) | ((with_reducible refine gate_callee (f := 9) rfl ?_); refine goesL_ (some 9) rfl rfl Try.func9 (by kernel_rfl) rfl #[.int .i64 4, .slice Ao32 y152.length co32, .slice Ao33 y155.length co33] rfl (by (try simp only [List.map_toArray, List.map_cons, List.map_nil]); first | done | rfl | (simp only [List.length_drop, List.length_take]; rfl)) ?_; (with_reducible refine (image_Lay.calls k 4 _ _ y152 _ _ y155 t158 t159 _ ?side1 ?side2 ?side3 ?side4 A1.out).mono ?_); (case side1 => repeat (first | exact (Kd.R_reads' HO154.out).2.2 | (with_reducible refine Kd.C_alloc ?_ _) | (with_reducible refine Kd.C_drewN ?_ _) | (with_reducible refine Kd.C_drew ?_))); (case side2 => exact (Kd.R_reads' HO154.out).2.1); (case side3 => repeat (first | exact (Kd.R_reads' HO157.out).2.2 | (with_reducible refine Kd.C_alloc ?_ _) | (with_reducible refine Kd.C_drewN ?_ _) | (with_reducible refine Kd.C_drew ?_))); (case side4 => exact (Kd.R_reads' HO157.out).2.1); rintro e w34 ⟨rfl, hb⟩; refine ⟨_, rfl, ?_⟩; have n0_ := Aside0.mk (Kd.R_below (by (with_reducible repeat (first | apply Kd.R_alloc | apply Kd.R_drewN | apply Kd.R_drew)); exact HO154.out) hb); have n1_ := Aside0.mk (Kd.R_below (by (with_reducible repeat (first | apply Kd.R_alloc | apply Kd.R_drewN | apply Kd.R_drew)); exact HO157.out) hb); have n2_ := Aside0.mk (below_step (by repeat (first | (with_reducible first | exact HB.out | apply below_alloc | apply pw_below_drewN | apply below_drew1) | exact HB.out)) hb); clear HO154; clear HO157; clear HB; have HO154 := n0_; have HO157 := n1_; have HB := n2_; clear n0_ n1_ n2_; (try clear hb); (try clear hb2); (try clear hk); (try clear hi)) | ((with_reducible refine gate_dst (N := 13) rfl ?_); (try (refine gate_guard (by rfl) ?_; dsimp only)); refine Kd.R_lit k32 _ 32 ?hg (N := 13) ?hd (xs := ([(⟨1, 3⟩ : S32)] : List (S32))) (inner := [.int .i64 1, .int .i64 3]) (ok := fun _ => True) (okp := fun _ => True) ?hr ?hp (fun _ hk => hk) trivial (Below.refl _ _) (Nat.le_refl _) (by simp) ?_; (case hd => rfl); (case hg => rfl); (case hr => first | (go_simp; done) | (go_simp; rfl)); (case hp => exact (Reps.c2 (show Kd.M k32 _ _ _ (⟨1, 3⟩ : S32) [.int .i64 1, .int .i64 3] from (k32_mkM _ _ _ (⟨1, 3⟩ : S32) )) (Reps.none _ _))); intro v161 w35 ho36 hb hg_ hnew_; clear hg_ hnew_; (first | rw [← Ny160.out] at ho36 | (simp only [Int.reduceToNat] at ho36; rw [← Ny160.out] at ho36)); have n0_ := Aside0.mk (Kd.R_elder' (by (with_reducible repeat (first | apply Kd.R_alloc | apply Kd.R_drewN | apply Kd.R_drew)); exact HO154.out) (Kd.R_base ho36) hb); have n1_ := Aside0.mk (Kd.R_below (by (with_reducible repeat (first | apply Kd.R_alloc | apply Kd.R_drewN | apply Kd.R_drew)); exact HO157.out) hb); have n2_ := Aside0.mk (Kd.R_lower (Kd.R_new' ho36 (Kd.R_lt (by (with_reducible repeat (first | apply Kd.R_alloc | apply Kd.R_drewN | apply Kd.R_drew)); exact HO154.out))) (below_size (by repeat (first | (with_reducible first | exact HB.out | apply below_alloc | apply pw_below_drewN | apply below_drew1) | exact HB.out)))); have n3_ := Aside0.mk (below_step (by repeat (first | (with_reducible first | exact HB.out | apply below_alloc | apply pw_below_drewN | apply below_drew1) | exact HB.out)) hb); clear HO154; clear HO157; clear HB; have HO154 := n0_; have HO157 := n1_; have HO162 := n2_; have HB := n3_; clear n0_ n1_ n2_ n3_; clear hb ho36) | ((with_reducible refine gate_dst (N := 14) rfl ?_); (try (refine gate_guard (by rfl) ?_; dsimp only)); refine Kd.R_lit Kd.string _ 9 ?hg (N := 14) ?hd (xs := ([(⟨#[120, 121]⟩ : ByteArray)] : List ByteArray)) (inner := [.string (⟨#[120, 121]⟩ : ByteArray)]) (ok := fun _ => True) (okp := fun _ => True) ?hr ?hp (fun _ hk => hk) trivial (Below.refl _ _) (Nat.le_refl _) (by simp) ?_; (case hd => rfl); (case hg => rfl); (case hr => first | (go_simp; done) | (go_simp; rfl)); (case hp => exact (Reps.one (show Kd.M Kd.string _ _ _ (⟨#[120, 121]⟩ : ByteArray) [.string (⟨#[120, 121]⟩ : ByteArray)] from rfl) (Reps.none _ _))); intro v164 w37 ho38 hb hg_ hnew_; clear hg_ hnew_; (first | rw [← Ny163.out] at ho38 | (simp only [Int.reduceToNat] at ho38; rw [← Ny163.out] at ho38)); have n0_ := Aside0.mk (Kd.R_below (by (with_reducible repeat (first | apply Kd.R_alloc | apply Kd.R_drewN | apply Kd.R_drew)); exact HO154.out) hb); have n1_ := Aside0.mk (Kd.R_below (by (with_reducible repeat (first | apply Kd.R_alloc | apply Kd.R_drewN | apply Kd.R_drew)); exact HO157.out) hb); have n2_ := Aside0.mk (Kd.R_below (by (with_reducible repeat (first | apply Kd.R_alloc | apply Kd.R_drewN | apply Kd.R_drew)); exact HO162.out) hb); have n3_ := Aside0.mk (Kd.R_lower ho38 (below_size (by repeat (first | (with_reducible first | exact HB.out | apply below_alloc | apply pw_below_drewN | apply below_drew1) | exact HB.out)))); have n4_ := Aside0.mk (below_step (by repeat (first | (with_reducible first | exact HB.out | apply below_alloc | apply pw_below_drewN | apply below_drew1) | exact HB.out)) hb); clear HO154; clear HO157; clear HO162; clear HB; have HO154 := n0_; have HO157 := n1_; have HO162 := n2_; have HO165 := n3_; have HB := n4_; clear n0_ n1_ n2_ n3_ n4_; clear hb ho38; obtain ⟨Ao39, co39, eo39⟩ := Kd.R_slice HO162.out; subst eo39; obtain ⟨Ao40, co40, eo40⟩ := Kd.R_slice HO165.out; subst eo40) | ((with_reducible refine gate_callee (f := 7) rfl ?_); refine goesL_ (some 15) rfl rfl Try.func7 (by kernel_rfl) rfl #[.int .i64 2, .string (⟨#[97, 98, 99]⟩ : ByteArray), .slice Ao39 y160.length co39, .slice Ao40 y163.length co40] rfl (by (try simp only [List.map_toArray, List.map_cons, List.map_nil]); first | done | rfl | (simp only [List.length_drop, List.length_take]; rfl)) ?_; (with_reducible refine (image_Inputs.calls k 2 (⟨#[97, 98, 99]⟩ : ByteArray) _ _ y160 _ _ y163 t166 _ ?side1 ?side2 ?side3 ?side4 A2.out).mono ?_); (case side1 => repeat (first | exact (Kd.R_reads' HO162.out).2.2 | (with_reducible refine Kd.C_alloc ?_ _) | (with_reducible refine Kd.C_drewN ?_ _) | (with_reducible refine Kd.C_drew ?_))); (case side2 => exact (Kd.R_reads' HO162.out).2.1); (case side3 => repeat (first | exact (Kd.R_reads' HO165.out).2.2 | (with_reducible refine Kd.C_alloc ?_ _) | (with_reducible refine Kd.C_drewN ?_ _) | (with_reducible refine Kd.C_drew ?_))); (case side4 => exact (Kd.R_reads' HO165.out).2.1); rintro e w41 ⟨rfl, hb⟩; refine ⟨_, rfl, ?_⟩; have n0_ := Aside0.mk (Kd.R_below (by (with_reducible repeat (first | apply Kd.R_alloc | apply Kd.R_drewN | apply Kd.R_drew)); exact HO154.out) hb); have n1_ := Aside0.mk (Kd.R_below (by (with_reducible repeat (first | apply Kd.R_alloc | apply Kd.R_drewN | apply Kd.R_drew)); exact HO157.out) hb); have n2_ := Aside0.mk (Kd.R_below (by (with_reducible repeat (first | apply Kd.R_alloc | apply Kd.R_drewN | apply Kd.R_drew)); exact HO162.out) hb); have n3_ := Aside0.mk (Kd.R_below (by (with_reducible repeat (first | apply Kd.R_alloc | apply Kd.R_drewN | apply Kd.R_drew)); exact HO165.out) hb); have n4_ := Aside0.mk (below_step (by repeat (first | (with_reducible first | exact HB.out | apply below_alloc | apply pw_below_drewN | apply below_drew1) | exact HB.out)) hb); clear HO154; clear HO157; clear HO162; clear HO165; clear HB; have HO154 := n0_; have HO157 := n1_; have HO162 := n2_; have HO165 := n3_; have HB := n4_; clear n0_ n1_ n2_ n3_ n4_; (try clear hb); (try clear hb2); (try clear hk); (try clear hi)) | (go_at_call 11; (with_reducible refine (image_Value.calls k (⟨#[97, 98, 99]⟩ : ByteArray) 1 3 t167 _ A9.out).mono ?_); rintro e w42 ⟨rfl, hb⟩; have n0_ := Aside0.mk (Kd.R_below (by (with_reducible repeat (first | apply Kd.R_alloc | apply Kd.R_drewN | apply Kd.R_drew)); exact HO154.out) hb); have n1_ := Aside0.mk (Kd.R_below (by (with_reducible repeat (first | apply Kd.R_alloc | apply Kd.R_drewN | apply Kd.R_drew)); exact HO157.out) hb); have n2_ := Aside0.mk (Kd.R_below (by (with_reducible repeat (first | apply Kd.R_alloc | apply Kd.R_drewN | apply Kd.R_drew)); exact HO162.out) hb); have n3_ := Aside0.mk (Kd.R_below (by (with_reducible repeat (first | apply Kd.R_alloc | apply Kd.R_drewN | apply Kd.R_drew)); exact HO165.out) hb); have n4_ := Aside0.mk (below_step (by repeat (first | (with_reducible first | exact HB.out | apply below_alloc | apply pw_below_drewN | apply below_drew1) | exact HB.out)) hb); clear HO154; clear HO157; clear HO162; clear HO165; clear HB; have HO154 := n0_; have HO157 := n1_; have HO162 := n2_; have HO165 := n3_; have HB := n4_; clear n0_ n1_ n2_ n3_ n4_; (try clear hb); (try clear hb2); (try clear hk); (try clear hi)))
                go_ret
                exact ⟨by first | rfl | (simp [errW_none, errW_some] <;> rfl) | (simp [*, errW_none, errW_some] <;> rfl), by repeat (first | (with_reducible first | exact HB.out | apply below_alloc | apply pw_below_drewN | apply below_drew1) | exact HB.out)⟩
            · rw [if_neg c8] at H
              have c8b0 : ((t166.extract 0 6).toList == ([97, 98, 0, 120, 121, 0] : List UInt8)) = false := beq_eq_false_iff_ne.mpr c8
              have c8b1 : ((t166.extract 0 6).toList != ([97, 98, 0, 120, 121, 0] : List UInt8)) = true := bne_iff_ne.mpr c8
              obtain rfl := Option.some.inj H
              go_enter Try.func6, Try.ntmps6
              go_wp2_with (first | ((with_reducible refine gate_dst (N := 6) rfl ?_); (try (refine gate_guard (by rfl) ?_; dsimp only)); refine Kd.R_lit k32 _ 32 ?hg (N := 6) ?hd (xs := ([(⟨1, 2⟩ : S32)] : List (S32))) (inner := [.int .i64 1, .int .i64 2]) (ok := fun _ => True) (okp := fun _ => True) ?hr ?hp (fun _ hk => hk) trivial (Below.refl _ _) (Nat.le_refl _) (by simp) ?_; (case hd => rfl); (case hg => rfl); (case hr => first | (go_simp; done) | (go_simp; rfl)); (case hp => exact (Reps.c2 (show Kd.M k32 _ _ _ (⟨1, 2⟩ : S32) [.int .i64 1, .int .i64 2] from (k32_mkM _ _ _ (⟨1, 2⟩ : S32) )) (Reps.none _ _))); intro v153 w43 ho44 hb hg_ hnew_; clear hg_ hnew_; (first | rw [← Ny152.out] at ho44 | (simp only [Int.reduceToNat] at ho44; rw [← Ny152.out] at ho44)); have n0_ := Aside0.mk (Kd.R_lower ho44 (below_size (by repeat (first | (with_reducible first | exact HB.out | apply below_alloc | apply pw_below_drewN | apply below_drew1) | exact HB.out)))); have n1_ := Aside0.mk (below_step (by repeat (first | (with_reducible first | exact HB.out | apply below_alloc | apply pw_below_drewN | apply below_drew1) | exact HB.out)) hb); clear HB; have HO154 := n0_; have HB := n1_; clear n0_ n1_; clear hb ho44) | ((with_reducible refine gate_dst (N := 8) rfl ?_); (try (refine gate_guard (by rfl) ?_; dsimp only)); refine Kd.R_lit k34 _ 34 ?hg (N := 8) ?hd (xs := ([(⟨1, 0, 8, false⟩ : S34)] : List (S34))) (inner := [.int .i64 1, .int .i64 0, .int .i64 8, .bool false]) (ok := fun _ => True) (okp := fun _ => True) ?hr ?hp (fun _ hk => hk) trivial (Below.refl _ _) (Nat.le_refl _) (by simp) ?_; (case hd => rfl); (case hg => rfl); (case hr => first | (go_simp; done) | (go_simp; rfl)); (case hp => exact (Reps.c4 (show Kd.M k34 _ _ _ (⟨1, 0, 8, false⟩ : S34) [.int .i64 1, .int .i64 0, .int .i64 8, .bool false] from (k34_mkM _ _ _ (⟨1, 0, 8, false⟩ : S34) )) (Reps.none _ _))); intro v156 w45 ho46 hb hg_ hnew_; clear hg_ hnew_; (first | rw [← Ny155.out] at ho46 | (simp only [Int.reduceToNat] at ho46; rw [← Ny155.out] at ho46)); have n0_ := Aside0.mk (Kd.R_below (by (with_reducible repeat (first | apply Kd.R_alloc | apply Kd.R_drewN | apply Kd.R_drew)); exact HO154.out) hb); have n1_ := Aside0.mk (Kd.R_lower ho46 (below_size (by repeat (first | (with_reducible first | exact HB.out | apply below_alloc | apply pw_below_drewN | apply below_drew1) | exact HB.out)))); have n2_ := Aside0.mk (below_step (by repeat (first | (with_reducible first | exact HB.out | apply below_alloc | apply pw_below_drewN | apply below_drew1) | exact HB.out)) hb); clear HO154; clear HB; have HO154 := n0_; have HO157 := n1_; have HB := n2_; clear n0_ n1_ n2_; clear hb ho46; obtain ⟨Ao47, co47, eo47⟩ := Kd.R_slice HO154.out; subst eo47; obtain ⟨Ao48, co48, eo48⟩ := Kd.R_slice HO157.out; subst eo48) | ((with_reducible refine gate_callee (f := 9) rfl ?_); refine goesL_ (some 9) rfl rfl Try.func9 (by kernel_rfl) rfl #[.int .i64 4, .slice Ao47 y152.length co47, .slice Ao48 y155.length co48] rfl (by (try simp only [List.map_toArray, List.map_cons, List.map_nil]); first | done | rfl | (simp only [List.length_drop, List.length_take]; rfl)) ?_; (with_reducible refine (image_Lay.calls k 4 _ _ y152 _ _ y155 t158 t159 _ ?side1 ?side2 ?side3 ?side4 A1.out).mono ?_); (case side1 => repeat (first | exact (Kd.R_reads' HO154.out).2.2 | (with_reducible refine Kd.C_alloc ?_ _) | (with_reducible refine Kd.C_drewN ?_ _) | (with_reducible refine Kd.C_drew ?_))); (case side2 => exact (Kd.R_reads' HO154.out).2.1); (case side3 => repeat (first | exact (Kd.R_reads' HO157.out).2.2 | (with_reducible refine Kd.C_alloc ?_ _) | (with_reducible refine Kd.C_drewN ?_ _) | (with_reducible refine Kd.C_drew ?_))); (case side4 => exact (Kd.R_reads' HO157.out).2.1); rintro e w49 ⟨rfl, hb⟩; refine ⟨_, rfl, ?_⟩; have n0_ := Aside0.mk (Kd.R_below (by (with_reducible repeat (first | apply Kd.R_alloc | apply Kd.R_drewN | apply Kd.R_drew)); exact HO154.out) hb); have n1_ := Aside0.mk (Kd.R_below (by (with_reducible repeat (first | apply Kd.R_alloc | apply Kd.R_drewN | apply Kd.R_drew)); exact HO157.out) hb); have n2_ := Aside0.mk (below_step (by repeat (first | (with_reducible first | exact HB.out | apply below_alloc | apply pw_below_drewN | apply below_drew1) | exact HB.out)) hb); clear HO154; clear HO157; clear HB; have HO154 := n0_; have HO157 := n1_; have HB := n2_; clear n0_ n1_ n2_; (try clear hb); (try clear hb2); (try clear hk); (try clear hi)) | ((with_reducible refine gate_dst (N := 13) rfl ?_); (try (refine gate_guard (by rfl) ?_; dsimp only)); refine Kd.R_lit k32 _ 32 ?hg (N := 13) ?hd (xs := ([(⟨1, 3⟩ : S32)] : List (S32))) (inner := [.int .i64 1, .int .i64 3]) (ok := fun _ => True) (okp := fun _ => True) ?hr ?hp (fun _ hk => hk) trivial (Below.refl _ _) (Nat.le_refl _) (by simp) ?_; (case hd => rfl); (case hg => rfl); (case hr => first | (go_simp; done) | (go_simp; rfl)); (case hp => exact (Reps.c2 (show Kd.M k32 _ _ _ (⟨1, 3⟩ : S32) [.int .i64 1, .int .i64 3] from (k32_mkM _ _ _ (⟨1, 3⟩ : S32) )) (Reps.none _ _))); intro v161 w50 ho51 hb hg_ hnew_; clear hg_ hnew_; (first | rw [← Ny160.out] at ho51 | (simp only [Int.reduceToNat] at ho51; rw [← Ny160.out] at ho51)); have n0_ := Aside0.mk (Kd.R_elder' (by (with_reducible repeat (first | apply Kd.R_alloc | apply Kd.R_drewN | apply Kd.R_drew)); exact HO154.out) (Kd.R_base ho51) hb); have n1_ := Aside0.mk (Kd.R_below (by (with_reducible repeat (first | apply Kd.R_alloc | apply Kd.R_drewN | apply Kd.R_drew)); exact HO157.out) hb); have n2_ := Aside0.mk (Kd.R_lower (Kd.R_new' ho51 (Kd.R_lt (by (with_reducible repeat (first | apply Kd.R_alloc | apply Kd.R_drewN | apply Kd.R_drew)); exact HO154.out))) (below_size (by repeat (first | (with_reducible first | exact HB.out | apply below_alloc | apply pw_below_drewN | apply below_drew1) | exact HB.out)))); have n3_ := Aside0.mk (below_step (by repeat (first | (with_reducible first | exact HB.out | apply below_alloc | apply pw_below_drewN | apply below_drew1) | exact HB.out)) hb); clear HO154; clear HO157; clear HB; have HO154 := n0_; have HO157 := n1_; have HO162 := n2_; have HB := n3_; clear n0_ n1_ n2_ n3_; clear hb ho51) | ((with_reducible refine gate_dst (N := 14) rfl ?_); (try (refine gate_guard (by rfl) ?_; dsimp only)); refine Kd.R_lit Kd.string _ 9 ?hg (N := 14) ?hd (xs := ([(⟨#[120, 121]⟩ : ByteArray)] : List ByteArray)) (inner := [.string (⟨#[120, 121]⟩ : ByteArray)]) (ok := fun _ => True) (okp := fun _ => True) ?hr ?hp (fun _ hk => hk) trivial (Below.refl _ _) (Nat.le_refl _) (by simp) ?_; (case hd => rfl); (case hg => rfl); (case hr => first | (go_simp; done) | (go_simp; rfl)); (case hp => exact (Reps.one (show Kd.M Kd.string _ _ _ (⟨#[120, 121]⟩ : ByteArray) [.string (⟨#[120, 121]⟩ : ByteArray)] from rfl) (Reps.none _ _))); intro v164 w52 ho53 hb hg_ hnew_; clear hg_ hnew_; (first | rw [← Ny163.out] at ho53 | (simp only [Int.reduceToNat] at ho53; rw [← Ny163.out] at ho53)); have n0_ := Aside0.mk (Kd.R_below (by (with_reducible repeat (first | apply Kd.R_alloc | apply Kd.R_drewN | apply Kd.R_drew)); exact HO154.out) hb); have n1_ := Aside0.mk (Kd.R_below (by (with_reducible repeat (first | apply Kd.R_alloc | apply Kd.R_drewN | apply Kd.R_drew)); exact HO157.out) hb); have n2_ := Aside0.mk (Kd.R_below (by (with_reducible repeat (first | apply Kd.R_alloc | apply Kd.R_drewN | apply Kd.R_drew)); exact HO162.out) hb); have n3_ := Aside0.mk (Kd.R_lower ho53 (below_size (by repeat (first | (with_reducible first | exact HB.out | apply below_alloc | apply pw_below_drewN | apply below_drew1) | exact HB.out)))); have n4_ := Aside0.mk (below_step (by repeat (first | (with_reducible first | exact HB.out | apply below_alloc | apply pw_below_drewN | apply below_drew1) | exact HB.out)) hb); clear HO154; clear HO157; clear HO162; clear HB; have HO154 := n0_; have HO157 := n1_; have HO162 := n2_; have HO165 := n3_; have HB := n4_; clear n0_ n1_ n2_ n3_ n4_; clear hb ho53; obtain ⟨Ao54, co54, eo54⟩ := Kd.R_slice HO162.out; subst eo54; obtain ⟨Ao55, co55, eo55⟩ := Kd.R_slice HO165.out; subst eo55) | ((with_reducible refine gate_callee (f := 7) rfl ?_); refine goesL_ (some 15) rfl rfl Try.func7 (by kernel_rfl) rfl #[.int .i64 2, .string (⟨#[97, 98, 99]⟩ : ByteArray), .slice Ao54 y160.length co54, .slice Ao55 y163.length co55] rfl (by (try simp only [List.map_toArray, List.map_cons, List.map_nil]); first | done | rfl | (simp only [List.length_drop, List.length_take]; rfl)) ?_; (with_reducible refine (image_Inputs.calls k 2 (⟨#[97, 98, 99]⟩ : ByteArray) _ _ y160 _ _ y163 t166 _ ?side1 ?side2 ?side3 ?side4 A2.out).mono ?_); (case side1 => repeat (first | exact (Kd.R_reads' HO162.out).2.2 | (with_reducible refine Kd.C_alloc ?_ _) | (with_reducible refine Kd.C_drewN ?_ _) | (with_reducible refine Kd.C_drew ?_))); (case side2 => exact (Kd.R_reads' HO162.out).2.1); (case side3 => repeat (first | exact (Kd.R_reads' HO165.out).2.2 | (with_reducible refine Kd.C_alloc ?_ _) | (with_reducible refine Kd.C_drewN ?_ _) | (with_reducible refine Kd.C_drew ?_))); (case side4 => exact (Kd.R_reads' HO165.out).2.1); rintro e w56 ⟨rfl, hb⟩; refine ⟨_, rfl, ?_⟩; have n0_ := Aside0.mk (Kd.R_below (by (with_reducible repeat (first | apply Kd.R_alloc | apply Kd.R_drewN | apply Kd.R_drew)); exact HO154.out) hb); have n1_ := Aside0.mk (Kd.R_below (by (with_reducible repeat (first | apply Kd.R_alloc | apply Kd.R_drewN | apply Kd.R_drew)); exact HO157.out) hb); have n2_ := Aside0.mk (Kd.R_below (by (with_reducible repeat (first | apply Kd.R_alloc | apply Kd.R_drewN | apply Kd.R_drew)); exact HO162.out) hb); have n3_ := Aside0.mk (Kd.R_below (by (with_reducible repeat (first | apply Kd.R_alloc | apply Kd.R_drewN | apply Kd.R_drew)); exact HO165.out) hb); have n4_ := Aside0.mk (below_step (by repeat (first | (with_reducible first | exact HB.out | apply below_alloc | apply pw_below_drewN | apply below_drew1) | exact HB.out)) hb); clear HO154; clear HO157; clear HO162; clear HO165; clear HB; have HO154 := n0_; have HO157 := n1_; have HO162 := n2_; have HO165 := n3_; have HB := n4_; clear n0_ n1_ n2_ n3_ n4_; (try clear hb); (try clear hb2); (try clear hk); (try clear hi)))
              go_ret
              exact ⟨by first | rfl | (simp [errW_none, errW_some] <;> rfl) | (simp [*, errW_none, errW_some] <;> rfl), by repeat (first | (with_reducible first | exact HB.out | apply below_alloc | apply pw_below_drewN | apply below_drew1) | exact HB.out)⟩
          · rw [if_neg c7] at H
            exact absurd H (by simp)
        · rw [if_neg c6] at H
          exact absurd H (by simp)
      · rw [if_neg c5] at H
        have c5b0 : ((t166.size : Int) == 64) = false := beq_eq_false_iff_ne.mpr c5
        have c5b1 : ((t166.size : Int) != 64) = true := bne_iff_ne.mpr c5
        obtain rfl := Option.some.inj H
        go_enter Try.func6, Try.ntmps6
        go_wp2_with (first | ((with_reducible refine gate_dst (N := 6) rfl ?_); (try (refine gate_guard (by rfl) ?_; dsimp only)); refine Kd.R_lit k32 _ 32 ?hg (N := 6) ?hd (xs := ([(⟨1, 2⟩ : S32)] : List (S32))) (inner := [.int .i64 1, .int .i64 2]) (ok := fun _ => True) (okp := fun _ => True) ?hr ?hp (fun _ hk => hk) trivial (Below.refl _ _) (Nat.le_refl _) (by simp) ?_; (case hd => rfl); (case hg => rfl); (case hr => first | (go_simp; done) | (go_simp; rfl)); (case hp => exact (Reps.c2 (show Kd.M k32 _ _ _ (⟨1, 2⟩ : S32) [.int .i64 1, .int .i64 2] from (k32_mkM _ _ _ (⟨1, 2⟩ : S32) )) (Reps.none _ _))); intro v153 w57 ho58 hb hg_ hnew_; clear hg_ hnew_; (first | rw [← Ny152.out] at ho58 | (simp only [Int.reduceToNat] at ho58; rw [← Ny152.out] at ho58)); have n0_ := Aside0.mk (Kd.R_lower ho58 (below_size (by repeat (first | (with_reducible first | exact HB.out | apply below_alloc | apply pw_below_drewN | apply below_drew1) | exact HB.out)))); have n1_ := Aside0.mk (below_step (by repeat (first | (with_reducible first | exact HB.out | apply below_alloc | apply pw_below_drewN | apply below_drew1) | exact HB.out)) hb); clear HB; have HO154 := n0_; have HB := n1_; clear n0_ n1_; clear hb ho58) | ((with_reducible refine gate_dst (N := 8) rfl ?_); (try (refine gate_guard (by rfl) ?_; dsimp only)); refine Kd.R_lit k34 _ 34 ?hg (N := 8) ?hd (xs := ([(⟨1, 0, 8, false⟩ : S34)] : List (S34))) (inner := [.int .i64 1, .int .i64 0, .int .i64 8, .bool false]) (ok := fun _ => True) (okp := fun _ => True) ?hr ?hp (fun _ hk => hk) trivial (Below.refl _ _) (Nat.le_refl _) (by simp) ?_; (case hd => rfl); (case hg => rfl); (case hr => first | (go_simp; done) | (go_simp; rfl)); (case hp => exact (Reps.c4 (show Kd.M k34 _ _ _ (⟨1, 0, 8, false⟩ : S34) [.int .i64 1, .int .i64 0, .int .i64 8, .bool false] from (k34_mkM _ _ _ (⟨1, 0, 8, false⟩ : S34) )) (Reps.none _ _))); intro v156 w59 ho60 hb hg_ hnew_; clear hg_ hnew_; (first | rw [← Ny155.out] at ho60 | (simp only [Int.reduceToNat] at ho60; rw [← Ny155.out] at ho60)); have n0_ := Aside0.mk (Kd.R_below (by (with_reducible repeat (first | apply Kd.R_alloc | apply Kd.R_drewN | apply Kd.R_drew)); exact HO154.out) hb); have n1_ := Aside0.mk (Kd.R_lower ho60 (below_size (by repeat (first | (with_reducible first | exact HB.out | apply below_alloc | apply pw_below_drewN | apply below_drew1) | exact HB.out)))); have n2_ := Aside0.mk (below_step (by repeat (first | (with_reducible first | exact HB.out | apply below_alloc | apply pw_below_drewN | apply below_drew1) | exact HB.out)) hb); clear HO154; clear HB; have HO154 := n0_; have HO157 := n1_; have HB := n2_; clear n0_ n1_ n2_; clear hb ho60; obtain ⟨Ao61, co61, eo61⟩ := Kd.R_slice HO154.out; subst eo61; obtain ⟨Ao62, co62, eo62⟩ := Kd.R_slice HO157.out; subst eo62) | ((with_reducible refine gate_callee (f := 9) rfl ?_); refine goesL_ (some 9) rfl rfl Try.func9 (by kernel_rfl) rfl #[.int .i64 4, .slice Ao61 y152.length co61, .slice Ao62 y155.length co62] rfl (by (try simp only [List.map_toArray, List.map_cons, List.map_nil]); first | done | rfl | (simp only [List.length_drop, List.length_take]; rfl)) ?_; (with_reducible refine (image_Lay.calls k 4 _ _ y152 _ _ y155 t158 t159 _ ?side1 ?side2 ?side3 ?side4 A1.out).mono ?_); (case side1 => repeat (first | exact (Kd.R_reads' HO154.out).2.2 | (with_reducible refine Kd.C_alloc ?_ _) | (with_reducible refine Kd.C_drewN ?_ _) | (with_reducible refine Kd.C_drew ?_))); (case side2 => exact (Kd.R_reads' HO154.out).2.1); (case side3 => repeat (first | exact (Kd.R_reads' HO157.out).2.2 | (with_reducible refine Kd.C_alloc ?_ _) | (with_reducible refine Kd.C_drewN ?_ _) | (with_reducible refine Kd.C_drew ?_))); (case side4 => exact (Kd.R_reads' HO157.out).2.1); rintro e w63 ⟨rfl, hb⟩; refine ⟨_, rfl, ?_⟩; have n0_ := Aside0.mk (Kd.R_below (by (with_reducible repeat (first | apply Kd.R_alloc | apply Kd.R_drewN | apply Kd.R_drew)); exact HO154.out) hb); have n1_ := Aside0.mk (Kd.R_below (by (with_reducible repeat (first | apply Kd.R_alloc | apply Kd.R_drewN | apply Kd.R_drew)); exact HO157.out) hb); have n2_ := Aside0.mk (below_step (by repeat (first | (with_reducible first | exact HB.out | apply below_alloc | apply pw_below_drewN | apply below_drew1) | exact HB.out)) hb); clear HO154; clear HO157; clear HB; have HO154 := n0_; have HO157 := n1_; have HB := n2_; clear n0_ n1_ n2_; (try clear hb); (try clear hb2); (try clear hk); (try clear hi)) | ((with_reducible refine gate_dst (N := 13) rfl ?_); (try (refine gate_guard (by rfl) ?_; dsimp only)); refine Kd.R_lit k32 _ 32 ?hg (N := 13) ?hd (xs := ([(⟨1, 3⟩ : S32)] : List (S32))) (inner := [.int .i64 1, .int .i64 3]) (ok := fun _ => True) (okp := fun _ => True) ?hr ?hp (fun _ hk => hk) trivial (Below.refl _ _) (Nat.le_refl _) (by simp) ?_; (case hd => rfl); (case hg => rfl); (case hr => first | (go_simp; done) | (go_simp; rfl)); (case hp => exact (Reps.c2 (show Kd.M k32 _ _ _ (⟨1, 3⟩ : S32) [.int .i64 1, .int .i64 3] from (k32_mkM _ _ _ (⟨1, 3⟩ : S32) )) (Reps.none _ _))); intro v161 w64 ho65 hb hg_ hnew_; clear hg_ hnew_; (first | rw [← Ny160.out] at ho65 | (simp only [Int.reduceToNat] at ho65; rw [← Ny160.out] at ho65)); have n0_ := Aside0.mk (Kd.R_elder' (by (with_reducible repeat (first | apply Kd.R_alloc | apply Kd.R_drewN | apply Kd.R_drew)); exact HO154.out) (Kd.R_base ho65) hb); have n1_ := Aside0.mk (Kd.R_below (by (with_reducible repeat (first | apply Kd.R_alloc | apply Kd.R_drewN | apply Kd.R_drew)); exact HO157.out) hb); have n2_ := Aside0.mk (Kd.R_lower (Kd.R_new' ho65 (Kd.R_lt (by (with_reducible repeat (first | apply Kd.R_alloc | apply Kd.R_drewN | apply Kd.R_drew)); exact HO154.out))) (below_size (by repeat (first | (with_reducible first | exact HB.out | apply below_alloc | apply pw_below_drewN | apply below_drew1) | exact HB.out)))); have n3_ := Aside0.mk (below_step (by repeat (first | (with_reducible first | exact HB.out | apply below_alloc | apply pw_below_drewN | apply below_drew1) | exact HB.out)) hb); clear HO154; clear HO157; clear HB; have HO154 := n0_; have HO157 := n1_; have HO162 := n2_; have HB := n3_; clear n0_ n1_ n2_ n3_; clear hb ho65) | ((with_reducible refine gate_dst (N := 14) rfl ?_); (try (refine gate_guard (by rfl) ?_; dsimp only)); refine Kd.R_lit Kd.string _ 9 ?hg (N := 14) ?hd (xs := ([(⟨#[120, 121]⟩ : ByteArray)] : List ByteArray)) (inner := [.string (⟨#[120, 121]⟩ : ByteArray)]) (ok := fun _ => True) (okp := fun _ => True) ?hr ?hp (fun _ hk => hk) trivial (Below.refl _ _) (Nat.le_refl _) (by simp) ?_; (case hd => rfl); (case hg => rfl); (case hr => first | (go_simp; done) | (go_simp; rfl)); (case hp => exact (Reps.one (show Kd.M Kd.string _ _ _ (⟨#[120, 121]⟩ : ByteArray) [.string (⟨#[120, 121]⟩ : ByteArray)] from rfl) (Reps.none _ _))); intro v164 w66 ho67 hb hg_ hnew_; clear hg_ hnew_; (first | rw [← Ny163.out] at ho67 | (simp only [Int.reduceToNat] at ho67; rw [← Ny163.out] at ho67)); have n0_ := Aside0.mk (Kd.R_below (by (with_reducible repeat (first | apply Kd.R_alloc | apply Kd.R_drewN | apply Kd.R_drew)); exact HO154.out) hb); have n1_ := Aside0.mk (Kd.R_below (by (with_reducible repeat (first | apply Kd.R_alloc | apply Kd.R_drewN | apply Kd.R_drew)); exact HO157.out) hb); have n2_ := Aside0.mk (Kd.R_below (by (with_reducible repeat (first | apply Kd.R_alloc | apply Kd.R_drewN | apply Kd.R_drew)); exact HO162.out) hb); have n3_ := Aside0.mk (Kd.R_lower ho67 (below_size (by repeat (first | (with_reducible first | exact HB.out | apply below_alloc | apply pw_below_drewN | apply below_drew1) | exact HB.out)))); have n4_ := Aside0.mk (below_step (by repeat (first | (with_reducible first | exact HB.out | apply below_alloc | apply pw_below_drewN | apply below_drew1) | exact HB.out)) hb); clear HO154; clear HO157; clear HO162; clear HB; have HO154 := n0_; have HO157 := n1_; have HO162 := n2_; have HO165 := n3_; have HB := n4_; clear n0_ n1_ n2_ n3_ n4_; clear hb ho67; obtain ⟨Ao68, co68, eo68⟩ := Kd.R_slice HO162.out; subst eo68; obtain ⟨Ao69, co69, eo69⟩ := Kd.R_slice HO165.out; subst eo69) | ((with_reducible refine gate_callee (f := 7) rfl ?_); refine goesL_ (some 15) rfl rfl Try.func7 (by kernel_rfl) rfl #[.int .i64 2, .string (⟨#[97, 98, 99]⟩ : ByteArray), .slice Ao68 y160.length co68, .slice Ao69 y163.length co69] rfl (by (try simp only [List.map_toArray, List.map_cons, List.map_nil]); first | done | rfl | (simp only [List.length_drop, List.length_take]; rfl)) ?_; (with_reducible refine (image_Inputs.calls k 2 (⟨#[97, 98, 99]⟩ : ByteArray) _ _ y160 _ _ y163 t166 _ ?side1 ?side2 ?side3 ?side4 A2.out).mono ?_); (case side1 => repeat (first | exact (Kd.R_reads' HO162.out).2.2 | (with_reducible refine Kd.C_alloc ?_ _) | (with_reducible refine Kd.C_drewN ?_ _) | (with_reducible refine Kd.C_drew ?_))); (case side2 => exact (Kd.R_reads' HO162.out).2.1); (case side3 => repeat (first | exact (Kd.R_reads' HO165.out).2.2 | (with_reducible refine Kd.C_alloc ?_ _) | (with_reducible refine Kd.C_drewN ?_ _) | (with_reducible refine Kd.C_drew ?_))); (case side4 => exact (Kd.R_reads' HO165.out).2.1); rintro e w70 ⟨rfl, hb⟩; refine ⟨_, rfl, ?_⟩; have n0_ := Aside0.mk (Kd.R_below (by (with_reducible repeat (first | apply Kd.R_alloc | apply Kd.R_drewN | apply Kd.R_drew)); exact HO154.out) hb); have n1_ := Aside0.mk (Kd.R_below (by (with_reducible repeat (first | apply Kd.R_alloc | apply Kd.R_drewN | apply Kd.R_drew)); exact HO157.out) hb); have n2_ := Aside0.mk (Kd.R_below (by (with_reducible repeat (first | apply Kd.R_alloc | apply Kd.R_drewN | apply Kd.R_drew)); exact HO162.out) hb); have n3_ := Aside0.mk (Kd.R_below (by (with_reducible repeat (first | apply Kd.R_alloc | apply Kd.R_drewN | apply Kd.R_drew)); exact HO165.out) hb); have n4_ := Aside0.mk (below_step (by repeat (first | (with_reducible first | exact HB.out | apply below_alloc | apply pw_below_drewN | apply below_drew1) | exact HB.out)) hb); clear HO154; clear HO157; clear HO162; clear HO165; clear HB; have HO154 := n0_; have HO157 := n1_; have HO162 := n2_; have HO165 := n3_; have HB := n4_; clear n0_ n1_ n2_ n3_ n4_; (try clear hb); (try clear hb2); (try clear hk); (try clear hi)))
        go_ret
        exact ⟨by first | rfl | (simp [errW_none, errW_some] <;> rfl) | (simp [*, errW_none, errW_some] <;> rfl), by repeat (first | (with_reducible first | exact HB.out | apply below_alloc | apply pw_below_drewN | apply below_drew1) | exact HB.out)⟩
    · rw [if_neg c4] at H
      have c4b0 : (t159 == 0) = false := beq_eq_false_iff_ne.mpr c4
      have c4b1 : (t159 != 0) = true := bne_iff_ne.mpr c4
      obtain rfl := Option.some.inj H
      go_enter Try.func6, Try.ntmps6
      go_wp2_with (first | ((with_reducible refine gate_dst (N := 6) rfl ?_); (try (refine gate_guard (by rfl) ?_; dsimp only)); refine Kd.R_lit k32 _ 32 ?hg (N := 6) ?hd (xs := ([(⟨1, 2⟩ : S32)] : List (S32))) (inner := [.int .i64 1, .int .i64 2]) (ok := fun _ => True) (okp := fun _ => True) ?hr ?hp (fun _ hk => hk) trivial (Below.refl _ _) (Nat.le_refl _) (by simp) ?_; (case hd => rfl); (case hg => rfl); (case hr => first | (go_simp; done) | (go_simp; rfl)); (case hp => exact (Reps.c2 (show Kd.M k32 _ _ _ (⟨1, 2⟩ : S32) [.int .i64 1, .int .i64 2] from (k32_mkM _ _ _ (⟨1, 2⟩ : S32) )) (Reps.none _ _))); intro v153 w71 ho72 hb hg_ hnew_; clear hg_ hnew_; (first | rw [← Ny152.out] at ho72 | (simp only [Int.reduceToNat] at ho72; rw [← Ny152.out] at ho72)); have n0_ := Aside0.mk (Kd.R_lower ho72 (below_size (by repeat (first | (with_reducible first | exact HB.out | apply below_alloc | apply pw_below_drewN | apply below_drew1) | exact HB.out)))); have n1_ := Aside0.mk (below_step (by repeat (first | (with_reducible first | exact HB.out | apply below_alloc | apply pw_below_drewN | apply below_drew1) | exact HB.out)) hb); clear HB; have HO154 := n0_; have HB := n1_; clear n0_ n1_; clear hb ho72) | ((with_reducible refine gate_dst (N := 8) rfl ?_); (try (refine gate_guard (by rfl) ?_; dsimp only)); refine Kd.R_lit k34 _ 34 ?hg (N := 8) ?hd (xs := ([(⟨1, 0, 8, false⟩ : S34)] : List (S34))) (inner := [.int .i64 1, .int .i64 0, .int .i64 8, .bool false]) (ok := fun _ => True) (okp := fun _ => True) ?hr ?hp (fun _ hk => hk) trivial (Below.refl _ _) (Nat.le_refl _) (by simp) ?_; (case hd => rfl); (case hg => rfl); (case hr => first | (go_simp; done) | (go_simp; rfl)); (case hp => exact (Reps.c4 (show Kd.M k34 _ _ _ (⟨1, 0, 8, false⟩ : S34) [.int .i64 1, .int .i64 0, .int .i64 8, .bool false] from (k34_mkM _ _ _ (⟨1, 0, 8, false⟩ : S34) )) (Reps.none _ _))); intro v156 w73 ho74 hb hg_ hnew_; clear hg_ hnew_; (first | rw [← Ny155.out] at ho74 | (simp only [Int.reduceToNat] at ho74; rw [← Ny155.out] at ho74)); have n0_ := Aside0.mk (Kd.R_below (by (with_reducible repeat (first | apply Kd.R_alloc | apply Kd.R_drewN | apply Kd.R_drew)); exact HO154.out) hb); have n1_ := Aside0.mk (Kd.R_lower ho74 (below_size (by repeat (first | (with_reducible first | exact HB.out | apply below_alloc | apply pw_below_drewN | apply below_drew1) | exact HB.out)))); have n2_ := Aside0.mk (below_step (by repeat (first | (with_reducible first | exact HB.out | apply below_alloc | apply pw_below_drewN | apply below_drew1) | exact HB.out)) hb); clear HO154; clear HB; have HO154 := n0_; have HO157 := n1_; have HB := n2_; clear n0_ n1_ n2_; clear hb ho74; obtain ⟨Ao75, co75, eo75⟩ := Kd.R_slice HO154.out; subst eo75; obtain ⟨Ao76, co76, eo76⟩ := Kd.R_slice HO157.out; subst eo76) | ((with_reducible refine gate_callee (f := 9) rfl ?_); refine goesL_ (some 9) rfl rfl Try.func9 (by kernel_rfl) rfl #[.int .i64 4, .slice Ao75 y152.length co75, .slice Ao76 y155.length co76] rfl (by (try simp only [List.map_toArray, List.map_cons, List.map_nil]); first | done | rfl | (simp only [List.length_drop, List.length_take]; rfl)) ?_; (with_reducible refine (image_Lay.calls k 4 _ _ y152 _ _ y155 t158 t159 _ ?side1 ?side2 ?side3 ?side4 A1.out).mono ?_); (case side1 => repeat (first | exact (Kd.R_reads' HO154.out).2.2 | (with_reducible refine Kd.C_alloc ?_ _) | (with_reducible refine Kd.C_drewN ?_ _) | (with_reducible refine Kd.C_drew ?_))); (case side2 => exact (Kd.R_reads' HO154.out).2.1); (case side3 => repeat (first | exact (Kd.R_reads' HO157.out).2.2 | (with_reducible refine Kd.C_alloc ?_ _) | (with_reducible refine Kd.C_drewN ?_ _) | (with_reducible refine Kd.C_drew ?_))); (case side4 => exact (Kd.R_reads' HO157.out).2.1); rintro e w77 ⟨rfl, hb⟩; refine ⟨_, rfl, ?_⟩; have n0_ := Aside0.mk (Kd.R_below (by (with_reducible repeat (first | apply Kd.R_alloc | apply Kd.R_drewN | apply Kd.R_drew)); exact HO154.out) hb); have n1_ := Aside0.mk (Kd.R_below (by (with_reducible repeat (first | apply Kd.R_alloc | apply Kd.R_drewN | apply Kd.R_drew)); exact HO157.out) hb); have n2_ := Aside0.mk (below_step (by repeat (first | (with_reducible first | exact HB.out | apply below_alloc | apply pw_below_drewN | apply below_drew1) | exact HB.out)) hb); clear HO154; clear HO157; clear HB; have HO154 := n0_; have HO157 := n1_; have HB := n2_; clear n0_ n1_ n2_; (try clear hb); (try clear hb2); (try clear hk); (try clear hi)) | ((with_reducible refine gate_dst (N := 13) rfl ?_); (try (refine gate_guard (by rfl) ?_; dsimp only)); refine Kd.R_lit k32 _ 32 ?hg (N := 13) ?hd (xs := ([(⟨1, 3⟩ : S32)] : List (S32))) (inner := [.int .i64 1, .int .i64 3]) (ok := fun _ => True) (okp := fun _ => True) ?hr ?hp (fun _ hk => hk) trivial (Below.refl _ _) (Nat.le_refl _) (by simp) ?_; (case hd => rfl); (case hg => rfl); (case hr => first | (go_simp; done) | (go_simp; rfl)); (case hp => exact (Reps.c2 (show Kd.M k32 _ _ _ (⟨1, 3⟩ : S32) [.int .i64 1, .int .i64 3] from (k32_mkM _ _ _ (⟨1, 3⟩ : S32) )) (Reps.none _ _))); intro v161 w78 ho79 hb hg_ hnew_; clear hg_ hnew_; (first | rw [← Ny160.out] at ho79 | (simp only [Int.reduceToNat] at ho79; rw [← Ny160.out] at ho79)); have n0_ := Aside0.mk (Kd.R_elder' (by (with_reducible repeat (first | apply Kd.R_alloc | apply Kd.R_drewN | apply Kd.R_drew)); exact HO154.out) (Kd.R_base ho79) hb); have n1_ := Aside0.mk (Kd.R_below (by (with_reducible repeat (first | apply Kd.R_alloc | apply Kd.R_drewN | apply Kd.R_drew)); exact HO157.out) hb); have n2_ := Aside0.mk (Kd.R_lower (Kd.R_new' ho79 (Kd.R_lt (by (with_reducible repeat (first | apply Kd.R_alloc | apply Kd.R_drewN | apply Kd.R_drew)); exact HO154.out))) (below_size (by repeat (first | (with_reducible first | exact HB.out | apply below_alloc | apply pw_below_drewN | apply below_drew1) | exact HB.out)))); have n3_ := Aside0.mk (below_step (by repeat (first | (with_reducible first | exact HB.out | apply below_alloc | apply pw_below_drewN | apply below_drew1) | exact HB.out)) hb); clear HO154; clear HO157; clear HB; have HO154 := n0_; have HO157 := n1_; have HO162 := n2_; have HB := n3_; clear n0_ n1_ n2_ n3_; clear hb ho79) | ((with_reducible refine gate_dst (N := 14) rfl ?_); (try (refine gate_guard (by rfl) ?_; dsimp only)); refine Kd.R_lit Kd.string _ 9 ?hg (N := 14) ?hd (xs := ([(⟨#[120, 121]⟩ : ByteArray)] : List ByteArray)) (inner := [.string (⟨#[120, 121]⟩ : ByteArray)]) (ok := fun _ => True) (okp := fun _ => True) ?hr ?hp (fun _ hk => hk) trivial (Below.refl _ _) (Nat.le_refl _) (by simp) ?_; (case hd => rfl); (case hg => rfl); (case hr => first | (go_simp; done) | (go_simp; rfl)); (case hp => exact (Reps.one (show Kd.M Kd.string _ _ _ (⟨#[120, 121]⟩ : ByteArray) [.string (⟨#[120, 121]⟩ : ByteArray)] from rfl) (Reps.none _ _))); intro v164 w80 ho81 hb hg_ hnew_; clear hg_ hnew_; (first | rw [← Ny163.out] at ho81 | (simp only [Int.reduceToNat] at ho81; rw [← Ny163.out] at ho81)); have n0_ := Aside0.mk (Kd.R_below (by (with_reducible repeat (first | apply Kd.R_alloc | apply Kd.R_drewN | apply Kd.R_drew)); exact HO154.out) hb); have n1_ := Aside0.mk (Kd.R_below (by (with_reducible repeat (first | apply Kd.R_alloc | apply Kd.R_drewN | apply Kd.R_drew)); exact HO157.out) hb); have n2_ := Aside0.mk (Kd.R_below (by (with_reducible repeat (first | apply Kd.R_alloc | apply Kd.R_drewN | apply Kd.R_drew)); exact HO162.out) hb); have n3_ := Aside0.mk (Kd.R_lower ho81 (below_size (by repeat (first | (with_reducible first | exact HB.out | apply below_alloc | apply pw_below_drewN | apply below_drew1) | exact HB.out)))); have n4_ := Aside0.mk (below_step (by repeat (first | (with_reducible first | exact HB.out | apply below_alloc | apply pw_below_drewN | apply below_drew1) | exact HB.out)) hb); clear HO154; clear HO157; clear HO162; clear HB; have HO154 := n0_; have HO157 := n1_; have HO162 := n2_; have HO165 := n3_; have HB := n4_; clear n0_ n1_ n2_ n3_ n4_; clear hb ho81; obtain ⟨Ao82, co82, eo82⟩ := Kd.R_slice HO162.out; subst eo82; obtain ⟨Ao83, co83, eo83⟩ := Kd.R_slice HO165.out; subst eo83) | ((with_reducible refine gate_callee (f := 7) rfl ?_); refine goesL_ (some 15) rfl rfl Try.func7 (by kernel_rfl) rfl #[.int .i64 2, .string (⟨#[97, 98, 99]⟩ : ByteArray), .slice Ao82 y160.length co82, .slice Ao83 y163.length co83] rfl (by (try simp only [List.map_toArray, List.map_cons, List.map_nil]); first | done | rfl | (simp only [List.length_drop, List.length_take]; rfl)) ?_; (with_reducible refine (image_Inputs.calls k 2 (⟨#[97, 98, 99]⟩ : ByteArray) _ _ y160 _ _ y163 t166 _ ?side1 ?side2 ?side3 ?side4 A2.out).mono ?_); (case side1 => repeat (first | exact (Kd.R_reads' HO162.out).2.2 | (with_reducible refine Kd.C_alloc ?_ _) | (with_reducible refine Kd.C_drewN ?_ _) | (with_reducible refine Kd.C_drew ?_))); (case side2 => exact (Kd.R_reads' HO162.out).2.1); (case side3 => repeat (first | exact (Kd.R_reads' HO165.out).2.2 | (with_reducible refine Kd.C_alloc ?_ _) | (with_reducible refine Kd.C_drewN ?_ _) | (with_reducible refine Kd.C_drew ?_))); (case side4 => exact (Kd.R_reads' HO165.out).2.1); rintro e w84 ⟨rfl, hb⟩; refine ⟨_, rfl, ?_⟩; have n0_ := Aside0.mk (Kd.R_below (by (with_reducible repeat (first | apply Kd.R_alloc | apply Kd.R_drewN | apply Kd.R_drew)); exact HO154.out) hb); have n1_ := Aside0.mk (Kd.R_below (by (with_reducible repeat (first | apply Kd.R_alloc | apply Kd.R_drewN | apply Kd.R_drew)); exact HO157.out) hb); have n2_ := Aside0.mk (Kd.R_below (by (with_reducible repeat (first | apply Kd.R_alloc | apply Kd.R_drewN | apply Kd.R_drew)); exact HO162.out) hb); have n3_ := Aside0.mk (Kd.R_below (by (with_reducible repeat (first | apply Kd.R_alloc | apply Kd.R_drewN | apply Kd.R_drew)); exact HO165.out) hb); have n4_ := Aside0.mk (below_step (by repeat (first | (with_reducible first | exact HB.out | apply below_alloc | apply pw_below_drewN | apply below_drew1) | exact HB.out)) hb); clear HO154; clear HO157; clear HO162; clear HO165; clear HB; have HO154 := n0_; have HO157 := n1_; have HO162 := n2_; have HO165 := n3_; have HB := n4_; clear n0_ n1_ n2_ n3_ n4_; (try clear hb); (try clear hb2); (try clear hk); (try clear hi)))
      go_ret
      exact ⟨by first | rfl | (simp [errW_none, errW_some] <;> rfl) | (simp [*, errW_none, errW_some] <;> rfl), by repeat (first | (with_reducible first | exact HB.out | apply below_alloc | apply pw_below_drewN | apply below_drew1) | exact HB.out)⟩
  · rw [if_neg c3] at H
    have c3b0 : (t158 == 15) = false := beq_eq_false_iff_ne.mpr c3
    have c3b1 : (t158 != 15) = true := bne_iff_ne.mpr c3
    obtain rfl := Option.some.inj H
    go_enter Try.func6, Try.ntmps6
    go_wp2_with (first | ((with_reducible refine gate_dst (N := 6) rfl ?_); (try (refine gate_guard (by rfl) ?_; dsimp only)); refine Kd.R_lit k32 _ 32 ?hg (N := 6) ?hd (xs := ([(⟨1, 2⟩ : S32)] : List (S32))) (inner := [.int .i64 1, .int .i64 2]) (ok := fun _ => True) (okp := fun _ => True) ?hr ?hp (fun _ hk => hk) trivial (Below.refl _ _) (Nat.le_refl _) (by simp) ?_; (case hd => rfl); (case hg => rfl); (case hr => first | (go_simp; done) | (go_simp; rfl)); (case hp => exact (Reps.c2 (show Kd.M k32 _ _ _ (⟨1, 2⟩ : S32) [.int .i64 1, .int .i64 2] from (k32_mkM _ _ _ (⟨1, 2⟩ : S32) )) (Reps.none _ _))); intro v153 w85 ho86 hb hg_ hnew_; clear hg_ hnew_; (first | rw [← Ny152.out] at ho86 | (simp only [Int.reduceToNat] at ho86; rw [← Ny152.out] at ho86)); have n0_ := Aside0.mk (Kd.R_lower ho86 (below_size (by repeat (first | (with_reducible first | exact HB.out | apply below_alloc | apply pw_below_drewN | apply below_drew1) | exact HB.out)))); have n1_ := Aside0.mk (below_step (by repeat (first | (with_reducible first | exact HB.out | apply below_alloc | apply pw_below_drewN | apply below_drew1) | exact HB.out)) hb); clear HB; have HO154 := n0_; have HB := n1_; clear n0_ n1_; clear hb ho86) | ((with_reducible refine gate_dst (N := 8) rfl ?_); (try (refine gate_guard (by rfl) ?_; dsimp only)); refine Kd.R_lit k34 _ 34 ?hg (N := 8) ?hd (xs := ([(⟨1, 0, 8, false⟩ : S34)] : List (S34))) (inner := [.int .i64 1, .int .i64 0, .int .i64 8, .bool false]) (ok := fun _ => True) (okp := fun _ => True) ?hr ?hp (fun _ hk => hk) trivial (Below.refl _ _) (Nat.le_refl _) (by simp) ?_; (case hd => rfl); (case hg => rfl); (case hr => first | (go_simp; done) | (go_simp; rfl)); (case hp => exact (Reps.c4 (show Kd.M k34 _ _ _ (⟨1, 0, 8, false⟩ : S34) [.int .i64 1, .int .i64 0, .int .i64 8, .bool false] from (k34_mkM _ _ _ (⟨1, 0, 8, false⟩ : S34) )) (Reps.none _ _))); intro v156 w87 ho88 hb hg_ hnew_; clear hg_ hnew_; (first | rw [← Ny155.out] at ho88 | (simp only [Int.reduceToNat] at ho88; rw [← Ny155.out] at ho88)); have n0_ := Aside0.mk (Kd.R_below (by (with_reducible repeat (first | apply Kd.R_alloc | apply Kd.R_drewN | apply Kd.R_drew)); exact HO154.out) hb); have n1_ := Aside0.mk (Kd.R_lower ho88 (below_size (by repeat (first | (with_reducible first | exact HB.out | apply below_alloc | apply pw_below_drewN | apply below_drew1) | exact HB.out)))); have n2_ := Aside0.mk (below_step (by repeat (first | (with_reducible first | exact HB.out | apply below_alloc | apply pw_below_drewN | apply below_drew1) | exact HB.out)) hb); clear HO154; clear HB; have HO154 := n0_; have HO157 := n1_; have HB := n2_; clear n0_ n1_ n2_; clear hb ho88; obtain ⟨Ao89, co89, eo89⟩ := Kd.R_slice HO154.out; subst eo89; obtain ⟨Ao90, co90, eo90⟩ := Kd.R_slice HO157.out; subst eo90) | ((with_reducible refine gate_callee (f := 9) rfl ?_); refine goesL_ (some 9) rfl rfl Try.func9 (by kernel_rfl) rfl #[.int .i64 4, .slice Ao89 y152.length co89, .slice Ao90 y155.length co90] rfl (by (try simp only [List.map_toArray, List.map_cons, List.map_nil]); first | done | rfl | (simp only [List.length_drop, List.length_take]; rfl)) ?_; (with_reducible refine (image_Lay.calls k 4 _ _ y152 _ _ y155 t158 t159 _ ?side1 ?side2 ?side3 ?side4 A1.out).mono ?_); (case side1 => repeat (first | exact (Kd.R_reads' HO154.out).2.2 | (with_reducible refine Kd.C_alloc ?_ _) | (with_reducible refine Kd.C_drewN ?_ _) | (with_reducible refine Kd.C_drew ?_))); (case side2 => exact (Kd.R_reads' HO154.out).2.1); (case side3 => repeat (first | exact (Kd.R_reads' HO157.out).2.2 | (with_reducible refine Kd.C_alloc ?_ _) | (with_reducible refine Kd.C_drewN ?_ _) | (with_reducible refine Kd.C_drew ?_))); (case side4 => exact (Kd.R_reads' HO157.out).2.1); rintro e w91 ⟨rfl, hb⟩; refine ⟨_, rfl, ?_⟩; have n0_ := Aside0.mk (Kd.R_below (by (with_reducible repeat (first | apply Kd.R_alloc | apply Kd.R_drewN | apply Kd.R_drew)); exact HO154.out) hb); have n1_ := Aside0.mk (Kd.R_below (by (with_reducible repeat (first | apply Kd.R_alloc | apply Kd.R_drewN | apply Kd.R_drew)); exact HO157.out) hb); have n2_ := Aside0.mk (below_step (by repeat (first | (with_reducible first | exact HB.out | apply below_alloc | apply pw_below_drewN | apply below_drew1) | exact HB.out)) hb); clear HO154; clear HO157; clear HB; have HO154 := n0_; have HO157 := n1_; have HB := n2_; clear n0_ n1_ n2_; (try clear hb); (try clear hb2); (try clear hk); (try clear hi)) | ((with_reducible refine gate_dst (N := 13) rfl ?_); (try (refine gate_guard (by rfl) ?_; dsimp only)); refine Kd.R_lit k32 _ 32 ?hg (N := 13) ?hd (xs := ([(⟨1, 3⟩ : S32)] : List (S32))) (inner := [.int .i64 1, .int .i64 3]) (ok := fun _ => True) (okp := fun _ => True) ?hr ?hp (fun _ hk => hk) trivial (Below.refl _ _) (Nat.le_refl _) (by simp) ?_; (case hd => rfl); (case hg => rfl); (case hr => first | (go_simp; done) | (go_simp; rfl)); (case hp => exact (Reps.c2 (show Kd.M k32 _ _ _ (⟨1, 3⟩ : S32) [.int .i64 1, .int .i64 3] from (k32_mkM _ _ _ (⟨1, 3⟩ : S32) )) (Reps.none _ _))); intro v161 w92 ho93 hb hg_ hnew_; clear hg_ hnew_; (first | rw [← Ny160.out] at ho93 | (simp only [Int.reduceToNat] at ho93; rw [← Ny160.out] at ho93)); have n0_ := Aside0.mk (Kd.R_elder' (by (with_reducible repeat (first | apply Kd.R_alloc | apply Kd.R_drewN | apply Kd.R_drew)); exact HO154.out) (Kd.R_base ho93) hb); have n1_ := Aside0.mk (Kd.R_below (by (with_reducible repeat (first | apply Kd.R_alloc | apply Kd.R_drewN | apply Kd.R_drew)); exact HO157.out) hb); have n2_ := Aside0.mk (Kd.R_lower (Kd.R_new' ho93 (Kd.R_lt (by (with_reducible repeat (first | apply Kd.R_alloc | apply Kd.R_drewN | apply Kd.R_drew)); exact HO154.out))) (below_size (by repeat (first | (with_reducible first | exact HB.out | apply below_alloc | apply pw_below_drewN | apply below_drew1) | exact HB.out)))); have n3_ := Aside0.mk (below_step (by repeat (first | (with_reducible first | exact HB.out | apply below_alloc | apply pw_below_drewN | apply below_drew1) | exact HB.out)) hb); clear HO154; clear HO157; clear HB; have HO154 := n0_; have HO157 := n1_; have HO162 := n2_; have HB := n3_; clear n0_ n1_ n2_ n3_; clear hb ho93) | ((with_reducible refine gate_dst (N := 14) rfl ?_); (try (refine gate_guard (by rfl) ?_; dsimp only)); refine Kd.R_lit Kd.string _ 9 ?hg (N := 14) ?hd (xs := ([(⟨#[120, 121]⟩ : ByteArray)] : List ByteArray)) (inner := [.string (⟨#[120, 121]⟩ : ByteArray)]) (ok := fun _ => True) (okp := fun _ => True) ?hr ?hp (fun _ hk => hk) trivial (Below.refl _ _) (Nat.le_refl _) (by simp) ?_; (case hd => rfl); (case hg => rfl); (case hr => first | (go_simp; done) | (go_simp; rfl)); (case hp => exact (Reps.one (show Kd.M Kd.string _ _ _ (⟨#[120, 121]⟩ : ByteArray) [.string (⟨#[120, 121]⟩ : ByteArray)] from rfl) (Reps.none _ _))); intro v164 w94 ho95 hb hg_ hnew_; clear hg_ hnew_; (first | rw [← Ny163.out] at ho95 | (simp only [Int.reduceToNat] at ho95; rw [← Ny163.out] at ho95)); have n0_ := Aside0.mk (Kd.R_below (by (with_reducible repeat (first | apply Kd.R_alloc | apply Kd.R_drewN | apply Kd.R_drew)); exact HO154.out) hb); have n1_ := Aside0.mk (Kd.R_below (by (with_reducible repeat (first | apply Kd.R_alloc | apply Kd.R_drewN | apply Kd.R_drew)); exact HO157.out) hb); have n2_ := Aside0.mk (Kd.R_below (by (with_reducible repeat (first | apply Kd.R_alloc | apply Kd.R_drewN | apply Kd.R_drew)); exact HO162.out) hb); have n3_ := Aside0.mk (Kd.R_lower ho95 (below_size (by repeat (first | (with_reducible first | exact HB.out | apply below_alloc | apply pw_below_drewN | apply below_drew1) | exact HB.out)))); have n4_ := Aside0.mk (below_step (by repeat (first | (with_reducible first | exact HB.out | apply below_alloc | apply pw_below_drewN | apply below_drew1) | exact HB.out)) hb); clear HO154; clear HO157; clear HO162; clear HB; have HO154 := n0_; have HO157 := n1_; have HO162 := n2_; have HO165 := n3_; have HB := n4_; clear n0_ n1_ n2_ n3_ n4_; clear hb ho95; obtain ⟨Ao96, co96, eo96⟩ := Kd.R_slice HO162.out; subst eo96; obtain ⟨Ao97, co97, eo97⟩ := Kd.R_slice HO165.out; subst eo97) | ((with_reducible refine gate_callee (f := 7) rfl ?_); refine goesL_ (some 15) rfl rfl Try.func7 (by kernel_rfl) rfl #[.int .i64 2, .string (⟨#[97, 98, 99]⟩ : ByteArray), .slice Ao96 y160.length co96, .slice Ao97 y163.length co97] rfl (by (try simp only [List.map_toArray, List.map_cons, List.map_nil]); first | done | rfl | (simp only [List.length_drop, List.length_take]; rfl)) ?_; (with_reducible refine (image_Inputs.calls k 2 (⟨#[97, 98, 99]⟩ : ByteArray) _ _ y160 _ _ y163 t166 _ ?side1 ?side2 ?side3 ?side4 A2.out).mono ?_); (case side1 => repeat (first | exact (Kd.R_reads' HO162.out).2.2 | (with_reducible refine Kd.C_alloc ?_ _) | (with_reducible refine Kd.C_drewN ?_ _) | (with_reducible refine Kd.C_drew ?_))); (case side2 => exact (Kd.R_reads' HO162.out).2.1); (case side3 => repeat (first | exact (Kd.R_reads' HO165.out).2.2 | (with_reducible refine Kd.C_alloc ?_ _) | (with_reducible refine Kd.C_drewN ?_ _) | (with_reducible refine Kd.C_drew ?_))); (case side4 => exact (Kd.R_reads' HO165.out).2.1); rintro e w98 ⟨rfl, hb⟩; refine ⟨_, rfl, ?_⟩; have n0_ := Aside0.mk (Kd.R_below (by (with_reducible repeat (first | apply Kd.R_alloc | apply Kd.R_drewN | apply Kd.R_drew)); exact HO154.out) hb); have n1_ := Aside0.mk (Kd.R_below (by (with_reducible repeat (first | apply Kd.R_alloc | apply Kd.R_drewN | apply Kd.R_drew)); exact HO157.out) hb); have n2_ := Aside0.mk (Kd.R_below (by (with_reducible repeat (first | apply Kd.R_alloc | apply Kd.R_drewN | apply Kd.R_drew)); exact HO162.out) hb); have n3_ := Aside0.mk (Kd.R_below (by (with_reducible repeat (first | apply Kd.R_alloc | apply Kd.R_drewN | apply Kd.R_drew)); exact HO165.out) hb); have n4_ := Aside0.mk (below_step (by repeat (first | (with_reducible first | exact HB.out | apply below_alloc | apply pw_below_drewN | apply below_drew1) | exact HB.out)) hb); clear HO154; clear HO157; clear HO162; clear HO165; clear HB; have HO154 := n0_; have HO157 := n1_; have HO162 := n2_; have HO165 := n3_; have HB := n4_; clear n0_ n1_ n2_ n3_ n4_; (try clear hb); (try clear hb2); (try clear hk); (try clear hi)))
    go_ret
    exact ⟨by first | rfl | (simp [errW_none, errW_some] <;> rfl) | (simp [*, errW_none, errW_some] <;> rfl), by repeat (first | (with_reducible first | exact HB.out | apply below_alloc | apply pw_below_drewN | apply below_drew1) | exact HB.out)⟩

/-! ### fuglemanref16_Find: function 10 -/
def fuglemanref16_Find.l0 : Nat → List (S34) → Int → Int → Option (Int × Int × Int × Bool × Bool)
  | 0, _, _, _ => none
  | k + 1, x0, x1, x6 => if x6 < (x0.length : Int) then (if 0 ≤ x6 then (if ((rd_T34 x0 x6).f0) = x1 then (some ((rd_T34 x0 x6).f0, (rd_T34 x0 x6).f1, (rd_T34 x0 x6).f2, (rd_T34 x0 x6).f3, true)) else (fuglemanref16_Find.l0 k x0 x1 (wrap64 (x6 + 1)))) else (none)) else (some (0, 0, 0, false, false))
def fuglemanref16_Find.f (k : Nat) (l0 : List (S34)) (a1 : Int) : Option (Int × Int × Int × Bool × Bool) := fuglemanref16_Find.l0 k l0 a1 0
theorem fuglemanref16_Find.mono_l : ∀ k, (∀ y0 y1 y2, LeO (fuglemanref16_Find.l0 k y0 y1 y2) (fuglemanref16_Find.l0 (k + 1) y0 y1 y2))
  | 0 => fun _ _ _ r h => by simp [fuglemanref16_Find.l0] at h
  | k + 1 => by
    have ih0 := fuglemanref16_Find.mono_l k
    · intro y0 y1 y2
      unfold fuglemanref16_Find.l0
      repeat' first
      | (with_reducible exact ih0 _ _ _)
      | (with_reducible exact LeO.refl _)
      | (with_reducible exact LeO.none _)
      | (with_reducible refine LeO.ite ?_ ?_)
      | (with_reducible refine LeO.bind ?_ (fun _ => ?_))
      | exact ih0 _ _ _
      | exact LeO.none _
      | refine LeO.ite ?_ ?_
      | refine LeO.bind ?_ (fun _ => ?_)
theorem fuglemanref16_Find.mono : ∀ a0 a1 k, LeO (fuglemanref16_Find.f k a0 a1) (fuglemanref16_Find.f (k + 1) a0 a1) := by
  intro a0 a1 k
  have ih0 := fuglemanref16_Find.mono_l k
  unfold fuglemanref16_Find.f
  repeat' first
      | (with_reducible exact ih0 _ _ _)
      | (with_reducible exact LeO.refl _)
      | (with_reducible exact LeO.none _)
      | (with_reducible refine LeO.ite ?_ ?_)
      | (with_reducible refine LeO.bind ?_ (fun _ => ?_))
      | exact ih0 _ _ _
      | exact LeO.none _
      | refine LeO.ite ?_ ?_
      | refine LeO.bind ?_ (fun _ => ?_)
set_option maxHeartbeats 8000000 in
set_option maxRecDepth 100000 in
theorem fuglemanref16_Find.calls (k : Nat) (A0 : Option Addr) (c0 : Nat) (l0 : List (S34)) (a1 : Int) (r1 : Int) (r2 : Int) (r3 : Int) (r4 : Bool) (r5 : Bool) (w : World) (hr0 : Kd.C k34 w A0 l0.length l0) (hc0 : l0.length ≤ c0) (h : fuglemanref16_Find.f k l0 a1 = some (r1, r2, r3, r4, r5)) :
    Calls Try.prog 10 #[.slice A0 l0.length c0, .int .i64 a1] w fun e w' => e = .returned (.tuple #[.agg #[.int .i64 r1, .int .i64 r2, .int .i64 r3, .bool r4], .bool r5]) ∧ Below w.heap.size w w' := by
  have hu34 := Try.underlying34
  have HR0 := Aside0.mk hr0
  have HC0 := Aside0.mk hc0
  clear hr0 hc0
  have HB := Aside0.mk (Below.refl w.heap.size w)
  have H : (fuglemanref16_Find.l0 k l0 a1 0) = some (r1, r2, r3, r4, r5) := h
  clear h
  have H' := Aside0.mk H
  clear H
  go_enter Try.func10, Try.ntmps10
  go_wp2_with (first | ((with_reducible refine gate_dst (N := 4) rfl ?_); refine box_event ?hg (N := 4) ?hd (cs := #[.int .i64 0, .int .i64 0, .int .i64 0, .bool false]) (t := 34) ?hr ?_; (case hd => rfl); (case hg => rfl); (case hr => first | (go_simp; done) | (go_simp; rfl)); intro gb169 hg w3 hbox hb; have n0_ := Aside0.mk (below_step (by repeat (first | (with_reducible first | exact HB.out | apply below_alloc | apply pw_below_drewN | apply below_drew1) | exact HB.out)) hb); have n1_ := Aside0.mk (hbox); have n2_ := Aside0.mk ((by rw [hg]; exact (below_size (by repeat (first | (with_reducible first | exact HB.out | apply below_alloc | apply pw_below_drewN | apply below_drew1) | exact HB.out))) : w.heap.size ≤ gb169)); have n3_ := Aside0.mk ((by rw [hg]; exact (below_size (by repeat (first | (with_reducible first | exact HB.out | apply below_alloc | apply pw_below_drewN | apply below_drew1) | exact HB.out))) : w.heap.size ≤ gb169)); clear HB; have HB := n0_; have BK169 := n1_; have GW169 := n2_; have GE169 := n3_; clear n0_ n1_ n2_ n3_; clear hb hbox hg))
  go_loopg [6] k (fun kq v6 w' => ∃ (x6_1 : Int) (x170000_1 : Int) (x170001_1 : Int) (x170002_1 : Int) (x170003_1 : Bool), v6 = .int .i64 x6_1 ∧ Aside0 (fuglemanref16_Find.l0 kq l0 a1 x6_1 = some (r1, r2, r3, r4, r5)) ∧ Aside0 (kq ≤ k) ∧ Aside0 (w'.heap[gb169]? = some (.cells #[.int .i64 x170000_1, .int .i64 x170001_1, .int .i64 x170002_1, .bool x170003_1] 34 (0, 0))) ∧ Aside0 (Below w.heap.size w w'))
  case atStart => exact ⟨(0), (0), (0), (0), (false), (by first | rfl | (simp; done) | (simp [*]; done)), H', ⟨Nat.le_refl _⟩, ⟨by (with_reducible repeat (first | refine blk_drewN ?_ _ | refine blk_drew ?_ | refine blk_alloc ?_ _)); exact BK169.out⟩, ⟨by repeat (first | (with_reducible first | exact HB.out | apply below_alloc | apply pw_below_drewN | apply below_drew1 | refine below_set ?_ GE169.out) | exact HB.out)⟩⟩
  case round =>
    clear H'
    try clear c1
    try clear p2
    obtain ⟨x6_1, x170000_1, x170001_1, x170002_1, x170003_1, rfl, HA, HK1, BK169, HB⟩ := hrel
    cases gk with
    | zero => exact absurd HA.out (by simp [fuglemanref16_Find.l0])
    | succ k1 =>
      have H := HA.out
      clear HA
      simp only [fuglemanref16_Find.l0] at H
      by_cases c4 : x6_1 < (l0.length : Int)
      · rw [if_pos c4] at H
        have c4b0 : decide (x6_1 < (l0.length : Int)) = true := decide_eq_true c4
        clear c4
        by_cases c5 : 0 ≤ x6_1
        · rw [if_pos c5] at H
          have c5b0 : decide (0 ≤ x6_1) = true := decide_eq_true c5
          clear c5
          by_cases c6 : ((rd_T34 l0 x6_1).f0) = a1
          · rw [if_pos c6] at H
            have c6b0 : (((rd_T34 l0 x6_1).f0) == a1) = true := beq_iff_eq.mpr c6
            have c6b1 : (((rd_T34 l0 x6_1).f0) != a1) = false := bne_eq_false_iff_eq.mpr c6
            clear c6
            simp only [Option.some.injEq, Prod.mk.injEq] at H
            obtain ⟨rfl, rfl, rfl, rfl, rfl⟩ := H
            have p170 : 0 ≤ (x6_1 : Int) := of_decide_eq_true (by first | (with_reducible assumption) | assumption)
            have q170 : x6_1 < (l0.length : Int) := of_decide_eq_true (by first | (with_reducible assumption) | assumption)
            obtain ⟨ad170, e170, hx170_0, hx170_1, hx170_2, hx170_3⟩ := at_T34 HR0.out x6_1 p170 q170
            cases e170
            replace hx170_0 := (HB.out.cell (World.block_lt_of_cell? w _ hx170_0)).trans hx170_0
            replace hx170_1 := (HB.out.cell (World.block_lt_of_cell? w _ hx170_1)).trans hx170_1
            replace hx170_2 := (HB.out.cell (World.block_lt_of_cell? w _ hx170_2)).trans hx170_2
            replace hx170_3 := (HB.out.cell (World.block_lt_of_cell? w _ hx170_3)).trans hx170_3
            replace p170 := eq_true p170
            replace q170 := eq_true q170
            have p171 : 0 ≤ (x6_1 : Int) := of_decide_eq_true (by first | (with_reducible assumption) | assumption)
            have q171 : x6_1 < (l0.length : Int) := of_decide_eq_true (by first | (with_reducible assumption) | assumption)
            obtain ⟨ad171, e171, hx171_0, hx171_1, hx171_2, hx171_3⟩ := at_T34 HR0.out x6_1 p171 q171
            obtain rfl : ad170 = ad171 := (by injection e171)
            replace hx171_0 := (HB.out.cell (World.block_lt_of_cell? w _ hx171_0)).trans hx171_0
            replace hx171_1 := (HB.out.cell (World.block_lt_of_cell? w _ hx171_1)).trans hx171_1
            replace hx171_2 := (HB.out.cell (World.block_lt_of_cell? w _ hx171_2)).trans hx171_2
            replace hx171_3 := (HB.out.cell (World.block_lt_of_cell? w _ hx171_3)).trans hx171_3
            replace p171 := eq_true p171
            replace q171 := eq_true q171
            have hcz7_0 : wr.cell? ⟨gb169, 0, none⟩ = some (.int .i64 x170000_1) := (blk_cell BK169.out 0).trans rfl
            have hcz7_1 : wr.cell? ⟨gb169, 1, none⟩ = some (.int .i64 x170001_1) := (blk_cell BK169.out 1).trans rfl
            have hcz7_2 : wr.cell? ⟨gb169, 2, none⟩ = some (.int .i64 x170002_1) := (blk_cell BK169.out 2).trans rfl
            have hcz7_3 : wr.cell? ⟨gb169, 3, none⟩ = some (.bool x170003_1) := (blk_cell BK169.out 3).trans rfl
            have hfz7_0 := blk_frozen BK169.out 0
            have hfz7_1 := blk_frozen BK169.out 1
            have hfz7_2 := blk_frozen BK169.out 2
            have hfz7_3 := blk_frozen BK169.out 3
            go_wp2
            refine bodyPost_ret (results_ct rfl _ _ gb169 34 #[.int .i64 ((rd_T34 l0 x6_1).f0), .int .i64 ((rd_T34 l0 x6_1).f1), .int .i64 ((rd_T34 l0 x6_1).f2), .bool ((rd_T34 l0 x6_1).f3)] (0, 0) _ rfl (by (with_reducible repeat (first | refine blk_drewN ?_ _ | refine blk_drew ?_ | refine blk_alloc ?_ _)); refine blk_put (cs := #[.int .i64 ((rd_T34 l0 x6_1).f0), .int .i64 ((rd_T34 l0 x6_1).f1), .int .i64 ((rd_T34 l0 x6_1).f2), .bool x170003_1]) ?_ 3 _ rfl; (with_reducible repeat (first | refine blk_drewN ?_ _ | refine blk_drew ?_ | refine blk_alloc ?_ _)); refine blk_put (cs := #[.int .i64 ((rd_T34 l0 x6_1).f0), .int .i64 ((rd_T34 l0 x6_1).f1), .int .i64 x170002_1, .bool x170003_1]) ?_ 2 _ rfl; (with_reducible repeat (first | refine blk_drewN ?_ _ | refine blk_drew ?_ | refine blk_alloc ?_ _)); refine blk_put (cs := #[.int .i64 ((rd_T34 l0 x6_1).f0), .int .i64 x170001_1, .int .i64 x170002_1, .bool x170003_1]) ?_ 1 _ rfl; (with_reducible repeat (first | refine blk_drewN ?_ _ | refine blk_drew ?_ | refine blk_alloc ?_ _)); refine blk_put (cs := #[.int .i64 x170000_1, .int .i64 x170001_1, .int .i64 x170002_1, .bool x170003_1]) ?_ 0 _ rfl; (with_reducible repeat (first | refine blk_drewN ?_ _ | refine blk_drew ?_ | refine blk_alloc ?_ _)); exact BK169.out) Try.underlying34 rfl (by kernel_rfl)) rfl ?_
            exact ⟨by first | rfl | (simp [errW_none, errW_some] <;> rfl) | (simp [*, errW_none, errW_some] <;> rfl), by repeat (first | (with_reducible first | exact HB.out | apply below_alloc | apply pw_below_drewN | apply below_drew1 | refine below_set ?_ GE169.out) | exact HB.out)⟩
          · rw [if_neg c6] at H
            have c6b0 : (((rd_T34 l0 x6_1).f0) == a1) = false := beq_eq_false_iff_ne.mpr c6
            have c6b1 : (((rd_T34 l0 x6_1).f0) != a1) = true := bne_iff_ne.mpr c6
            have H' := Aside0.mk H
            clear H
            have p170 : 0 ≤ (x6_1 : Int) := of_decide_eq_true (by first | (with_reducible assumption) | assumption)
            have q170 : x6_1 < (l0.length : Int) := of_decide_eq_true (by first | (with_reducible assumption) | assumption)
            obtain ⟨ad170, e170, hx170_0, hx170_1, hx170_2, hx170_3⟩ := at_T34 HR0.out x6_1 p170 q170
            cases e170
            replace hx170_0 := (HB.out.cell (World.block_lt_of_cell? w _ hx170_0)).trans hx170_0
            replace hx170_1 := (HB.out.cell (World.block_lt_of_cell? w _ hx170_1)).trans hx170_1
            replace hx170_2 := (HB.out.cell (World.block_lt_of_cell? w _ hx170_2)).trans hx170_2
            replace hx170_3 := (HB.out.cell (World.block_lt_of_cell? w _ hx170_3)).trans hx170_3
            replace p170 := eq_true p170
            replace q170 := eq_true q170
            go_wp2
            go_roundg k1
            case measure => have := HK1.out; omega
            case rel => exact ⟨(wrap64 (x6_1 + 1)), (x170000_1), (x170001_1), (x170002_1), (x170003_1), (by first | rfl | (simp; done) | (simp [*]; done)), H', ⟨by have := HK1.out; omega⟩, ⟨by (with_reducible repeat (first | refine blk_drewN ?_ _ | refine blk_drew ?_ | refine blk_alloc ?_ _)); exact BK169.out⟩, ⟨by repeat (first | (with_reducible first | exact HB.out | apply below_alloc | apply pw_below_drewN | apply below_drew1 | refine below_set ?_ GE169.out) | exact HB.out)⟩⟩
        · rw [if_neg c5] at H
          exact absurd H (by simp)
      · rw [if_neg c4] at H
        have c4b0 : decide (x6_1 < (l0.length : Int)) = false := decide_eq_false c4
        clear c4
        simp only [Option.some.injEq, Prod.mk.injEq] at H
        obtain ⟨rfl, rfl, rfl, rfl, rfl⟩ := H
        have hcz8_0 : wr.cell? ⟨gb169, 0, none⟩ = some (.int .i64 x170000_1) := (blk_cell BK169.out 0).trans rfl
        have hcz8_1 : wr.cell? ⟨gb169, 1, none⟩ = some (.int .i64 x170001_1) := (blk_cell BK169.out 1).trans rfl
        have hcz8_2 : wr.cell? ⟨gb169, 2, none⟩ = some (.int .i64 x170002_1) := (blk_cell BK169.out 2).trans rfl
        have hcz8_3 : wr.cell? ⟨gb169, 3, none⟩ = some (.bool x170003_1) := (blk_cell BK169.out 3).trans rfl
        have hfz8_0 := blk_frozen BK169.out 0
        have hfz8_1 := blk_frozen BK169.out 1
        have hfz8_2 := blk_frozen BK169.out 2
        have hfz8_3 := blk_frozen BK169.out 3
        go_wp2
        refine bodyPost_ret (results_ct rfl _ _ gb169 34 #[.int .i64 0, .int .i64 0, .int .i64 0, .bool false] (0, 0) _ rfl (by (with_reducible repeat (first | refine blk_drewN ?_ _ | refine blk_drew ?_ | refine blk_alloc ?_ _)); refine blk_put (cs := #[.int .i64 0, .int .i64 0, .int .i64 0, .bool x170003_1]) ?_ 3 _ rfl; (with_reducible repeat (first | refine blk_drewN ?_ _ | refine blk_drew ?_ | refine blk_alloc ?_ _)); refine blk_put (cs := #[.int .i64 0, .int .i64 0, .int .i64 x170002_1, .bool x170003_1]) ?_ 2 _ rfl; (with_reducible repeat (first | refine blk_drewN ?_ _ | refine blk_drew ?_ | refine blk_alloc ?_ _)); refine blk_put (cs := #[.int .i64 0, .int .i64 x170001_1, .int .i64 x170002_1, .bool x170003_1]) ?_ 1 _ rfl; (with_reducible repeat (first | refine blk_drewN ?_ _ | refine blk_drew ?_ | refine blk_alloc ?_ _)); refine blk_put (cs := #[.int .i64 x170000_1, .int .i64 x170001_1, .int .i64 x170002_1, .bool x170003_1]) ?_ 0 _ rfl; (with_reducible repeat (first | refine blk_drewN ?_ _ | refine blk_drew ?_ | refine blk_alloc ?_ _)); exact BK169.out) Try.underlying34 rfl (by kernel_rfl)) rfl ?_
        exact ⟨by first | rfl | (simp [errW_none, errW_some] <;> rfl) | (simp [*, errW_none, errW_some] <;> rfl), by repeat (first | (with_reducible first | exact HB.out | apply below_alloc | apply pw_below_drewN | apply below_drew1 | refine below_set ?_ GE169.out) | exact HB.out)⟩

end Go.Proofs.Ytpjpjamaimahaaa.PImageApart
