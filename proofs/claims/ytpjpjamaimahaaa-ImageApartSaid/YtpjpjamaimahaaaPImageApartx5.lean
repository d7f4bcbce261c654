/- A part of a proof: functions of the program as functions over numbers and lists, and that the program's calls answer as these do. Written by a program for this claim. -/
import Derived.Test.YtpjpjamaimahaaaPImageApartx0
import Derived.Test.YtpjpjamaimahaaaPImageApartx1
import Derived.Test.YtpjpjamaimahaaaPImageApartx2
import Derived.Test.YtpjpjamaimahaaaPImageApartx3
import Derived.Test.YtpjpjamaimahaaaPImageApartx4
namespace Go.Proofs.Ytpjpjamaimahaaa.PImageApart
open Go.RowKit Go.Proofs.YtpjpjamaimahaaaW.PrintWords Go.Proofs.YtpjpjamaimahaaaW.PrintLast Go.Proofs.YtpjpjamaimahaaaW.PrintMore
attribute [local go_sem] max2_int min2_int max_two min_two max_three min_three max_four min_four   -- for this text's walks alone
set_option linter.unusedVariables false
set_option linter.unusedSimpArgs false

/-! ### fuglemanlaw19_ImageApart: function 4 -/
mutual
def fuglemanlaw19_ImageApart.j0 : Nat → Int → List (S32) → List (S34) → Bool → Option (Bool)
  | 0, _, _, _, _ => none
  | k + 1, x0, x1, x2, x33 => if x33 = true then (some true) else ((image_Lay.f k x0 x1 x2).bind fun bt173 => (if bt173.1 = 0 then (fuglemanlaw19_ImageApart.l0 k x0 x1 x2 (⟨#[102, 117, 103, 108, 101, 109, 97, 110, 44, 32, 97, 32, 115, 116, 97, 116, 105, 111, 110, 32, 111, 102, 32, 97, 32, 114, 105, 110, 103]⟩ : ByteArray) ([] : List ByteArray) x1 (x1.length : Int) 0) else (some true)))
def fuglemanlaw19_ImageApart.l0 : Nat → Int → List (S32) → List (S34) → ByteArray → List ByteArray → List (S32) → Int → Int → Option (Bool)
  | 0, _, _, _, _, _, _, _, _ => none
  | k + 1, x0, x1, x2, x7, x10, x43, x44, x45 => if x45 < x44 then (if 0 ≤ x45 then (if x45 < (x43.length : Int) then ((fuglemanref16_Find.f k x2 ((rd_T32 x43 x45).f0)).bind fun bt177 => (if 0 ≤ bt177.2.2.1 then (if (bt177.2.2.1 : Int).toNat ≤ 281474976710656 then ((some (List.replicate (bt177.2.2.1 : Int).toNat 0 : List Int)).bind fun y183 => (fuglemanlaw19_ImageApart.l1 k x0 x1 x2 x7 x10 x45 y183 x43 x44 x45 (y183.length : Int) 0)) else (none)) else (none))) else (none)) else (none)) else ((image_Inputs.f k x0 x7 x1 x10).bind fun t190 => (fuglemanlaw19_ImageApart.l2 k x0 x7 x10 t190 0 x1 (x1.length : Int) 0))
def fuglemanlaw19_ImageApart.l1 : Nat → Int → List (S32) → List (S34) → ByteArray → List ByteArray → Int → List Int → List (S32) → Int → Int → Int → Int → Option (Bool)
  | 0, _, _, _, _, _, _, _, _, _, _, _, _ => none
  | k + 1, x0, x1, x2, x7, x10, x11, x15, x43, x44, x45, x61, x62 => if x62 < x61 then (if 0 ≤ x62 then (if x62 < (x15.length : Int) then (fuglemanlaw19_ImageApart.l1 k x0 x1 x2 x7 x10 x11 (x15.set (x62 : Int).toNat ((wrap64 ((wrap64 (1 + (wrap64 (x11 * 16)))) + (Int.tmod x62 16))) % 256)) x43 x44 x45 x61 (wrap64 (x62 + 1))) else (none)) else (none)) else (if x10.length < 8796093022208 then (fuglemanlaw19_ImageApart.l0 k x0 x1 x2 x7 (x10 ++ [strOfNums x15]) x43 x44 (wrap64 (x45 + 1))) else (none))
def fuglemanlaw19_ImageApart.l2 : Nat → Int → ByteArray → List ByteArray → ByteArray → Int → List (S32) → Int → Int → Option (Bool)
  | 0, _, _, _, _, _, _, _, _ => none
  | k + 1, x0, x7, x10, x17, x18, x87, x88, x89 => if x89 < x88 then (if 0 ≤ x89 then (if x89 < (x87.length : Int) then (if x89 < (x10.length : Int) then ((image_Value.f k x17 ((rd_T32 x87 x89).f1) ((rdOf ByteArray.empty x10 x89).size : Int)).bind fun t194 => (if t194.toList = (rdOf ByteArray.empty x10 x89).toList then (fuglemanlaw19_ImageApart.l2 k x0 x7 x10 x17 (wrap64 (x18 + ((rdOf ByteArray.empty x10 x89).size : Int))) x87 x88 (wrap64 (x89 + 1))) else (some false))) else (none)) else (none)) else (none)) else (fuglemanlaw19_ImageApart.l3 k x0 x7 x17 x18 x0 0)
def fuglemanlaw19_ImageApart.l3 : Nat → Int → ByteArray → ByteArray → Int → Int → Int → Option (Bool)
  | 0, _, _, _, _, _, _ => none
  | k + 1, x0, x7, x17, x18, x116, x117 => if x117 < x116 then (if 0 ≤ x117 then (if x117 < (x17.size : Int) then ((fuglemanref19_Byte.f x7 x117).bind fun t197 => (if (bt x17 x117) = t197 then (fuglemanlaw19_ImageApart.l3 k x0 x7 x17 x18 x116 (wrap64 (x117 + 1))) else (some false))) else (none)) else (none)) else (fuglemanlaw19_ImageApart.l4 k x0 x17 x18 0 x0)
def fuglemanlaw19_ImageApart.l4 : Nat → Int → ByteArray → Int → Int → Int → Option (Bool)
  | 0, _, _, _, _, _ => none
  | k + 1, x0, x17, x18, x22, x23 => if x23 < 64 then (if 0 ≤ x23 then (if x23 < (x17.size : Int) then (if (bt x17 x23) = 0 then (fuglemanlaw19_ImageApart.l4 k x0 x17 x18 (wrap64 (x22 + 1)) (wrap64 (x23 + 1))) else (fuglemanlaw19_ImageApart.l4 k x0 x17 x18 x22 (wrap64 (x23 + 1)))) else (none)) else (none)) else (if (x17.size : Int) = 64 then (some (x22 == (wrap64 ((wrap64 (64 - x0)) - x18)))) else (some false))
end
def fuglemanlaw19_ImageApart.f (k : Nat) (a0 : Int) (l1 : List (S32)) (l2 : List (S34)) : Option (Bool) := (fuglemanlaw19_awake.f k).bind fun t172 => (if t172 = true then (if (l1.length : Int) > 15 then (fuglemanlaw19_ImageApart.j0 k a0 l1 l2 true) else (fuglemanlaw19_ImageApart.j0 k a0 l1 l2 (decide ((l2.length : Int) > 16)))) else (some false))
theorem fuglemanlaw19_ImageApart.mono_l : ∀ k, (∀ y0 y1 y2 y3, LeO (fuglemanlaw19_ImageApart.j0 k y0 y1 y2 y3) (fuglemanlaw19_ImageApart.j0 (k + 1) y0 y1 y2 y3)) ∧ (∀ y0 y1 y2 y3 y4 y5 y6 y7, LeO (fuglemanlaw19_ImageApart.l0 k y0 y1 y2 y3 y4 y5 y6 y7) (fuglemanlaw19_ImageApart.l0 (k + 1) y0 y1 y2 y3 y4 y5 y6 y7)) ∧ (∀ y0 y1 y2 y3 y4 y5 y6 y7 y8 y9 y10 y11, LeO (fuglemanlaw19_ImageApart.l1 k y0 y1 y2 y3 y4 y5 y6 y7 y8 y9 y10 y11) (fuglemanlaw19_ImageApart.l1 (k + 1) y0 y1 y2 y3 y4 y5 y6 y7 y8 y9 y10 y11)) ∧ (∀ y0 y1 y2 y3 y4 y5 y6 y7, LeO (fuglemanlaw19_ImageApart.l2 k y0 y1 y2 y3 y4 y5 y6 y7) (fuglemanlaw19_ImageApart.l2 (k + 1) y0 y1 y2 y3 y4 y5 y6 y7)) ∧ (∀ y0 y1 y2 y3 y4 y5, LeO (fuglemanlaw19_ImageApart.l3 k y0 y1 y2 y3 y4 y5) (fuglemanlaw19_ImageApart.l3 (k + 1) y0 y1 y2 y3 y4 y5)) ∧ (∀ y0 y1 y2 y3 y4, LeO (fuglemanlaw19_ImageApart.l4 k y0 y1 y2 y3 y4) (fuglemanlaw19_ImageApart.l4 (k + 1) y0 y1 y2 y3 y4))
  | 0 => ⟨fun _ _ _ _ r h => by simp [fuglemanlaw19_ImageApart.j0] at h, fun _ _ _ _ _ _ _ _ r h => by simp [fuglemanlaw19_ImageApart.l0] at h, fun _ _ _ _ _ _ _ _ _ _ _ _ r h => by simp [fuglemanlaw19_ImageApart.l1] at h, fun _ _ _ _ _ _ _ _ r h => by simp [fuglemanlaw19_ImageApart.l2] at h, fun _ _ _ _ _ _ r h => by simp [fuglemanlaw19_ImageApart.l3] at h, fun _ _ _ _ _ r h => by simp [fuglemanlaw19_ImageApart.l4] at h⟩
  | k + 1 => by
    obtain ⟨ih0, ih1, ih2, ih3, ih4, ih5⟩ := fuglemanlaw19_ImageApart.mono_l k
    refine ⟨?_, ?_, ?_, ?_, ?_, ?_⟩
    · intro y0 y1 y2 y3
      unfold fuglemanlaw19_ImageApart.j0
      repeat' first
      | (with_reducible exact ih0 _ _ _ _)
      | (with_reducible exact ih1 _ _ _ _ _ _ _ _)
      | (with_reducible exact ih2 _ _ _ _ _ _ _ _ _ _ _ _)
      | (with_reducible exact ih3 _ _ _ _ _ _ _ _)
      | (with_reducible exact ih4 _ _ _ _ _ _)
      | (with_reducible exact ih5 _ _ _ _ _)
      | (with_reducible exact fuglemanlaw19_awake.mono _)
      | (with_reducible exact fuglemanref16_Find.mono _ _ _)
      | (with_reducible exact image_Inputs.mono _ _ _ _ _)
      | (with_reducible exact image_Lay.mono _ _ _ _)
      | (with_reducible exact image_Value.mono _ _ _ _)
      | (with_reducible exact LeO.refl _)
      | (with_reducible exact LeO.none _)
      | (with_reducible refine LeO.ite ?_ ?_)
      | (with_reducible refine LeO.bind ?_ (fun _ => ?_))
      | exact ih0 _ _ _ _
      | exact ih1 _ _ _ _ _ _ _ _
      | exact ih2 _ _ _ _ _ _ _ _ _ _ _ _
      | exact ih3 _ _ _ _ _ _ _ _
      | exact ih4 _ _ _ _ _ _
      | exact ih5 _ _ _ _ _
      | exact fuglemanlaw19_awake.mono _
      | exact fuglemanref16_Find.mono _ _ _
      | exact image_Inputs.mono _ _ _ _ _
      | exact image_Lay.mono _ _ _ _
      | exact image_Value.mono _ _ _ _
      | exact LeO.none _
      | refine LeO.ite ?_ ?_
      | refine LeO.bind ?_ (fun _ => ?_)
    · intro y0 y1 y2 y3 y4 y5 y6 y7
      unfold fuglemanlaw19_ImageApart.l0
      repeat' first
      | (with_reducible exact ih0 _ _ _ _)
      | (with_reducible exact ih1 _ _ _ _ _ _ _ _)
      | (with_reducible exact ih2 _ _ _ _ _ _ _ _ _ _ _ _)
      | (with_reducible exact ih3 _ _ _ _ _ _ _ _)
      | (with_reducible exact ih4 _ _ _ _ _ _)
      | (with_reducible exact ih5 _ _ _ _ _)
      | (with_reducible exact fuglemanlaw19_awake.mono _)
      | (with_reducible exact fuglemanref16_Find.mono _ _ _)
      | (with_reducible exact image_Inputs.mono _ _ _ _ _)
      | (with_reducible exact image_Lay.mono _ _ _ _)
      | (with_reducible exact image_Value.mono _ _ _ _)
      | (with_reducible exact LeO.refl _)
      | (with_reducible exact LeO.none _)
      | (with_reducible refine LeO.ite ?_ ?_)
      | (with_reducible refine LeO.bind ?_ (fun _ => ?_))
      | exact ih0 _ _ _ _
      | exact ih1 _ _ _ _ _ _ _ _
      | exact ih2 _ _ _ _ _ _ _ _ _ _ _ _
      | exact ih3 _ _ _ _ _ _ _ _
      | exact ih4 _ _ _ _ _ _
      | exact ih5 _ _ _ _ _
      | exact fuglemanlaw19_awake.mono _
      | exact fuglemanref16_Find.mono _ _ _
      | exact image_Inputs.mono _ _ _ _ _
      | exact image_Lay.mono _ _ _ _
      | exact image_Value.mono _ _ _ _
      | exact LeO.none _
      | refine LeO.ite ?_ ?_
      | refine LeO.bind ?_ (fun _ => ?_)
    · intro y0 y1 y2 y3 y4 y5 y6 y7 y8 y9 y10 y11
      unfold fuglemanlaw19_ImageApart.l1
      repeat' first
      | (with_reducible exact ih0 _ _ _ _)
      | (with_reducible exact ih1 _ _ _ _ _ _ _ _)
      | (with_reducible exact ih2 _ _ _ _ _ _ _ _ _ _ _ _)
      | (with_reducible exact ih3 _ _ _ _ _ _ _ _)
      | (with_reducible exact ih4 _ _ _ _ _ _)
      | (with_reducible exact ih5 _ _ _ _ _)
      | (with_reducible exact fuglemanlaw19_awake.mono _)
      | (with_reducible exact fuglemanref16_Find.mono _ _ _)
      | (with_reducible exact image_Inputs.mono _ _ _ _ _)
      | (with_reducible exact image_Lay.mono _ _ _ _)
      | (with_reducible exact image_Value.mono _ _ _ _)
      | (with_reducible exact LeO.refl _)
      | (with_reducible exact LeO.none _)
      | (with_reducible refine LeO.ite ?_ ?_)
      | (with_reducible refine LeO.bind ?_ (fun _ => ?_))
      | exact ih0 _ _ _ _
      | exact ih1 _ _ _ _ _ _ _ _
      | exact ih2 _ _ _ _ _ _ _ _ _ _ _ _
      | exact ih3 _ _ _ _ _ _ _ _
      | exact ih4 _ _ _ _ _ _
      | exact ih5 _ _ _ _ _
      | exact fuglemanlaw19_awake.mono _
      | exact fuglemanref16_Find.mono _ _ _
      | exact image_Inputs.mono _ _ _ _ _
      | exact image_Lay.mono _ _ _ _
      | exact image_Value.mono _ _ _ _
      | exact LeO.none _
      | refine LeO.ite ?_ ?_
      | refine LeO.bind ?_ (fun _ => ?_)
    · intro y0 y1 y2 y3 y4 y5 y6 y7
      unfold fuglemanlaw19_ImageApart.l2
      repeat' first
      | (with_reducible exact ih0 _ _ _ _)
      | (with_reducible exact ih1 _ _ _ _ _ _ _ _)
      | (with_reducible exact ih2 _ _ _ _ _ _ _ _ _ _ _ _)
      | (with_reducible exact ih3 _ _ _ _ _ _ _ _)
      | (with_reducible exact ih4 _ _ _ _ _ _)
      | (with_reducible exact ih5 _ _ _ _ _)
      | (with_reducible exact fuglemanlaw19_awake.mono _)
      | (with_reducible exact fuglemanref16_Find.mono _ _ _)
      | (with_reducible exact image_Inputs.mono _ _ _ _ _)
      | (with_reducible exact image_Lay.mono _ _ _ _)
      | (with_reducible exact image_Value.mono _ _ _ _)
      | (with_reducible exact LeO.refl _)
      | (with_reducible exact LeO.none _)
      | (with_reducible refine LeO.ite ?_ ?_)
      | (with_reducible refine LeO.bind ?_ (fun _ => ?_))
      | exact ih0 _ _ _ _
      | exact ih1 _ _ _ _ _ _ _ _
      | exact ih2 _ _ _ _ _ _ _ _ _ _ _ _
      | exact ih3 _ _ _ _ _ _ _ _
      | exact ih4 _ _ _ _ _ _
      | exact ih5 _ _ _ _ _
      | exact fuglemanlaw19_awake.mono _
      | exact fuglemanref16_Find.mono _ _ _
      | exact image_Inputs.mono _ _ _ _ _
      | exact image_Lay.mono _ _ _ _
      | exact image_Value.mono _ _ _ _
      | exact LeO.none _
      | refine LeO.ite ?_ ?_
      | refine LeO.bind ?_ (fun _ => ?_)
    · intro y0 y1 y2 y3 y4 y5
      unfold fuglemanlaw19_ImageApart.l3
      repeat' first
      | (with_reducible exact ih0 _ _ _ _)
      | (with_reducible exact ih1 _ _ _ _ _ _ _ _)
      | (with_reducible exact ih2 _ _ _ _ _ _ _ _ _ _ _ _)
      | (with_reducible exact ih3 _ _ _ _ _ _ _ _)
      | (with_reducible exact ih4 _ _ _ _ _ _)
      | (with_reducible exact ih5 _ _ _ _ _)
      | (with_reducible exact fuglemanlaw19_awake.mono _)
      | (with_reducible exact fuglemanref16_Find.mono _ _ _)
      | (with_reducible exact image_Inputs.mono _ _ _ _ _)
      | (with_reducible exact image_Lay.mono _ _ _ _)
      | (with_reducible exact image_Value.mono _ _ _ _)
      | (with_reducible exact LeO.refl _)
      | (with_reducible exact LeO.none _)
      | (with_reducible refine LeO.ite ?_ ?_)
      | (with_reducible refine LeO.bind ?_ (fun _ => ?_))
      | exact ih0 _ _ _ _
      | exact ih1 _ _ _ _ _ _ _ _
      | exact ih2 _ _ _ _ _ _ _ _ _ _ _ _
      | exact ih3 _ _ _ _ _ _ _ _
      | exact ih4 _ _ _ _ _ _
      | exact ih5 _ _ _ _ _
      | exact fuglemanlaw19_awake.mono _
      | exact fuglemanref16_Find.mono _ _ _
      | exact image_Inputs.mono _ _ _ _ _
      | exact image_Lay.mono _ _ _ _
      | exact image_Value.mono _ _ _ _
      | exact LeO.none _
      | refine LeO.ite ?_ ?_
      | refine LeO.bind ?_ (fun _ => ?_)
    · intro y0 y1 y2 y3 y4
      unfold fuglemanlaw19_ImageApart.l4
      repeat' first
      | (with_reducible exact ih0 _ _ _ _)
      | (with_reducible exact ih1 _ _ _ _ _ _ _ _)
      | (with_reducible exact ih2 _ _ _ _ _ _ _ _ _ _ _ _)
      | (with_reducible exact ih3 _ _ _ _ _ _ _ _)
      | (with_reducible exact ih4 _ _ _ _ _ _)
      | (with_reducible exact ih5 _ _ _ _ _)
      | (with_reducible exact fuglemanlaw19_awake.mono _)
      | (with_reducible exact fuglemanref16_Find.mono _ _ _)
      | (with_reducible exact image_Inputs.mono _ _ _ _ _)
      | (with_reducible exact image_Lay.mono _ _ _ _)
      | (with_reducible exact image_Value.mono _ _ _ _)
      | (with_reducible exact LeO.refl _)
      | (with_reducible exact LeO.none _)
      | (with_reducible refine LeO.ite ?_ ?_)
      | (with_reducible refine LeO.bind ?_ (fun _ => ?_))
      | exact ih0 _ _ _ _
      | exact ih1 _ _ _ _ _ _ _ _
      | exact ih2 _ _ _ _ _ _ _ _ _ _ _ _
      | exact ih3 _ _ _ _ _ _ _ _
      | exact ih4 _ _ _ _ _ _
      | exact ih5 _ _ _ _ _
      | exact fuglemanlaw19_awake.mono _
      | exact fuglemanref16_Find.mono _ _ _
      | exact image_Inputs.mono _ _ _ _ _
      | exact image_Lay.mono _ _ _ _
      | exact image_Value.mono _ _ _ _
      | exact LeO.none _
      | refine LeO.ite ?_ ?_
      | refine LeO.bind ?_ (fun _ => ?_)
theorem fuglemanlaw19_ImageApart.mono : ∀ a0 a1 a2 k, LeO (fuglemanlaw19_ImageApart.f k a0 a1 a2) (fuglemanlaw19_ImageApart.f (k + 1) a0 a1 a2) := by
  intro a0 a1 a2 k
  obtain ⟨ih0, ih1, ih2, ih3, ih4, ih5⟩ := fuglemanlaw19_ImageApart.mono_l k
  unfold fuglemanlaw19_ImageApart.f
  repeat' first
      | (with_reducible exact ih0 _ _ _ _)
      | (with_reducible exact ih1 _ _ _ _ _ _ _ _)
      | (with_reducible exact ih2 _ _ _ _ _ _ _ _ _ _ _ _)
      | (with_reducible exact ih3 _ _ _ _ _ _ _ _)
      | (with_reducible exact ih4 _ _ _ _ _ _)
      | (with_reducible exact ih5 _ _ _ _ _)
      | (with_reducible exact fuglemanlaw19_awake.mono _)
      | (with_reducible exact fuglemanref16_Find.mono _ _ _)
      | (with_reducible exact image_Inputs.mono _ _ _ _ _)
      | (with_reducible exact image_Lay.mono _ _ _ _)
      | (with_reducible exact image_Value.mono _ _ _ _)
      | (with_reducible exact LeO.refl _)
      | (with_reducible exact LeO.none _)
      | (with_reducible refine LeO.ite ?_ ?_)
      | (with_reducible refine LeO.bind ?_ (fun _ => ?_))
      | exact ih0 _ _ _ _
      | exact ih1 _ _ _ _ _ _ _ _
      | exact ih2 _ _ _ _ _ _ _ _ _ _ _ _
      | exact ih3 _ _ _ _ _ _ _ _
      | exact ih4 _ _ _ _ _ _
      | exact ih5 _ _ _ _ _
      | exact fuglemanlaw19_awake.mono _
      | exact fuglemanref16_Find.mono _ _ _
      | exact image_Inputs.mono _ _ _ _ _
      | exact image_Lay.mono _ _ _ _
      | exact image_Value.mono _ _ _ _
      | exact LeO.none _
      | refine LeO.ite ?_ ?_
      | refine LeO.bind ?_ (fun _ => ?_)
def fuglemanlaw19_ImageApart.T27 : Bool × List (List Nat × List Nat) := (true, [([], []), ([], []), ([1], [1]), ([], []), ([], []), ([3, 4], [3, 4]), ([5], [5]), ([6], [6]), ([0, 2, 7], [0, 2, 7]), ([], []), ([], []), ([9, 10], [9, 10]), ([11], [11]), ([8, 12], [8, 12])])
def fuglemanlaw19_ImageApart.B27 : List Nat := [0, 0, 2, 0, 0, 24, 56, 120, 255, 0, 0, 1536, 3584, 8191]
theorem fuglemanlaw19_ImageApart.tab27 : rtab .any (opsOf Try.f4 27) = fuglemanlaw19_ImageApart.T27 := by kernel_rfl
theorem fuglemanlaw19_ImageApart.bits27 : waitsOk fuglemanlaw19_ImageApart.T27.2 fuglemanlaw19_ImageApart.B27 = true := by kernel_rfl
set_option maxHeartbeats 8000000 in
set_option maxRecDepth 100000 in
theorem fuglemanlaw19_ImageApart.calls (k : Nat) (a0 : Int) (A1 : Option Addr) (c1 : Nat) (l1 : List (S32)) (A2 : Option Addr) (c2 : Nat) (l2 : List (S34)) (r : Bool) (w : World) (hr1 : Kd.C k32 w A1 l1.length l1) (hc1 : l1.length ≤ c1) (hr2 : Kd.C k34 w A2 l2.length l2) (hc2 : l2.length ≤ c2) (h : fuglemanlaw19_ImageApart.f k a0 l1 l2 = some r) :
    Calls Try.prog 4 #[.int .i64 a0, .slice A1 l1.length c1, .slice A2 l2.length c2] w fun e w' => e = .returned (.bool r) ∧ Below w.heap.size w w' := by
  have hu32 := Try.underlying32
  have hu34 := Try.underlying34
  have HR1 := Aside0.mk hr1
  have HC1 := Aside0.mk hc1
  clear hr1 hc1
  have HR2 := Aside0.mk hr2
  have HC2 := Aside0.mk hc2
  clear hr2 hc2
  have HB := Aside0.mk (Below.refl w.heap.size w)
  have H : ((fuglemanlaw19_awake.f k).bind fun t172 => (if t172 = true then (if (l1.length : Int) > 15 then (fuglemanlaw19_ImageApart.j0 k a0 l1 l2 true) else (fuglemanlaw19_ImageApart.j0 k a0 l1 l2 (decide ((l2.length : Int) > 16)))) else (some false))) = some r := h
  clear h
  replace H := Option.bind_eq_some_iff.mp H
  obtain ⟨t172, A40, H⟩ := H
  replace H : (if t172 = true then (if (l1.length : Int) > 15 then (fuglemanlaw19_ImageApart.j0 k a0 l1 l2 true) else (fuglemanlaw19_ImageApart.j0 k a0 l1 l2 (decide ((l2.length : Int) > 16)))) else (some false)) = some r := H
  have A4 := Aside0.mk A40
  clear A40
  by_cases c5 : t172 = true
  · subst c5
    have H1 : (if (l1.length : Int) > 15 then (fuglemanlaw19_ImageApart.j0 k a0 l1 l2 true) else (fuglemanlaw19_ImageApart.j0 k a0 l1 l2 (decide ((l2.length : Int) > 16)))) = some r := by rw [if_pos rfl] at H; exact H
    clear H
    have H := H1
    clear H1
    have HC6 := Aside0.mk H
    clear H
    go_enter Try.func4, Try.ntmps4
    go_upto_region 3 with (first | ((with_reducible refine gate_callee (f := 6) rfl ?_); refine goesL_ (some 24) rfl rfl Try.func6 (by kernel_rfl) rfl #[] rfl (by (try simp only [List.map_toArray, List.map_cons, List.map_nil]); first | done | rfl | (simp only [List.length_drop, List.length_take]; rfl)) ?_; (with_reducible refine (fuglemanlaw19_awake.calls k  true _ A4.out).mono ?_); rintro e w7 ⟨rfl, hb⟩; refine ⟨_, rfl, ?_⟩; have n0_ := Aside0.mk (below_step (by repeat (first | (with_reducible first | exact HB.out | apply below_alloc | apply pw_below_drewN | apply below_drew1) | exact HB.out)) hb); clear HB; have HB := n0_; clear n0_; (try clear hb); (try clear hb2); (try clear hk); (try clear hi)))
    (try simp only [Act.put, List.setIfInBounds_toArray, List.set_cons_zero, List.set_cons_succ])
    go_cut [33] (fun v33 wc => ∃ (kq : Nat) (x33_5 : Bool), v33 = .bool x33_5 ∧ Aside0 (fuglemanlaw19_ImageApart.j0 kq a0 l1 l2 x33_5 = some r) ∧ Aside0 (kq ≤ k) ∧ Aside0 (Below w.heap.size w wc))
    case first =>
      have H := HC6.out
      clear HC6
      by_cases c8 : (l1.length : Int) > 15
      · rw [if_pos c8] at H
        have c8b0 : decide (15 < (l1.length : Int)) = true := decide_eq_true c8
        have c8b1 : decide (15 < l1.length) = true := decide_eq_true (by omega)
        clear c8
        (first | rw [c8b0] | (simp only [i64_w, i32_w]; rw [c8b0]) | skip)
        have H' := Aside0.mk H
        clear H
        go_wp2
        go_meet
        case rel => exact ⟨_, (true), (by first | rfl | (simp; done) | (simp [*]; done)), H', ⟨by first | omega | exact Nat.le_refl _⟩, ⟨by repeat (first | (with_reducible first | exact HB.out | apply below_alloc | apply pw_below_drewN | apply below_drew1) | exact HB.out)⟩⟩
      · rw [if_neg c8] at H
        have c8b0 : decide (15 < (l1.length : Int)) = false := decide_eq_false c8
        have c8b1 : decide (15 < l1.length) = false := decide_eq_false (by omega)
        clear c8
        (first | rw [c8b0] | (simp only [i64_w, i32_w]; rw [c8b0]) | skip)
        have H' := Aside0.mk H
        clear H
        go_wp2
        go_meet
        case rel => exact ⟨_, (decide ((l2.length : Int) > 16)), (by first | rfl | (simp; done) | (simp [*]; done)), H', ⟨by first | omega | exact Nat.le_refl _⟩, ⟨by repeat (first | (with_reducible first | exact HB.out | apply below_alloc | apply pw_below_drewN | apply below_drew1) | exact HB.out)⟩⟩
    case rest =>
      clear HC6
      try clear c1
      try clear c2
      try clear p2
      try clear c4
      try clear c5
      try clear c6
      try clear c8
      try clear c8b0
      try clear c8b1
      obtain ⟨kq, x33_5, rfl, HA, HJ5, HB⟩ := hcut
      cases kq with
      | zero => exact absurd HA.out (by simp [fuglemanlaw19_ImageApart.j0])
      | succ kj5 =>
        have H := HA.out
        clear HA
        simp only [fuglemanlaw19_ImageApart.j0] at H
        by_cases c9 : x33_5 = true
        · subst c9
          have H1 : (some true) = some r := by rw [if_pos rfl] at H; exact H
          clear H
          have H := H1
          clear H1
          obtain rfl := Option.some.inj H
          go_wp2
          go_ret
          exact ⟨by first | rfl | (simp [errW_none, errW_some] <;> rfl) | (simp [*, errW_none, errW_some] <;> rfl), by repeat (first | (with_reducible first | exact HB.out | apply below_alloc | apply pw_below_drewN | apply below_drew1) | exact HB.out)⟩
        · replace c9 := Bool.eq_false_iff.mpr c9
          subst c9
          have H1 : ((image_Lay.f kj5 a0 l1 l2).bind fun bt173 => (if bt173.1 = 0 then (fuglemanlaw19_ImageApart.l0 kj5 a0 l1 l2 (⟨#[102, 117, 103, 108, 101, 109, 97, 110, 44, 32, 97, 32, 115, 116, 97, 116, 105, 111, 110, 32, 111, 102, 32, 97, 32, 114, 105, 110, 103]⟩ : ByteArray) ([] : List ByteArray) l1 (l1.length : Int) 0) else (some true))) = some r := by rw [if_neg (show ¬ (false = true) by decide)] at H; exact H
          clear H
          have H := H1
          clear H1
          replace H := Option.bind_eq_some_iff.mp H
          obtain ⟨⟨t173, t174⟩, A100, H⟩ := H
          replace H : (if t173 = 0 then (fuglemanlaw19_ImageApart.l0 kj5 a0 l1 l2 (⟨#[102, 117, 103, 108, 101, 109, 97, 110, 44, 32, 97, 32, 115, 116, 97, 116, 105, 111, 110, 32, 111, 102, 32, 97, 32, 114, 105, 110, 103]⟩ : ByteArray) ([] : List ByteArray) l1 (l1.length : Int) 0) else (some true)) = some r := H
          have A10 := Aside0.mk A100
          clear A100
          by_cases c11 : t173 = 0
          · rw [if_pos c11] at H
            have c11b0 : (t173 == 0) = true := beq_iff_eq.mpr c11
            have c11b1 : (t173 != 0) = false := bne_eq_false_iff_eq.mpr c11
            clear c11
            have H' := Aside0.mk H
            clear H
            go_wp2_with (first | ((with_reducible refine gate_callee (f := 9) rfl ?_); refine goesL_ (some 38) rfl rfl Try.func9 (by kernel_rfl) rfl #[.int .i64 a0, .slice A1 l1.length c1, .slice A2 l2.length c2] rfl (by (try simp only [List.map_toArray, List.map_cons, List.map_nil]); first | done | rfl | (simp only [List.length_drop, List.length_take]; rfl)) ?_; (with_reducible refine (image_Lay.calls kj5 a0 _ _ l1 _ _ l2 t173 t174 _ ?side1 ?side2 ?side3 ?side4 A10.out).mono ?_); (case side1 => repeat (first | exact (Kd.C_below HR1.out HB.out) | (with_reducible refine Kd.C_alloc ?_ _) | (with_reducible refine Kd.C_drewN ?_ _) | (with_reducible refine Kd.C_drew ?_))); (case side2 => exact HC1.out); (case side3 => repeat (first | exact (Kd.C_below HR2.out HB.out) | (with_reducible refine Kd.C_alloc ?_ _) | (with_reducible refine Kd.C_drewN ?_ _) | (with_reducible refine Kd.C_drew ?_))); (case side4 => exact HC2.out); rintro e w12 ⟨rfl, hb⟩; refine ⟨_, rfl, ?_⟩; have n0_ := Aside0.mk (below_step (by repeat (first | (with_reducible first | exact HB.out | apply below_alloc | apply pw_below_drewN | apply below_drew1) | exact HB.out)) hb); clear HB; have HB := n0_; clear n0_; (try clear hb); (try clear hb2); (try clear hk); (try clear hi)))
            go_loopg [10, 45] kj5 (fun kq v10 v45 w' => ∃ (x10_2 : List ByteArray) (x45_2 : Int), v45 = .int .i64 x45_2 ∧ Aside0 (fuglemanlaw19_ImageApart.l0 kq a0 l1 l2 (⟨#[102, 117, 103, 108, 101, 109, 97, 110, 44, 32, 97, 32, 115, 116, 97, 116, 105, 111, 110, 32, 111, 102, 32, 97, 32, 114, 105, 110, 103]⟩ : ByteArray) x10_2 l1 (l1.length : Int) x45_2 = some r) ∧ Aside0 (kq ≤ kj5) ∧ Aside0 (Kd.R Kd.string 9 w' w.heap.size (fun _ => True) v10 x10_2) ∧ Aside0 (Below w.heap.size w w'))
            case atStart => exact ⟨(([] : List ByteArray)), (0), (by first | rfl | (simp; done) | (simp [*]; done)), H', ⟨Nat.le_refl _⟩, ⟨by first | exact Kd.R_nil _ _ _ _ _ | exact Kd.N_nil _ _ _ _ _ | exact Kd.V_nil _ _ _ _ _ | exact Kd.Q_nil _ _ _ _ _ | exact Kd.S_nil _ _ _ _ _⟩, ⟨by repeat (first | (with_reducible first | exact HB.out | apply below_alloc | apply pw_below_drewN | apply below_drew1) | exact HB.out)⟩⟩
            case round =>
              clear H'
              try clear c1
              try clear c2
              try clear p2
              try clear c4
              try clear c5
              try clear c6
              try clear c8
              try clear c8b0
              try clear c8b1
              try clear c9
              try clear c11
              try clear c11b0
              try clear c11b1
              try clear p2
              obtain ⟨x10_2, x45_2, rfl, HA, HK2, HO_10, HB⟩ := hrel
              cases gk with
              | zero => exact absurd HA.out (by simp [fuglemanlaw19_ImageApart.l0])
              | succ k2 =>
                have H := HA.out
                clear HA
                simp only [fuglemanlaw19_ImageApart.l0] at H
                by_cases c13 : x45_2 < (l1.length : Int)
                · rw [if_pos c13] at H
                  have c13b0 : decide (x45_2 < (l1.length : Int)) = true := decide_eq_true c13
                  clear c13
                  by_cases c14 : 0 ≤ x45_2
                  · rw [if_pos c14] at H
                    have c14b0 : decide (0 ≤ x45_2) = true := decide_eq_true c14
                    clear c14
                    by_cases c15 : x45_2 < (l1.length : Int)
                    · rw [if_pos c15] at H
                      have c15b0 : decide (x45_2 < (l1.length : Int)) = true := decide_eq_true c15
                      clear c15
                      replace H := Option.bind_eq_some_iff.mp H
                      obtain ⟨⟨t177, t178, t179, t180, t181⟩, A160, H⟩ := H
                      replace H : (if 0 ≤ t179 then (if (t179 : Int).toNat ≤ 281474976710656 then ((some (List.replicate (t179 : Int).toNat 0 : List Int)).bind fun y183 => (fuglemanlaw19_ImageApart.l1 k2 a0 l1 l2 (⟨#[102, 117, 103, 108, 101, 109, 97, 110, 44, 32, 97, 32, 115, 116, 97, 116, 105, 111, 110, 32, 111, 102, 32, 97, 32, 114, 105, 110, 103]⟩ : ByteArray) x10_2 x45_2 y183 l1 (l1.length : Int) x45_2 (y183.length : Int) 0)) else (none)) else (none)) = some r := H
                      have A16 := Aside0.mk A160
                      clear A160
                      by_cases c17 : 0 ≤ t179
                      · rw [if_pos c17] at H
                        have c17b0 := eq_true c17
                        have c17b1 : decide (0 ≤ t179) = true := decide_eq_true c17
                        clear c17
                        by_cases c18 : (t179 : Int).toNat ≤ 281474976710656
                        · rw [if_pos c18] at H
                          have c18b0 := eq_true c18
                          have c18b1 : decide ((t179 : Int).toNat ≤ 281474976710656) = true := decide_eq_true c18
                          clear c18
                          obtain ⟨y183, hy183⟩ : ∃ y_ : List Int, y_ = (List.replicate (t179 : Int).toNat 0) := ⟨_, rfl⟩
                          replace H : (fuglemanlaw19_ImageApart.l1 k2 a0 l1 l2 (⟨#[102, 117, 103, 108, 101, 109, 97, 110, 44, 32, 97, 32, 115, 116, 97, 116, 105, 111, 110, 32, 111, 102, 32, 97, 32, 114, 105, 110, 103]⟩ : ByteArray) x10_2 x45_2 y183 l1 (l1.length : Int) x45_2 (y183.length : Int) 0) = some r := by first | (rw [hy183]; with_reducible exact H) | (have H2_ := (Option.bind_some _ _).symm.trans H; rw [hy183]; with_reducible exact H2_) | (have H2_ := (Option.bind_some _ _).symm.trans H; with_reducible exact H2_) | with_reducible exact H | (rw [hy183]; exact H) | exact H
                          have Ny183 := Aside0.mk hy183
                          clear hy183
                          have H' := Aside0.mk H
                          clear H
                          have p175 : 0 ≤ (x45_2 : Int) := of_decide_eq_true (by first | (with_reducible assumption) | assumption)
                          have q175 : x45_2 < (l1.length : Int) := of_decide_eq_true (by first | (with_reducible assumption) | assumption)
                          obtain ⟨ad175, e175, hx175_0, hx175_1⟩ := at_T32 HR1.out x45_2 p175 q175
                          cases e175
                          replace hx175_0 := (HB.out.cell (World.block_lt_of_cell? w _ hx175_0)).trans hx175_0
                          replace hx175_1 := (HB.out.cell (World.block_lt_of_cell? w _ hx175_1)).trans hx175_1
                          replace p175 := eq_true p175
                          replace q175 := eq_true q175
                          go_wp2_with (first | ((with_reducible refine gate_dst (N := 12) rfl ?_); (try (refine gate_guard (by rfl) ?_; dsimp only)); refine box_event ?hg (N := 12) ?hd (cs := #[.int .i64 0, .int .i64 0]) (t := 32) ?hr ?_; (case hd => rfl); (case hg => rfl); (case hr => first | (go_simp; done) | (go_simp; rfl)); intro gb176 hg w19 hbox hb; have n0_ := Aside0.mk (Kd.R_below (by (with_reducible repeat (first | apply Kd.R_alloc | apply Kd.R_drewN | apply Kd.R_drew)); exact HO_10.out) hb); have n1_ := Aside0.mk (below_step (by repeat (first | (with_reducible first | exact HB.out | apply below_alloc | apply pw_below_drewN | apply below_drew1) | exact HB.out)) hb); have n2_ := Aside0.mk (hbox); have n3_ := Aside0.mk ((by rw [hg]; exact (below_size (by repeat (first | (with_reducible first | exact HB.out | apply below_alloc | apply pw_below_drewN | apply below_drew1) | exact HB.out))) : w.heap.size ≤ gb176)); have n4_ := Aside0.mk ((by rw [hg]; exact (below_size (by repeat (first | (with_reducible first | exact HB.out | apply below_alloc | apply pw_below_drewN | apply below_drew1) | exact HB.out))) : w.heap.size ≤ gb176)); clear HO_10; clear HB; have HO_10 := n0_; have HB := n1_; have BK176 := n2_; have GW176 := n3_; have GE176 := n4_; clear n0_ n1_ n2_ n3_ n4_; clear hb hbox hg; have hcz20_0 : w19.cell? ⟨gb176, 0, none⟩ = some (.int .i64 0) := (blk_cell BK176.out 0).trans rfl; have hcz20_1 : w19.cell? ⟨gb176, 1, none⟩ = some (.int .i64 0) := (blk_cell BK176.out 1).trans rfl; have hfz20_0 := blk_frozen BK176.out 0; have hfz20_1 := blk_frozen BK176.out 1) | ((with_reducible refine gate_callee (f := 10) rfl ?_); refine goesL_ (some 54) rfl rfl Try.func10 (by kernel_rfl) rfl #[.slice A2 l2.length c2, .int .i64 ((rd_T32 l1 x45_2).f0)] rfl (by (try simp only [List.map_toArray, List.map_cons, List.map_nil]); first | done | rfl | (simp only [List.length_drop, List.length_take]; rfl)) ?_; (with_reducible refine (fuglemanref16_Find.calls k2 _ _ l2 ((rd_T32 l1 x45_2).f0) t177 t178 t179 t180 t181 _ ?side1 ?side2 A16.out).mono ?_); (case side1 => exact Kd.C_below HR2.out (by repeat (first | (with_reducible first | exact HB.out | apply below_alloc | apply pw_below_drewN | apply below_drew1 | refine below_set ?_ GE176.out) | exact HB.out))); (case side2 => exact HC2.out); rintro e w21 ⟨rfl, hb⟩; refine ⟨_, rfl, ?_⟩; have n0_ := Aside0.mk (Kd.R_below (by (with_reducible repeat (first | apply Kd.R_alloc | apply Kd.R_drewN | apply Kd.R_drew)); exact (Kd.R_mono (Kd.R_far (p := ⟨gb176, 1, none⟩) (Kd.R_far (p := ⟨gb176, 0, none⟩) (Kd.R_types HO_10.out BK176.out (by decide)) (fun _ hk => hk.2) (.int .i64 ((rd_T32 l1 x45_2).f0))) (fun _ hk => hk.2) (.int .i64 ((rd_T32 l1 x45_2).f1))) (fun _ h_ => h_.1))) hb); have n1_ := Aside0.mk (blk_below (g := gb176) (o := .cells #[.int .i64 ((rd_T32 l1 x45_2).f0), .int .i64 ((rd_T32 l1 x45_2).f1)] 32 (0, 0)) (by (with_reducible repeat (first | refine blk_drewN ?_ _ | refine blk_drew ?_ | refine blk_alloc ?_ _)); refine blk_put (cs := #[.int .i64 ((rd_T32 l1 x45_2).f0), .int .i64 0]) ?_ 1 _ rfl; (with_reducible repeat (first | refine blk_drewN ?_ _ | refine blk_drew ?_ | refine blk_alloc ?_ _)); refine blk_put (cs := #[.int .i64 0, .int .i64 0]) ?_ 0 _ rfl; (with_reducible repeat (first | refine blk_drewN ?_ _ | refine blk_drew ?_ | refine blk_alloc ?_ _)); exact BK176.out) hb); have n2_ := Aside0.mk (below_step (by repeat (first | (with_reducible first | exact HB.out | apply below_alloc | apply pw_below_drewN | apply below_drew1 | refine below_set ?_ GE176.out) | exact HB.out)) hb); clear HO_10; clear BK176; clear HB; have HO_10 := n0_; have BK176 := n1_; have HB := n2_; clear n0_ n1_ n2_; (try clear hb); (try clear hb2); (try clear hk); (try clear hi)) | ((with_reducible refine gate_dst (N := 13) rfl ?_); (try (refine gate_guard (by rfl) ?_; dsimp only)); refine box_event ?hg (N := 13) ?hd (cs := #[.int .i64 0, .int .i64 0, .int .i64 0, .bool false]) (t := 34) ?hr ?_; (case hd => rfl); (case hg => rfl); (case hr => first | (go_simp; done) | (go_simp; rfl)); intro gb182 hg w22 hbox hb; have n0_ := Aside0.mk (Kd.R_below (by (with_reducible repeat (first | apply Kd.R_alloc | apply Kd.R_drewN | apply Kd.R_drew)); exact HO_10.out) hb); have n1_ := Aside0.mk (blk_below (g := gb176) (o := .cells #[.int .i64 ((rd_T32 l1 x45_2).f0), .int .i64 ((rd_T32 l1 x45_2).f1)] 32 (0, 0)) (by (with_reducible repeat (first | refine blk_drewN ?_ _ | refine blk_drew ?_ | refine blk_alloc ?_ _)); exact BK176.out) hb); have n2_ := Aside0.mk (below_step (by repeat (first | (with_reducible first | exact HB.out | apply below_alloc | apply pw_below_drewN | apply below_drew1 | refine below_set ?_ GE176.out) | exact HB.out)) hb); have n3_ := Aside0.mk (hbox); have n4_ := Aside0.mk ((by rw [hg]; exact (below_size (by repeat (first | (with_reducible first | exact HB.out | apply below_alloc | apply pw_below_drewN | apply below_drew1 | refine below_set ?_ GE176.out) | exact HB.out))) : w.heap.size ≤ gb182)); have n5_ := Aside0.mk ((by rw [hg]; exact (below_size (by repeat (first | (with_reducible first | exact HB.out | apply below_alloc | apply pw_below_drewN | apply below_drew1 | refine below_set ?_ GE176.out) | exact HB.out))) : w.heap.size ≤ gb182)); have n6_ := Aside0.mk ((by rw [hg]; exact Nat.ne_of_lt (blk_lt (g := gb176) (o := .cells #[.int .i64 ((rd_T32 l1 x45_2).f0), .int .i64 ((rd_T32 l1 x45_2).f1)] 32 (0, 0)) (by (with_reducible repeat (first | refine blk_drewN ?_ _ | refine blk_drew ?_ | refine blk_alloc ?_ _)); exact BK176.out)) : gb176 ≠ gb182)); have n7_ := Aside0.mk ((by rw [hg]; exact Nat.ne_of_gt (blk_lt (g := gb176) (o := .cells #[.int .i64 ((rd_T32 l1 x45_2).f0), .int .i64 ((rd_T32 l1 x45_2).f1)] 32 (0, 0)) (by (with_reducible repeat (first | refine blk_drewN ?_ _ | refine blk_drew ?_ | refine blk_alloc ?_ _)); exact BK176.out)) : gb182 ≠ gb176)); clear HO_10; clear BK176; clear HB; have HO_10 := n0_; have BK176 := n1_; have HB := n2_; have BK182 := n3_; have GW182 := n4_; have GE182 := n5_; have NB176_182 := n6_; have NB182_176 := n7_; clear n0_ n1_ n2_ n3_ n4_ n5_ n6_ n7_; clear hb hbox hg; have hnb23 := NB182_176.out; have hnc23 := NB176_182.out; have hcz24_0 : w22.cell? ⟨gb182, 0, none⟩ = some (.int .i64 0) := (blk_cell BK182.out 0).trans rfl; have hcz24_1 : w22.cell? ⟨gb182, 1, none⟩ = some (.int .i64 0) := (blk_cell BK182.out 1).trans rfl; have hcz24_2 : w22.cell? ⟨gb182, 2, none⟩ = some (.int .i64 0) := (blk_cell BK182.out 2).trans rfl; have hcz24_3 : w22.cell? ⟨gb182, 3, none⟩ = some (.bool false) := (blk_cell BK182.out 3).trans rfl; have hfz24_0 := blk_frozen BK182.out 0; have hfz24_1 := blk_frozen BK182.out 1; have hfz24_2 := blk_frozen BK182.out 2; have hfz24_3 := blk_frozen BK182.out 3) | ((with_reducible refine gate_dst (N := 59) rfl ?_); (try (refine gate_guard (by rfl) ?_; dsimp only)); refine Kd.R_make (Kd.int .u8) _ 5 rfl (N := 59) rfl 37 _ _ rfl t179 rfl rfl Try.underlying37 (.int .u8 0) 1 info5 rfl (by decide) (by omega) 0 (ok := fun _ => True) (okp := fun _ => True) rfl (fun _ hk => hk) trivial (of_decide_eq_true (by first | (with_reducible assumption) | assumption)) (Nat.le_trans (Nat.mul_le_mul_right _ (of_decide_eq_true (by first | (with_reducible assumption) | assumption) : t179.toNat ≤ 281474976710656)) (by omega)) (Below.refl _ _) (Nat.le_refl _) ?_; intro v184 w25 ho26 hb hg_ hnew_; clear hg_ hnew_; (first | rw [← Ny183.out] at ho26 | (simp only [Int.reduceToNat] at ho26; rw [← Ny183.out] at ho26)); have n0_ := Aside0.mk (Kd.R_below (by (with_reducible repeat (first | apply Kd.R_alloc | apply Kd.R_drewN | apply Kd.R_drew)); exact (Kd.R_mono (Kd.R_far (p := ⟨gb182, 3, none⟩) (Kd.R_far (p := ⟨gb182, 2, none⟩) (Kd.R_far (p := ⟨gb182, 1, none⟩) (Kd.R_far (p := ⟨gb182, 0, none⟩) (Kd.R_types HO_10.out BK182.out (by decide)) (fun _ hk => hk.2) (.int .i64 t177)) (fun _ hk => hk.2) (.int .i64 t178)) (fun _ hk => hk.2) (.int .i64 t179)) (fun _ hk => hk.2) (.bool t180)) (fun _ h_ => h_.1))) hb); have n1_ := Aside0.mk (Kd.R_lower ho26 (below_size (by repeat (first | (with_reducible first | exact HB.out | apply below_alloc | apply pw_below_drewN | apply below_drew1 | refine below_set ?_ GE176.out | refine below_set ?_ GE182.out) | exact HB.out)))); have n2_ := Aside0.mk (blk_below (g := gb176) (o := .cells #[.int .i64 ((rd_T32 l1 x45_2).f0), .int .i64 ((rd_T32 l1 x45_2).f1)] 32 (0, 0)) (by (with_reducible repeat (first | refine blk_drewN ?_ _ | refine blk_drew ?_ | refine blk_alloc ?_ _)); refine blk_far ?_ NB176_182.out _; (with_reducible repeat (first | refine blk_drewN ?_ _ | refine blk_drew ?_ | refine blk_alloc ?_ _)); refine blk_far ?_ NB176_182.out _; (with_reducible repeat (first | refine blk_drewN ?_ _ | refine blk_drew ?_ | refine blk_alloc ?_ _)); refine blk_far ?_ NB176_182.out _; (with_reducible repeat (first | refine blk_drewN ?_ _ | refine blk_drew ?_ | refine blk_alloc ?_ _)); refine blk_far ?_ NB176_182.out _; (with_reducible repeat (first | refine blk_drewN ?_ _ | refine blk_drew ?_ | refine blk_alloc ?_ _)); exact BK176.out) hb); have n3_ := Aside0.mk (blk_below (g := gb182) (o := .cells #[.int .i64 t177, .int .i64 t178, .int .i64 t179, .bool t180] 34 (0, 0)) (by (with_reducible repeat (first | refine blk_drewN ?_ _ | refine blk_drew ?_ | refine blk_alloc ?_ _)); refine blk_put (cs := #[.int .i64 t177, .int .i64 t178, .int .i64 t179, .bool false]) ?_ 3 _ rfl; (with_reducible repeat (first | refine blk_drewN ?_ _ | refine blk_drew ?_ | refine blk_alloc ?_ _)); refine blk_put (cs := #[.int .i64 t177, .int .i64 t178, .int .i64 0, .bool false]) ?_ 2 _ rfl; (with_reducible repeat (first | refine blk_drewN ?_ _ | refine blk_drew ?_ | refine blk_alloc ?_ _)); refine blk_put (cs := #[.int .i64 t177, .int .i64 0, .int .i64 0, .bool false]) ?_ 1 _ rfl; (with_reducible repeat (first | refine blk_drewN ?_ _ | refine blk_drew ?_ | refine blk_alloc ?_ _)); refine blk_put (cs := #[.int .i64 0, .int .i64 0, .int .i64 0, .bool false]) ?_ 0 _ rfl; (with_reducible repeat (first | refine blk_drewN ?_ _ | refine blk_drew ?_ | refine blk_alloc ?_ _)); exact BK182.out) hb); have n4_ := Aside0.mk (below_step (by repeat (first | (with_reducible first | exact HB.out | apply below_alloc | apply pw_below_drewN | apply below_drew1 | refine below_set ?_ GE176.out | refine below_set ?_ GE182.out) | exact HB.out)) hb); clear HO_10; clear BK176; clear BK182; clear HB; have HO_10 := n0_; have HO185 := n1_; have BK176 := n2_; have BK182 := n3_; have HB := n4_; clear n0_ n1_ n2_ n3_ n4_; clear hb ho26; obtain ⟨Ao27, co27, eo27⟩ := Kd.R_slice HO185.out; subst eo27))
                          go_loopg [62] k2 (fun kq v62 w' => ∃ (x15_3 : List Int) (x62_3 : Int), v62 = .int .i64 x62_3 ∧ Aside0 (fuglemanlaw19_ImageApart.l1 kq a0 l1 l2 (⟨#[102, 117, 103, 108, 101, 109, 97, 110, 44, 32, 97, 32, 115, 116, 97, 116, 105, 111, 110, 32, 111, 102, 32, 97, 32, 114, 105, 110, 103]⟩ : ByteArray) x10_2 x45_2 x15_3 l1 (l1.length : Int) x45_2 (y183.length : Int) x62_3 = some r) ∧ Aside0 (kq ≤ k2) ∧ Aside0 (Kd.R Kd.string 9 w' w.heap.size (fun _ => True) u10 x10_2) ∧ Aside0 (Kd.R (Kd.int .u8) 5 w' w.heap.size (fun _ => True) (.slice Ao27 y183.length co27) x15_3) ∧ Aside0 (w'.heap[gb176]? = some (.cells #[.int .i64 ((rd_T32 l1 x45_2).f0), .int .i64 ((rd_T32 l1 x45_2).f1)] 32 (0, 0))) ∧ Aside0 (w'.heap[gb182]? = some (.cells #[.int .i64 t177, .int .i64 t178, .int .i64 t179, .bool t180] 34 (0, 0))) ∧ Aside0 (Below w.heap.size w w'))
                          case atStart => exact ⟨(y183), (0), (by first | rfl | (simp; done) | (simp [*]; done)), H', ⟨Nat.le_refl _⟩, ⟨by (with_reducible repeat (first | apply Kd.R_alloc | apply Kd.R_drewN | apply Kd.R_drew)); exact HO_10.out⟩, ⟨by (with_reducible repeat (first | apply Kd.R_alloc | apply Kd.R_drewN | apply Kd.R_drew)); exact HO185.out⟩, ⟨by (with_reducible repeat (first | refine blk_drewN ?_ _ | refine blk_drew ?_ | refine blk_alloc ?_ _)); exact BK176.out⟩, ⟨by (with_reducible repeat (first | refine blk_drewN ?_ _ | refine blk_drew ?_ | refine blk_alloc ?_ _)); exact BK182.out⟩, ⟨by repeat (first | (with_reducible first | exact HB.out | apply below_alloc | apply pw_below_drewN | apply below_drew1 | refine below_set ?_ GE176.out | refine below_set ?_ GE182.out) | exact HB.out)⟩⟩
                          case round =>
                            clear H'
                            try clear c1
                            try clear p1
                            try clear q1
                            try clear hx1
                            try clear c2
                            try clear p2
                            try clear c4
                            try clear c5
                            try clear c6
                            try clear c8
                            try clear c8b0
                            try clear c8b1
                            try clear c9
                            try clear c10
                            try clear c11
                            try clear c11b0
                            try clear c11b1
                            try clear c13
                            try clear c13b0
                            try clear c14
                            try clear c14b0
                            try clear c15
                            try clear c15b0
                            try clear c17
                            try clear c17b0
                            try clear c17b1
                            try clear p17
                            try clear q17
                            try clear hx17
                            try clear c18
                            try clear c18b0
                            try clear c18b1
                            try clear c23
                            try clear hcz20_0
                            try clear hcz20_1
                            try clear hcz24_0
                            try clear hcz24_1
                            try clear hcz24_2
                            try clear hcz24_3
                            try clear hfz20_0
                            try clear hfz20_1
                            try clear hfz24_0
                            try clear hfz24_1
                            try clear hfz24_2
                            try clear hfz24_3
                            try clear hx175_0
                            try clear hx175_1
                            try clear p175
                            try clear p2
                            try clear q175
                            obtain ⟨x15_3, x62_3, rfl, HA, HK3, HO_10, HO_15, BK176, BK182, HB⟩ := hrel
                            have hl15_3 := (Kd.R_reads' HO_15.out).1
                            rw [hl15_3] at HO_15
                            (try simp only [hl15_3])
                            (try simp only [hl15_3] at BK176)
                            (try simp only [hl15_3] at BK182)
                            (try simp only [hl15_3] at HO_10)
                            cases gk with
                            | zero => exact absurd HA.out (by simp [fuglemanlaw19_ImageApart.l1])
                            | succ k3 =>
                              have H := HA.out
                              clear HA
                              simp only [fuglemanlaw19_ImageApart.l1] at H
                              by_cases c28 : x62_3 < (y183.length : Int)
                              · rw [if_pos c28] at H
                                have c28b0 : decide (x62_3 < (y183.length : Int)) = true := decide_eq_true c28
                                try (have c28b0x := c28b0; rw [hl15_3] at c28b0x)
                                clear c28
                                by_cases c29 : 0 ≤ x62_3
                                · rw [if_pos c29] at H
                                  have c29b0 : decide (0 ≤ x62_3) = true := decide_eq_true c29
                                  clear c29
                                  by_cases c30 : x62_3 < (x15_3.length : Int)
                                  · rw [if_pos c30] at H
                                    have c30b0 : decide (x62_3 < (x15_3.length : Int)) = true := decide_eq_true c30
                                    clear c30
                                    obtain ⟨y186, hy186⟩ : ∃ y_ : List Int, y_ = (x15_3.set (x62_3 : Int).toNat ((wrap64 ((wrap64 (1 + (wrap64 (x45_2 * 16)))) + (Int.tmod x62_3 16))) % 256)) := ⟨_, rfl⟩
                                    replace H : (fuglemanlaw19_ImageApart.l1 k3 a0 l1 l2 (⟨#[102, 117, 103, 108, 101, 109, 97, 110, 44, 32, 97, 32, 115, 116, 97, 116, 105, 111, 110, 32, 111, 102, 32, 97, 32, 114, 105, 110, 103]⟩ : ByteArray) x10_2 x45_2 y186 l1 (l1.length : Int) x45_2 (y183.length : Int) (wrap64 (x62_3 + 1))) = some r := by first | (rw [hy186]; with_reducible exact H) | (have H2_ := (Option.bind_some _ _).symm.trans H; rw [hy186]; with_reducible exact H2_) | (have H2_ := (Option.bind_some _ _).symm.trans H; with_reducible exact H2_) | with_reducible exact H | (rw [hy186]; exact H) | exact H
                                    have Ny186 := Aside0.mk hy186
                                    clear hy186
                                    have H' := Aside0.mk H
                                    clear H
                                    have p31 : 0 ≤ (x62_3 : Int) := of_decide_eq_true (by first | (with_reducible assumption) | assumption)
                                    have q31 : (x62_3 : Int) < ((x15_3.length : Int) : Int) := of_decide_eq_true (by first | (with_reducible assumption) | assumption)
                                    obtain ⟨go31, co31, eo31, gb31, gl31, cl31, HG31⟩ := Kd.R_form HO_15.out (by omega)
                                    (first | cases eo31 | (injection eo31 with ea_ en_ ec_; (first | subst ea_ | (injection ea_ with ea_; subst ea_)); subst ec_; clear en_))
                                    have GB31 := Aside0.mk gb31
                                    have GG31 := Aside0.mk HG31
                                    clear gb31 gl31 HG31
                                    obtain ⟨hx31_0, hf31_0⟩ := Kd.R_celln 0 HO_15.out (x62_3 : Int) p31 q31
                                    replace p31 := eq_true p31
                                    replace q31 := eq_true q31
                                    have HP32 := Kd.R_putg HO_15.out (x62_3 : Int) ((wrap64 ((wrap64 (1 + (wrap64 (x45_2 * 16)))) + (Int.tmod x62_3 16))) % 256)
                                    go_wp2_with (first | ((with_reducible refine gate_store (t := 5) (p := 74) rfl ?_); refine store_event (t := 5) (p := 74) (v := ?vo_w33) (w1 := (wr.setCell ⟨go31, (x62_3 : Int).toNat, none⟩ (.int .u8 ((wrap64 ((wrap64 (1 + (wrap64 (x45_2 * 16)))) + (Int.tmod x62_3 16))) % 256)))) ?hg ?ho ?hn ?hr ?_; (case ho => rfl); (case hg => rfl); (case hn => rfl); (case hr => first | (go_simp; done) | (go_simp; rfl)); intro w33 hw; have hg : wr.grownBy w33 (some go31) := (by rw [hw]; exact HP32.2); have hp_ : Kd.R (Kd.int .u8) 5 w33 w.heap.size (fun _ => True) (.slice (some ⟨go31, 0, none⟩) x15_3.length co27) y186 := (by rw [hw, Ny186.out]; exact HP32.1); clear HP32; have n0_ := Aside0.mk (Kd.R_over' (v := (.slice (some ⟨go31, 0, none⟩) x15_3.length co27)) (by (with_reducible repeat (first | apply Kd.R_alloc | apply Kd.R_drewN | apply Kd.R_drew)); exact HO_10.out) (Kd.R_typed HO_15.out) (by decide) hg); have n1_ := Aside0.mk (hp_); have n2_ := Aside0.mk (blk_grown (g := gb176) (o := .cells #[.int .i64 ((rd_T32 l1 x45_2).f0), .int .i64 ((rd_T32 l1 x45_2).f1)] 32 (0, 0)) (by (with_reducible repeat (first | refine blk_drewN ?_ _ | refine blk_drew ?_ | refine blk_alloc ?_ _)); exact BK176.out) hg (Kd.R_ne HO_15.out BK176.out (by decide))); have n3_ := Aside0.mk (blk_grown (g := gb182) (o := .cells #[.int .i64 t177, .int .i64 t178, .int .i64 t179, .bool t180] 34 (0, 0)) (by (with_reducible repeat (first | refine blk_drewN ?_ _ | refine blk_drew ?_ | refine blk_alloc ?_ _)); exact BK182.out) hg (Kd.R_ne HO_15.out BK182.out (by decide))); have n4_ := Aside0.mk ((by rw [hw]; exact below_set (HB.out) GB31.out : Below w.heap.size w w33)); clear HO_10; clear HO_15; clear BK176; clear BK182; clear HB; have HO_10 := n0_; have HO_15 := n1_; have BK176 := n2_; have BK182 := n3_; have HB := n4_; clear n0_ n1_ n2_ n3_ n4_; clear hg hw hp_))
                                    (try simp only [← hl15_3])
                                    go_roundg k3
                                    case measure => have := HJ5.out; have := HK2.out; have := HK3.out; omega
                                    case rel => exact ⟨(y186), (wrap64 (x62_3 + 1)), (by first | rfl | (simp; done) | (simp [*]; done)), H', ⟨by have := HJ5.out; have := HK2.out; have := HK3.out; omega⟩, ⟨by (try simp only [hl15_3]); (with_reducible repeat (first | apply Kd.R_alloc | apply Kd.R_drewN | apply Kd.R_drew)); exact HO_10.out⟩, ⟨by (try simp only [hl15_3]); (with_reducible repeat (first | apply Kd.R_alloc | apply Kd.R_drewN | apply Kd.R_drew)); exact HO_15.out⟩, ⟨by (try simp only [hl15_3]); (with_reducible repeat (first | refine blk_drewN ?_ _ | refine blk_drew ?_ | refine blk_alloc ?_ _)); exact BK176.out⟩, ⟨by (try simp only [hl15_3]); (with_reducible repeat (first | refine blk_drewN ?_ _ | refine blk_drew ?_ | refine blk_alloc ?_ _)); exact BK182.out⟩, ⟨by repeat (first | (with_reducible first | exact HB.out | apply below_alloc | apply pw_below_drewN | apply below_drew1 | refine below_set ?_ GE176.out | refine below_set ?_ GE182.out) | exact HB.out)⟩⟩
                                  · rw [if_neg c30] at H
                                    exact absurd H (by simp)
                                · rw [if_neg c29] at H
                                  exact absurd H (by simp)
                              · rw [if_neg c28] at H
                                have c28b0 : decide (x62_3 < (y183.length : Int)) = false := decide_eq_false c28
                                try (have c28b0x := c28b0; rw [hl15_3] at c28b0x)
                                clear c28
                                by_cases c34 : x10_2.length < 8796093022208
                                · rw [if_pos c34] at H
                                  have LMc34 := Aside0.mk c34
                                  clear c34
                                  obtain ⟨y187, hy187⟩ : ∃ y_ : List ByteArray, y_ = (x10_2 ++ [strOfNums x15_3]) := ⟨_, rfl⟩
                                  replace H : (fuglemanlaw19_ImageApart.l0 k3 a0 l1 l2 (⟨#[102, 117, 103, 108, 101, 109, 97, 110, 44, 32, 97, 32, 115, 116, 97, 116, 105, 111, 110, 32, 111, 102, 32, 97, 32, 114, 105, 110, 103]⟩ : ByteArray) y187 l1 (l1.length : Int) (wrap64 (x45_2 + 1))) = some r := by first | (rw [hy187]; with_reducible exact H) | (have H2_ := (Option.bind_some _ _).symm.trans H; rw [hy187]; with_reducible exact H2_) | (have H2_ := (Option.bind_some _ _).symm.trans H; with_reducible exact H2_) | with_reducible exact H | (rw [hy187]; exact H) | exact H
                                  have Ny187 := Aside0.mk hy187
                                  clear hy187
                                  have H' := Aside0.mk H
                                  clear H
                                  have hcv35 := own_string (P := Try.prog) Try.underlying37 Try.underlying5 Try.underlying9 (Kd.own_of_R HO_15.out)
                                  go_wp2_with (first | ((with_reducible refine gate_builtin (b := .append) (xs := #[.tmp 76, .tmp 79]) rfl ?_); (try (refine gate_guard (by rfl) ?_; dsimp only)); at_builtin; refine Kd.R_append Kd.string (w0 := w) w.heap.size rfl (.tmp 76) (.tmp 79) 23 9 (.string ⟨#[]⟩) 16 rfl Try.underlying23 info9 rfl (by decide) (by omega) u10 x10_2 (strOfNums x15_3) [.string (strOfNums x15_3)] (fun _ => True) (fun _ => False) rfl rfl ?aP (fun _ hk => hk.elim) ?aF ?aO ?aB ?aS ?aL ?_; (case aP => exact rfl); (case aB => exact (by repeat (first | (with_reducible first | exact HB.out | apply below_alloc | apply pw_below_drewN | apply below_drew1 | refine below_set ?_ GE176.out | refine below_set ?_ GE182.out) | exact HB.out))); (case aF => exact (fun _ _ => trivial)); (case aO => exact (by (with_reducible repeat (first | apply Kd.R_alloc | apply Kd.R_drewN | apply Kd.R_drew)); exact HO_10.out)); (case aS => exact (below_size (by repeat (first | (with_reducible first | exact HB.out | apply below_alloc | apply pw_below_drewN | apply below_drew1 | refine below_set ?_ GE176.out | refine below_set ?_ GE182.out) | exact HB.out)))); (case aL => have := LMc34.out; omega); intro v188 w36 ho hb hg hat; rw [← Ny187.out] at ho; have n0_ := Aside0.mk (Kd.R_over' (by (with_reducible repeat (first | apply Kd.R_alloc | apply Kd.R_drewN | apply Kd.R_drew)); exact HO_15.out) (Kd.R_typed (by (with_reducible repeat (first | apply Kd.R_alloc | apply Kd.R_drewN | apply Kd.R_drew)); exact HO_10.out)) (by decide) hg); have n1_ := Aside0.mk (blk_grown (g := gb176) (o := .cells #[.int .i64 ((rd_T32 l1 x45_2).f0), .int .i64 ((rd_T32 l1 x45_2).f1)] 32 (0, 0)) (by (with_reducible repeat (first | refine blk_drewN ?_ _ | refine blk_drew ?_ | refine blk_alloc ?_ _)); exact BK176.out) hg (Kd.R_ne HO_10.out BK176.out (by decide))); have n2_ := Aside0.mk (blk_grown (g := gb182) (o := .cells #[.int .i64 t177, .int .i64 t178, .int .i64 t179, .bool t180] 34 (0, 0)) (by (with_reducible repeat (first | refine blk_drewN ?_ _ | refine blk_drew ?_ | refine blk_alloc ?_ _)); exact BK182.out) hg (Kd.R_ne HO_10.out BK182.out (by decide))); have n3_ := Aside0.mk (hb); have n4_ := Aside0.mk (ho); clear HO_15; clear BK176; clear BK182; clear HB; clear HO_10; have HO_15 := n0_; have BK176 := n1_; have BK182 := n2_; have HB := n3_; have HO189 := n4_; clear n0_ n1_ n2_ n3_ n4_; clear ho hb hg hat))
                                  (try simp only [← hl15_3])
                                  go_roundg k3
                                  case measure => have := HJ5.out; have := HK2.out; have := HK3.out; omega
                                  case rel => exact ⟨(y187), (wrap64 (x45_2 + 1)), (by first | rfl | (simp; done) | (simp [*]; done)), H', ⟨by have := HJ5.out; have := HK2.out; have := HK3.out; omega⟩, ⟨by (try simp only [hl15_3]); (with_reducible repeat (first | apply Kd.R_alloc | apply Kd.R_drewN | apply Kd.R_drew)); exact HO189.out⟩, ⟨by repeat (first | (with_reducible first | exact HB.out | apply below_alloc | apply pw_below_drewN | apply below_drew1 | refine below_set ?_ GE176.out | refine below_set ?_ GE182.out) | exact HB.out)⟩⟩
                                · rw [if_neg c34] at H
                                  exact absurd H (by simp)
                        · rw [if_neg c18] at H
                          exact absurd H (by simp)
                      · rw [if_neg c17] at H
                        exact absurd H (by simp)
                    · rw [if_neg c15] at H
                      exact absurd H (by simp)
                  · rw [if_neg c14] at H
                    exact absurd H (by simp)
                · rw [if_neg c13] at H
                  have c13b0 : decide (x45_2 < (l1.length : Int)) = false := decide_eq_false c13
                  clear c13
                  replace H := Option.bind_eq_some_iff.mp H
                  obtain ⟨t190, A370, H⟩ := H
                  replace H : (fuglemanlaw19_ImageApart.l2 k2 a0 (⟨#[102, 117, 103, 108, 101, 109, 97, 110, 44, 32, 97, 32, 115, 116, 97, 116, 105, 111, 110, 32, 111, 102, 32, 97, 32, 114, 105, 110, 103]⟩ : ByteArray) x10_2 t190 0 l1 (l1.length : Int) 0) = some r := H
                  have A37 := Aside0.mk A370
                  clear A370
                  have H' := Aside0.mk H
                  clear H
                  obtain ⟨Ao38, co38, eo38⟩ := Kd.R_slice HO_10.out
                  subst eo38
                  go_wp2_with (first | ((with_reducible refine gate_callee (f := 7) rfl ?_); refine goesL_ (some 86) rfl rfl Try.func7 (by kernel_rfl) rfl #[.int .i64 a0, .string (⟨#[102, 117, 103, 108, 101, 109, 97, 110, 44, 32, 97, 32, 115, 116, 97, 116, 105, 111, 110, 32, 111, 102, 32, 97, 32, 114, 105, 110, 103]⟩ : ByteArray), .slice A1 l1.length c1, .slice Ao38 x10_2.length co38] rfl (by (try simp only [List.map_toArray, List.map_cons, List.map_nil]); first | done | rfl | (simp only [List.length_drop, List.length_take]; rfl)) ?_; (with_reducible refine (image_Inputs.calls k2 a0 (⟨#[102, 117, 103, 108, 101, 109, 97, 110, 44, 32, 97, 32, 115, 116, 97, 116, 105, 111, 110, 32, 111, 102, 32, 97, 32, 114, 105, 110, 103]⟩ : ByteArray) _ _ l1 _ _ x10_2 t190 _ ?side1 ?side2 ?side3 ?side4 A37.out).mono ?_); (case side1 => repeat (first | exact (Kd.C_below HR1.out HB.out) | (with_reducible refine Kd.C_alloc ?_ _) | (with_reducible refine Kd.C_drewN ?_ _) | (with_reducible refine Kd.C_drew ?_))); (case side2 => exact HC1.out); (case side3 => repeat (first | exact (Kd.R_reads' HO_10.out).2.2 | (with_reducible refine Kd.C_alloc ?_ _) | (with_reducible refine Kd.C_drewN ?_ _) | (with_reducible refine Kd.C_drew ?_))); (case side4 => exact (Kd.R_reads' HO_10.out).2.1); rintro e w39 ⟨rfl, hb⟩; refine ⟨_, rfl, ?_⟩; have n0_ := Aside0.mk (Kd.R_below (by (with_reducible repeat (first | apply Kd.R_alloc | apply Kd.R_drewN | apply Kd.R_drew)); exact HO_10.out) hb); have n1_ := Aside0.mk (below_step (by repeat (first | (with_reducible first | exact HB.out | apply below_alloc | apply pw_below_drewN | apply below_drew1) | exact HB.out)) hb); clear HO_10; clear HB; have HO_10 := n0_; have HB := n1_; clear n0_ n1_; (try clear hb); (try clear hb2); (try clear hk); (try clear hi)))
                  go_loopg [18, 89] k2 (fun kq v18 v89 w' => ∃ (x18_3 : Int) (x89_3 : Int), v18 = .int .i64 x18_3 ∧ v89 = .int .i64 x89_3 ∧ Aside0 (fuglemanlaw19_ImageApart.l2 kq a0 (⟨#[102, 117, 103, 108, 101, 109, 97, 110, 44, 32, 97, 32, 115, 116, 97, 116, 105, 111, 110, 32, 111, 102, 32, 97, 32, 114, 105, 110, 103]⟩ : ByteArray) x10_2 t190 x18_3 l1 (l1.length : Int) x89_3 = some r) ∧ Aside0 (kq ≤ k2) ∧ Aside0 (Kd.R Kd.string 9 w' w.heap.size (fun _ => True) (.slice Ao38 x10_2.length co38) x10_2) ∧ Aside0 (Below w.heap.size w w'))
                  case atStart => exact ⟨(0), (0), (by first | rfl | (simp; done) | (simp [*]; done)), (by first | rfl | (simp; done) | (simp [*]; done)), H', ⟨Nat.le_refl _⟩, ⟨by (with_reducible repeat (first | apply Kd.R_alloc | apply Kd.R_drewN | apply Kd.R_drew)); exact HO_10.out⟩, ⟨by repeat (first | (with_reducible first | exact HB.out | apply below_alloc | apply pw_below_drewN | apply below_drew1) | exact HB.out)⟩⟩
                  case round =>
                    clear H'
                    try clear c1
                    try clear p1
                    try clear q1
                    try clear hx1
                    try clear c2
                    try clear p2
                    try clear c3
                    try clear p3
                    try clear q3
                    try clear hx3
                    try clear hcv3
                    try clear hf3
                    try clear c4
                    try clear c5
                    try clear c6
                    try clear p6
                    try clear c7
                    try clear c8
                    try clear c8b0
                    try clear c8b1
                    try clear c9
                    try clear c10
                    try clear c11
                    try clear c11b0
                    try clear c11b1
                    try clear c13
                    try clear c13b0
                    try clear c14
                    try clear c14b0
                    try clear c15
                    try clear c15b0
                    try clear c17
                    try clear c17b0
                    try clear c17b1
                    try clear p17
                    try clear q17
                    try clear hx17
                    try clear c18
                    try clear c18b0
                    try clear c18b1
                    try clear c23
                    try clear c28
                    try clear c28b0
                    try clear c29
                    try clear c29b0
                    try clear c30
                    try clear c30b0
                    try clear p31
                    try clear q31
                    try clear hx31
                    try clear hf31
                    try clear c34
                    try clear hcv35
                    try clear hcz20_0
                    try clear hcz20_1
                    try clear hcz24_0
                    try clear hcz24_1
                    try clear hcz24_2
                    try clear hcz24_3
                    try clear hfz20_0
                    try clear hfz20_1
                    try clear hfz24_0
                    try clear hfz24_1
                    try clear hfz24_2
                    try clear hfz24_3
                    try clear hx175_0
                    try clear hx175_1
                    try clear hx31_0
                    try clear p1
                    try clear p17
                    try clear p175
                    try clear p2
                    try clear p31
                    try clear q1
                    try clear q17
                    try clear q175
                    try clear q31
                    obtain ⟨x18_3, x89_3, rfl, rfl, HA, HK3, HO_10, HB⟩ := hrel
                    cases gk with
                    | zero => exact absurd HA.out (by simp [fuglemanlaw19_ImageApart.l2])
                    | succ k3 =>
                      have H := HA.out
                      clear HA
                      simp only [fuglemanlaw19_ImageApart.l2] at H
                      by_cases c40 : x89_3 < (l1.length : Int)
                      · rw [if_pos c40] at H
                        have c40b0 : decide (x89_3 < (l1.length : Int)) = true := decide_eq_true c40
                        clear c40
                        by_cases c41 : 0 ≤ x89_3
                        · rw [if_pos c41] at H
                          have c41b0 : decide (0 ≤ x89_3) = true := decide_eq_true c41
                          clear c41
                          by_cases c42 : x89_3 < (l1.length : Int)
                          · rw [if_pos c42] at H
                            have c42b0 : decide (x89_3 < (l1.length : Int)) = true := decide_eq_true c42
                            clear c42
                            by_cases c43 : x89_3 < (x10_2.length : Int)
                            · rw [if_pos c43] at H
                              have c43b0 : decide (x89_3 < (x10_2.length : Int)) = true := decide_eq_true c43
                              clear c43
                              replace H := Option.bind_eq_some_iff.mp H
                              obtain ⟨t194, A440, H⟩ := H
                              replace H : (if t194.toList = (rdOf ByteArray.empty x10_2 x89_3).toList then (fuglemanlaw19_ImageApart.l2 k3 a0 (⟨#[102, 117, 103, 108, 101, 109, 97, 110, 44, 32, 97, 32, 115, 116, 97, 116, 105, 111, 110, 32, 111, 102, 32, 97, 32, 114, 105, 110, 103]⟩ : ByteArray) x10_2 t190 (wrap64 (x18_3 + ((rdOf ByteArray.empty x10_2 x89_3).size : Int))) l1 (l1.length : Int) (wrap64 (x89_3 + 1))) else (some false)) = some r := H
                              have A44 := Aside0.mk A440
                              clear A440
                              by_cases c45 : t194.toList = (rdOf ByteArray.empty x10_2 x89_3).toList
                              · rw [if_pos c45] at H
                                have c45b0 : (t194.toList == (rdOf ByteArray.empty x10_2 x89_3).toList) = true := beq_iff_eq.mpr c45
                                have c45b1 : (t194.toList != (rdOf ByteArray.empty x10_2 x89_3).toList) = false := bne_eq_false_iff_eq.mpr c45
                                clear c45
                                have H' := Aside0.mk H
                                clear H
                                have p191 : 0 ≤ (x89_3 : Int) := of_decide_eq_true (by first | (with_reducible assumption) | assumption)
                                have q191 : x89_3 < (l1.length : Int) := of_decide_eq_true (by first | (with_reducible assumption) | assumption)
                                obtain ⟨ad191, e191, hx191_0, hx191_1⟩ := at_T32 HR1.out x89_3 p191 q191
                                cases e191
                                replace hx191_0 := (HB.out.cell (World.block_lt_of_cell? w _ hx191_0)).trans hx191_0
                                replace hx191_1 := (HB.out.cell (World.block_lt_of_cell? w _ hx191_1)).trans hx191_1
                                replace p191 := eq_true p191
                                replace q191 := eq_true q191
                                try go_wp2_with (first | ((with_reducible refine gate_dst (N := 20) rfl ?_); (try (refine gate_guard (by rfl) ?_; dsimp only)); refine box_event ?hg (N := 20) ?hd (cs := #[.int .i64 0, .int .i64 0]) (t := 32) ?hr ?_; (case hd => rfl); (case hg => rfl); (case hr => first | (go_simp; done) | (go_simp; rfl)); intro gb192 hg w46 hbox hb; have n0_ := Aside0.mk (Kd.R_below (by (with_reducible repeat (first | apply Kd.R_alloc | apply Kd.R_drewN | apply Kd.R_drew)); exact HO_10.out) hb); have n1_ := Aside0.mk (below_step (by repeat (first | (with_reducible first | exact HB.out | apply below_alloc | apply pw_below_drewN | apply below_drew1) | exact HB.out)) hb); have n2_ := Aside0.mk (hbox); have n3_ := Aside0.mk ((by rw [hg]; exact (below_size (by repeat (first | (with_reducible first | exact HB.out | apply below_alloc | apply pw_below_drewN | apply below_drew1) | exact HB.out))) : w.heap.size ≤ gb192)); have n4_ := Aside0.mk ((by rw [hg]; exact (below_size (by repeat (first | (with_reducible first | exact HB.out | apply below_alloc | apply pw_below_drewN | apply below_drew1) | exact HB.out))) : w.heap.size ≤ gb192)); clear HO_10; clear HB; have HO_10 := n0_; have HB := n1_; have BK192 := n2_; have GW192 := n3_; have GE192 := n4_; clear n0_ n1_ n2_ n3_ n4_; clear hb hbox hg; have hcz47_0 : w46.cell? ⟨gb192, 0, none⟩ = some (.int .i64 0) := (blk_cell BK192.out 0).trans rfl; have hcz47_1 : w46.cell? ⟨gb192, 1, none⟩ = some (.int .i64 0) := (blk_cell BK192.out 1).trans rfl; have hfz47_0 := blk_frozen BK192.out 0; have hfz47_1 := blk_frozen BK192.out 1))
                                have n0_ : Aside0 (Kd.R Kd.string 9 ((w46.setCell ⟨gb192, 0, none⟩ (.int .i64 ((rd_T32 l1 x89_3).f0))).setCell ⟨gb192, 1, none⟩ (.int .i64 ((rd_T32 l1 x89_3).f1))) w.heap.size (fun _ => True) (.slice Ao38 x10_2.length co38) x10_2) := ⟨by (with_reducible repeat (first | apply Kd.R_alloc | apply Kd.R_drewN | apply Kd.R_drew)); exact Kd.R_mono (Kd.R_far (p := ⟨gb192, 1, none⟩) (Kd.R_far (p := ⟨gb192, 0, none⟩) (Kd.R_types HO_10.out BK192.out (by decide)) (fun _ hk => hk.2) (.int .i64 ((rd_T32 l1 x89_3).f0))) (fun _ hk => hk.2) (.int .i64 ((rd_T32 l1 x89_3).f1))) (fun _ hk => trivial)⟩
                                have n1_ : Aside0 (((w46.setCell ⟨gb192, 0, none⟩ (.int .i64 ((rd_T32 l1 x89_3).f0))).setCell ⟨gb192, 1, none⟩ (.int .i64 ((rd_T32 l1 x89_3).f1))).heap[gb192]? = some (.cells #[.int .i64 ((rd_T32 l1 x89_3).f0), .int .i64 ((rd_T32 l1 x89_3).f1)] 32 (0, 0))) := ⟨by (with_reducible repeat (first | refine blk_drewN ?_ _ | refine blk_drew ?_ | refine blk_alloc ?_ _)); refine blk_put (cs := #[.int .i64 ((rd_T32 l1 x89_3).f0), .int .i64 0]) ?_ 1 _ rfl; (with_reducible repeat (first | refine blk_drewN ?_ _ | refine blk_drew ?_ | refine blk_alloc ?_ _)); refine blk_put (cs := #[.int .i64 0, .int .i64 0]) ?_ 0 _ rfl; (with_reducible repeat (first | refine blk_drewN ?_ _ | refine blk_drew ?_ | refine blk_alloc ?_ _)); exact BK192.out⟩
                                have n2_ : Aside0 (Below w.heap.size w ((w46.setCell ⟨gb192, 0, none⟩ (.int .i64 ((rd_T32 l1 x89_3).f0))).setCell ⟨gb192, 1, none⟩ (.int .i64 ((rd_T32 l1 x89_3).f1)))) := ⟨by repeat (first | (with_reducible first | exact HB.out | apply below_alloc | apply pw_below_drewN | apply below_drew1 | refine below_set ?_ GE192.out) | exact HB.out)⟩
                                (try clear HO_10)
                                (try clear BK192)
                                (try clear HB)
                                generalize ((w46.setCell ⟨gb192, 0, none⟩ (.int .i64 ((rd_T32 l1 x89_3).f0))).setCell ⟨gb192, 1, none⟩ (.int .i64 ((rd_T32 l1 x89_3).f1))) = w48 at n0_ n1_ n2_ ⊢
                                have HO_10 := n0_
                                have BK192 := n1_
                                have HB := n2_
                                clear n0_ n1_ n2_
                                have n0_ := Aside0.mk (Kd.R_drew HO_10.out)
                                have n1_ := Aside0.mk (blk_drew BK192.out)
                                have n2_ := Aside0.mk (below_drew1 HB.out)
                                clear HO_10
                                clear BK192
                                clear HB
                                have HO_10 := n0_
                                have BK192 := n1_
                                have HB := n2_
                                clear n0_ n1_ n2_
                                have p193 : 0 ≤ (x89_3 : Int) := of_decide_eq_true (by first | (with_reducible assumption) | assumption)
                                have q193 : x89_3 < (x10_2.length : Int) := of_decide_eq_true (by first | (with_reducible assumption) | assumption)
                                obtain ⟨ad193, e193, hx193_0⟩ := Kd.at_string (Kd.R_reads' HO_10.out).2.2 x89_3 p193 q193
                                cases e193
                                replace p193 := eq_true p193
                                replace q193 := eq_true q193
                                have p195 : 0 ≤ (x89_3 : Int) := of_decide_eq_true (by first | (with_reducible assumption) | assumption)
                                have q195 : x89_3 < (x10_2.length : Int) := of_decide_eq_true (by first | (with_reducible assumption) | assumption)
                                obtain ⟨ad195, e195, hx195_0⟩ := Kd.at_string (Kd.R_reads' HO_10.out).2.2 x89_3 p195 q195
                                obtain rfl : ad193 = ad195 := (by injection e195)
                                replace p195 := eq_true p195
                                replace q195 := eq_true q195
                                refine start_ (n := 14) (S := fun w' => w'.cell? ⟨gb192, 0, none⟩ = some (.int .i64 ((rd_T32 l1 x89_3).f0)) ∧ w'.cell? ⟨gb192, 1, none⟩ = some (.int .i64 ((rd_T32 l1 x89_3).f1)) ∧ w'.cell? (ad193.add (x89_3).toNat) = some (.string (rdOf ByteArray.empty x10_2 x89_3)) ∧ w'.cell? (ad193.add (x89_3).toNat) = some (.string (rdOf ByteArray.empty x10_2 x89_3))) (ds := []) #[false, false, false, false, false, false, false, false, false, false, false, false, false, false] (by kernel_rfl) rfl rfl ⟨(blk_cell BK192.out 0).trans rfl, (blk_cell BK192.out 1).trans rfl, hx193_0, hx195_0⟩ (fun hHeld => ?_); refine with_tabW fuglemanlaw19_ImageApart.tab27 fuglemanlaw19_ImageApart.bits27 (fun HT_ HW_ => ?_)
                                generalize w48.drew = w49 at HO_10 BK192 HB hx193_0 hx195_0 hHeld ⊢
                                refine pure_ (i := 0) (N := some 94) (v := ?_) (a' := ?_) #[true, false, false, false, false, false, false, false, false, false, false, false, false, false] rfl rfl (any_of HT_.out (by kernel_rfl)) (fun _ _ _ h => h) (Or.inl ⟨by rfl, ?_⟩) ?_ ?_
                                rotate_left
                                · intro w'
                                  go_simp
                                  with_reducible rfl
                                rotate_left
                                · simp only [Act.put, List.setIfInBounds_toArray, List.set_cons_zero, List.set_cons_succ, i64_w, i32_w]
                                  rfl
                                refine pure_ (i := 1) (N := some 95) (v := ?_) (a' := ?_) #[true, true, false, false, false, false, false, false, false, false, false, false, false, false] rfl rfl (any_of HT_.out (by kernel_rfl)) (fun _ _ _ h => h) (Or.inl ⟨by rfl, ?_⟩) ?_ ?_
                                rotate_left
                                · intro w'
                                  go_simp
                                  with_reducible rfl
                                rotate_left
                                · simp only [Act.put, List.setIfInBounds_toArray, List.set_cons_zero, List.set_cons_succ, i64_w, i32_w]
                                  rfl
                                refine pure_ (i := 3) (N := some 97) (v := ?_) (a' := ?_) #[true, true, false, true, false, false, false, false, false, false, false, false, false, false] rfl rfl (any_of HT_.out (by kernel_rfl)) (fun _ _ _ h => h) (Or.inl ⟨by rfl, ?_⟩) ?_ ?_
                                rotate_left
                                · intro w'
                                  go_simp
                                  with_reducible rfl
                                rotate_left
                                · simp only [Act.put, List.setIfInBounds_toArray, List.set_cons_zero, List.set_cons_succ, i64_w, i32_w]
                                  rfl
                                refine pure_ (i := 4) (N := some 98) (v := ?_) (a' := ?_) #[true, true, false, true, true, false, false, false, false, false, false, false, false, false] rfl rfl (any_of HT_.out (by kernel_rfl)) (fun _ _ _ h => h) (Or.inl ⟨by rfl, ?_⟩) ?_ ?_
                                rotate_left
                                · intro w'
                                  go_simp
                                  with_reducible rfl
                                rotate_left
                                · simp only [Act.put, List.setIfInBounds_toArray, List.set_cons_zero, List.set_cons_succ, i64_w, i32_w]
                                  rfl
                                refine pure_ (i := 5) (N := some 99) (v := ?_) (a' := ?_) #[true, true, false, true, true, true, false, false, false, false, false, false, false, false] rfl rfl (any_of HT_.out (by kernel_rfl)) (fun _ _ _ h => h) (Or.inl ⟨by rfl, ?_⟩) ?_ ?_
                                rotate_left
                                · intro w'
                                  go_simp
                                  with_reducible rfl
                                rotate_left
                                · simp only [Act.put, List.setIfInBounds_toArray, List.set_cons_zero, List.set_cons_succ, i64_w, i32_w]
                                  rfl
                                refine pure_ (i := 9) (N := some 103) (v := ?_) (a' := ?_) #[true, true, false, true, true, true, false, false, false, true, false, false, false, false] rfl rfl (any_of HT_.out (by kernel_rfl)) (fun _ _ _ h => h) (Or.inl ⟨by rfl, ?_⟩) ?_ ?_
                                rotate_left
                                · intro w'
                                  go_simp
                                  with_reducible rfl
                                rotate_left
                                · simp only [Act.put, List.setIfInBounds_toArray, List.set_cons_zero, List.set_cons_succ, i64_w, i32_w]
                                  rfl
                                refine pure_ (i := 10) (N := some 104) (v := ?_) (a' := ?_) #[true, true, false, true, true, true, false, false, false, true, true, false, false, false] rfl rfl (any_of HT_.out (by kernel_rfl)) (fun _ _ _ h => h) (Or.inl ⟨by rfl, ?_⟩) ?_ ?_
                                rotate_left
                                · intro w'
                                  go_simp
                                  with_reducible rfl
                                rotate_left
                                · simp only [Act.put, List.setIfInBounds_toArray, List.set_cons_zero, List.set_cons_succ, i64_w, i32_w]
                                  rfl
                                refine pure_ (i := 11) (N := some 105) (v := ?_) (a' := ?_) #[true, true, false, true, true, true, false, false, false, true, true, true, false, false] rfl rfl (any_of HT_.out (by kernel_rfl)) (fun _ _ _ h => h) (Or.inl ⟨by rfl, ?_⟩) ?_ ?_
                                rotate_left
                                · intro w'
                                  go_simp
                                  with_reducible rfl
                                rotate_left
                                · simp only [Act.put, List.setIfInBounds_toArray, List.set_cons_zero, List.set_cons_succ, i64_w, i32_w]
                                  rfl
                                refine take_ (i := 2) (N := some 96) (v := ?_) (a' := ?_) #[true, true, true, true, true, true, false, false, false, true, true, true, false, false] rfl rfl (take_ofW HT_.out HW_.out (by kernel_rfl)) (fun _ _ _ h => h) (Or.inl ⟨by rfl, ?_⟩) hHeld ?_ ?_
                                rotate_left
                                · rintro w' ⟨s0, s1, s2, s3⟩
                                  go_simp
                                  with_reducible rfl
                                rotate_left
                                · simp only [Act.put, List.setIfInBounds_toArray, List.set_cons_zero, List.set_cons_succ, i64_w, i32_w]
                                  rfl
                                refine take_ (i := 6) (N := some 100) (v := ?_) (a' := ?_) #[true, true, true, true, true, true, true, false, false, true, true, true, false, false] rfl rfl (take_ofW HT_.out HW_.out (by kernel_rfl)) (fun _ _ _ h => h) (Or.inl ⟨by rfl, ?_⟩) hHeld ?_ ?_
                                rotate_left
                                · rintro w' ⟨s0, s1, s2, s3⟩
                                  go_simp
                                  with_reducible rfl
                                rotate_left
                                · simp only [Act.put, List.setIfInBounds_toArray, List.set_cons_zero, List.set_cons_succ, i64_w, i32_w]
                                  rfl
                                refine pure_ (i := 7) (N := some 101) (v := ?_) (a' := ?_) #[true, true, true, true, true, true, true, true, false, true, true, true, false, false] rfl rfl (any_of HT_.out (by kernel_rfl)) (fun _ _ _ h => h) (Or.inl ⟨by rfl, ?_⟩) ?_ ?_
                                rotate_left
                                · intro w'
                                  go_simp
                                  with_reducible rfl
                                rotate_left
                                · simp only [Act.put, List.setIfInBounds_toArray, List.set_cons_zero, List.set_cons_succ, i64_w, i32_w]
                                  rfl
                                refine take_ (i := 12) (N := some 106) (v := ?_) (a' := ?_) #[true, true, true, true, true, true, true, true, false, true, true, true, true, false] rfl rfl (take_ofW HT_.out HW_.out (by kernel_rfl)) (fun _ _ _ h => h) (Or.inl ⟨by rfl, ?_⟩) hHeld ?_ ?_
                                rotate_left
                                · rintro w' ⟨s0, s1, s2, s3⟩
                                  go_simp
                                  with_reducible rfl
                                rotate_left
                                · simp only [Act.put, List.setIfInBounds_toArray, List.set_cons_zero, List.set_cons_succ, i64_w, i32_w]
                                  rfl
                                refine one_ (i := 8) (N := some 102) #[true, true, true, true, true, true, true, true, true, true, true, true, true, false] rfl rfl (one_of HT_.out (by kernel_rfl)) (by decide) (fun K hK => ?_)
                                refine goes_ Try.func11 (by kernel_rfl) rfl #[.string t190, .int .i64 ((rd_T32 l1 x89_3).f1), .int .i64 ((rdOf ByteArray.empty x10_2 x89_3).size : Int)] (by rfl) rfl rfl (by (try simp only [List.map_toArray, List.map_cons, List.map_nil]); first | done | rfl | (simp only [List.length_drop, List.length_take]; rfl)) ?_
                                with_reducible refine (image_Value.calls k3 t190 ((rd_T32 l1 x89_3).f1) ((rdOf ByteArray.empty x10_2 x89_3).size : Int) t194 _ A44.out).mono ?_
                                rintro e w50 ⟨rfl, hb⟩
                                have HS2_ := (hb.cell (World.block_lt_of_cell? _ _ (hHeld.2.2.1))).trans (hHeld.2.2.1)
                                have HS3_ := (hb.cell (World.block_lt_of_cell? _ _ (hHeld.2.2.2))).trans (hHeld.2.2.2)
                                refine ⟨_, rfl, ?_⟩
                                have n0_ := Aside0.mk (Kd.R_below (by (with_reducible repeat (first | apply Kd.R_alloc | apply Kd.R_drewN | apply Kd.R_drew)); exact HO_10.out) hb)
                                have n1_ := Aside0.mk (blk_below (g := gb192) (o := .cells #[.int .i64 ((rd_T32 l1 x89_3).f0), .int .i64 ((rd_T32 l1 x89_3).f1)] 32 (0, 0)) (by (with_reducible repeat (first | refine blk_drewN ?_ _ | refine blk_drew ?_ | refine blk_alloc ?_ _)); exact BK192.out) hb)
                                have n2_ := Aside0.mk (below_step (by repeat (first | (with_reducible first | exact HB.out | apply below_alloc | apply pw_below_drewN | apply below_drew1 | refine below_set ?_ GE192.out) | exact HB.out)) hb)
                                clear HO_10
                                clear BK192
                                clear HB
                                have HO_10 := n0_
                                have BK192 := n1_
                                have HB := n2_
                                clear n0_ n1_ n2_
                                (try clear hb)
                                (try clear hb2)
                                (try clear hk)
                                (try clear hi)
                                refine hK.out _ _ ⟨(blk_cell BK192.out 0).trans rfl, (blk_cell BK192.out 1).trans rfl, HS2_, HS3_⟩ (fun hHeld => ?_)
                                clear hK K
                                refine norm_ (a' := ?_) ?_ ?_
                                rotate_left
                                · show Act.put _ (some 102) _ = _
                                  simp only [Act.put, List.setIfInBounds_toArray, List.set_cons_zero, List.set_cons_succ, i64_w, i32_w]
                                  rfl
                                refine pure_ (i := 13) (N := some 107) (v := ?_) (a' := ?_) #[true, true, true, true, true, true, true, true, true, true, true, true, true, true] rfl rfl (any_of HT_.out (by kernel_rfl)) (fun _ _ _ h => h) (Or.inl ⟨by rfl, ?_⟩) ?_ ?_
                                rotate_left
                                · intro w'
                                  go_simp
                                  with_reducible rfl
                                rotate_left
                                · simp only [Act.put, List.setIfInBounds_toArray, List.set_cons_zero, List.set_cons_succ, i64_w, i32_w]
                                  rfl
                                refine done_ (done_of HT_.out (by kernel_rfl)) ?_
                                have p196 : 0 ≤ (x89_3 : Int) := of_decide_eq_true (by first | (with_reducible assumption) | assumption)
                                have q196 : x89_3 < (x10_2.length : Int) := of_decide_eq_true (by first | (with_reducible assumption) | assumption)
                                obtain ⟨ad196, e196, hx196_0⟩ := Kd.at_string (Kd.R_reads' HO_10.out).2.2 x89_3 p196 q196
                                obtain rfl : ad193 = ad196 := (by injection e196)
                                replace p196 := eq_true p196
                                replace q196 := eq_true q196
                                try go_wp2
                                go_roundg k3
                                case measure => have := HJ5.out; have := HK2.out; have := HK3.out; omega
                                case rel => exact ⟨(wrap64 (x18_3 + ((rdOf ByteArray.empty x10_2 x89_3).size : Int))), (wrap64 (x89_3 + 1)), (by first | rfl | (simp; done) | (simp [*]; done)), (by first | rfl | (simp; done) | (simp [*]; done)), H', ⟨by have := HJ5.out; have := HK2.out; have := HK3.out; omega⟩, ⟨by (with_reducible repeat (first | apply Kd.R_alloc | apply Kd.R_drewN | apply Kd.R_drew)); exact HO_10.out⟩, ⟨by repeat (first | (with_reducible first | exact HB.out | apply below_alloc | apply pw_below_drewN | apply below_drew1 | refine below_set ?_ GE192.out) | exact HB.out)⟩⟩
                              · rw [if_neg c45] at H
                                have c45b0 : (t194.toList == (rdOf ByteArray.empty x10_2 x89_3).toList) = false := beq_eq_false_iff_ne.mpr c45
                                have c45b1 : (t194.toList != (rdOf ByteArray.empty x10_2 x89_3).toList) = true := bne_iff_ne.mpr c45
                                obtain rfl := Option.some.inj H
                                have p191 : 0 ≤ (x89_3 : Int) := of_decide_eq_true (by first | (with_reducible assumption) | assumption)
                                have q191 : x89_3 < (l1.length : Int) := of_decide_eq_true (by first | (with_reducible assumption) | assumption)
                                obtain ⟨ad191, e191, hx191_0, hx191_1⟩ := at_T32 HR1.out x89_3 p191 q191
                                cases e191
                                replace hx191_0 := (HB.out.cell (World.block_lt_of_cell? w _ hx191_0)).trans hx191_0
                                replace hx191_1 := (HB.out.cell (World.block_lt_of_cell? w _ hx191_1)).trans hx191_1
                                replace p191 := eq_true p191
                                replace q191 := eq_true q191
                                try go_wp2_with (first | ((with_reducible refine gate_dst (N := 20) rfl ?_); (try (refine gate_guard (by rfl) ?_; dsimp only)); refine box_event ?hg (N := 20) ?hd (cs := #[.int .i64 0, .int .i64 0]) (t := 32) ?hr ?_; (case hd => rfl); (case hg => rfl); (case hr => first | (go_simp; done) | (go_simp; rfl)); intro gb192 hg w51 hbox hb; have n0_ := Aside0.mk (Kd.R_below (by (with_reducible repeat (first | apply Kd.R_alloc | apply Kd.R_drewN | apply Kd.R_drew)); exact HO_10.out) hb); have n1_ := Aside0.mk (below_step (by repeat (first | (with_reducible first | exact HB.out | apply below_alloc | apply pw_below_drewN | apply below_drew1) | exact HB.out)) hb); have n2_ := Aside0.mk (hbox); have n3_ := Aside0.mk ((by rw [hg]; exact (below_size (by repeat (first | (with_reducible first | exact HB.out | apply below_alloc | apply pw_below_drewN | apply below_drew1) | exact HB.out))) : w.heap.size ≤ gb192)); have n4_ := Aside0.mk ((by rw [hg]; exact (below_size (by repeat (first | (with_reducible first | exact HB.out | apply below_alloc | apply pw_below_drewN | apply below_drew1) | exact HB.out))) : w.heap.size ≤ gb192)); clear HO_10; clear HB; have HO_10 := n0_; have HB := n1_; have BK192 := n2_; have GW192 := n3_; have GE192 := n4_; clear n0_ n1_ n2_ n3_ n4_; clear hb hbox hg; have hcz52_0 : w51.cell? ⟨gb192, 0, none⟩ = some (.int .i64 0) := (blk_cell BK192.out 0).trans rfl; have hcz52_1 : w51.cell? ⟨gb192, 1, none⟩ = some (.int .i64 0) := (blk_cell BK192.out 1).trans rfl; have hfz52_0 := blk_frozen BK192.out 0; have hfz52_1 := blk_frozen BK192.out 1))
                                have n0_ : Aside0 (Kd.R Kd.string 9 ((w51.setCell ⟨gb192, 0, none⟩ (.int .i64 ((rd_T32 l1 x89_3).f0))).setCell ⟨gb192, 1, none⟩ (.int .i64 ((rd_T32 l1 x89_3).f1))) w.heap.size (fun _ => True) (.slice Ao38 x10_2.length co38) x10_2) := ⟨by (with_reducible repeat (first | apply Kd.R_alloc | apply Kd.R_drewN | apply Kd.R_drew)); exact Kd.R_mono (Kd.R_far (p := ⟨gb192, 1, none⟩) (Kd.R_far (p := ⟨gb192, 0, none⟩) (Kd.R_types HO_10.out BK192.out (by decide)) (fun _ hk => hk.2) (.int .i64 ((rd_T32 l1 x89_3).f0))) (fun _ hk => hk.2) (.int .i64 ((rd_T32 l1 x89_3).f1))) (fun _ hk => trivial)⟩
                                have n1_ : Aside0 (((w51.setCell ⟨gb192, 0, none⟩ (.int .i64 ((rd_T32 l1 x89_3).f0))).setCell ⟨gb192, 1, none⟩ (.int .i64 ((rd_T32 l1 x89_3).f1))).heap[gb192]? = some (.cells #[.int .i64 ((rd_T32 l1 x89_3).f0), .int .i64 ((rd_T32 l1 x89_3).f1)] 32 (0, 0))) := ⟨by (with_reducible repeat (first | refine blk_drewN ?_ _ | refine blk_drew ?_ | refine blk_alloc ?_ _)); refine blk_put (cs := #[.int .i64 ((rd_T32 l1 x89_3).f0), .int .i64 0]) ?_ 1 _ rfl; (with_reducible repeat (first | refine blk_drewN ?_ _ | refine blk_drew ?_ | refine blk_alloc ?_ _)); refine blk_put (cs := #[.int .i64 0, .int .i64 0]) ?_ 0 _ rfl; (with_reducible repeat (first | refine blk_drewN ?_ _ | refine blk_drew ?_ | refine blk_alloc ?_ _)); exact BK192.out⟩
                                have n2_ : Aside0 (Below w.heap.size w ((w51.setCell ⟨gb192, 0, none⟩ (.int .i64 ((rd_T32 l1 x89_3).f0))).setCell ⟨gb192, 1, none⟩ (.int .i64 ((rd_T32 l1 x89_3).f1)))) := ⟨by repeat (first | (with_reducible first | exact HB.out | apply below_alloc | apply pw_below_drewN | apply below_drew1 | refine below_set ?_ GE192.out) | exact HB.out)⟩
                                (try clear HO_10)
                                (try clear BK192)
                                (try clear HB)
                                generalize ((w51.setCell ⟨gb192, 0, none⟩ (.int .i64 ((rd_T32 l1 x89_3).f0))).setCell ⟨gb192, 1, none⟩ (.int .i64 ((rd_T32 l1 x89_3).f1))) = w53 at n0_ n1_ n2_ ⊢
                                have HO_10 := n0_
                                have BK192 := n1_
                                have HB := n2_
                                clear n0_ n1_ n2_
                                have n0_ := Aside0.mk (Kd.R_drew HO_10.out)
                                have n1_ := Aside0.mk (blk_drew BK192.out)
                                have n2_ := Aside0.mk (below_drew1 HB.out)
                                clear HO_10
                                clear BK192
                                clear HB
                                have HO_10 := n0_
                                have BK192 := n1_
                                have HB := n2_
                                clear n0_ n1_ n2_
                                have p193 : 0 ≤ (x89_3 : Int) := of_decide_eq_true (by first | (with_reducible assumption) | assumption)
                                have q193 : x89_3 < (x10_2.length : Int) := of_decide_eq_true (by first | (with_reducible assumption) | assumption)
                                obtain ⟨ad193, e193, hx193_0⟩ := Kd.at_string (Kd.R_reads' HO_10.out).2.2 x89_3 p193 q193
                                cases e193
                                replace p193 := eq_true p193
                                replace q193 := eq_true q193
                                have p195 : 0 ≤ (x89_3 : Int) := of_decide_eq_true (by first | (with_reducible assumption) | assumption)
                                have q195 : x89_3 < (x10_2.length : Int) := of_decide_eq_true (by first | (with_reducible assumption) | assumption)
                                obtain ⟨ad195, e195, hx195_0⟩ := Kd.at_string (Kd.R_reads' HO_10.out).2.2 x89_3 p195 q195
                                obtain rfl : ad193 = ad195 := (by injection e195)
                                replace p195 := eq_true p195
                                replace q195 := eq_true q195
                                refine start_ (n := 14) (S := fun w' => w'.cell? ⟨gb192, 0, none⟩ = some (.int .i64 ((rd_T32 l1 x89_3).f0)) ∧ w'.cell? ⟨gb192, 1, none⟩ = some (.int .i64 ((rd_T32 l1 x89_3).f1)) ∧ w'.cell? (ad193.add (x89_3).toNat) = some (.string (rdOf ByteArray.empty x10_2 x89_3)) ∧ w'.cell? (ad193.add (x89_3).toNat) = some (.string (rdOf ByteArray.empty x10_2 x89_3))) (ds := []) #[false, false, false, false, false, false, false, false, false, false, false, false, false, false] (by kernel_rfl) rfl rfl ⟨(blk_cell BK192.out 0).trans rfl, (blk_cell BK192.out 1).trans rfl, hx193_0, hx195_0⟩ (fun hHeld => ?_); refine with_tabW fuglemanlaw19_ImageApart.tab27 fuglemanlaw19_ImageApart.bits27 (fun HT_ HW_ => ?_)
                                generalize w53.drew = w54 at HO_10 BK192 HB hx193_0 hx195_0 hHeld ⊢
                                refine pure_ (i := 0) (N := some 94) (v := ?_) (a' := ?_) #[true, false, false, false, false, false, false, false, false, false, false, false, false, false] rfl rfl (any_of HT_.out (by kernel_rfl)) (fun _ _ _ h => h) (Or.inl ⟨by rfl, ?_⟩) ?_ ?_
                                rotate_left
                                · intro w'
                                  go_simp
                                  with_reducible rfl
                                rotate_left
                                · simp only [Act.put, List.setIfInBounds_toArray, List.set_cons_zero, List.set_cons_succ, i64_w, i32_w]
                                  rfl
                                refine pure_ (i := 1) (N := some 95) (v := ?_) (a' := ?_) #[true, true, false, false, false, false, false, false, false, false, false, false, false, false] rfl rfl (any_of HT_.out (by kernel_rfl)) (fun _ _ _ h => h) (Or.inl ⟨by rfl, ?_⟩) ?_ ?_
                                rotate_left
                                · intro w'
                                  go_simp
                                  with_reducible rfl
                                rotate_left
                                · simp only [Act.put, List.setIfInBounds_toArray, List.set_cons_zero, List.set_cons_succ, i64_w, i32_w]
                                  rfl
                                refine pure_ (i := 3) (N := some 97) (v := ?_) (a' := ?_) #[true, true, false, true, false, false, false, false, false, false, false, false, false, false] rfl rfl (any_of HT_.out (by kernel_rfl)) (fun _ _ _ h => h) (Or.inl ⟨by rfl, ?_⟩) ?_ ?_
                                rotate_left
                                · intro w'
                                  go_simp
                                  with_reducible rfl
                                rotate_left
                                · simp only [Act.put, List.setIfInBounds_toArray, List.set_cons_zero, List.set_cons_succ, i64_w, i32_w]
                                  rfl
                                refine pure_ (i := 4) (N := some 98) (v := ?_) (a' := ?_) #[true, true, false, true, true, false, false, false, false, false, false, false, false, false] rfl rfl (any_of HT_.out (by kernel_rfl)) (fun _ _ _ h => h) (Or.inl ⟨by rfl, ?_⟩) ?_ ?_
                                rotate_left
                                · intro w'
                                  go_simp
                                  with_reducible rfl
                                rotate_left
                                · simp only [Act.put, List.setIfInBounds_toArray, List.set_cons_zero, List.set_cons_succ, i64_w, i32_w]
                                  rfl
                                refine pure_ (i := 5) (N := some 99) (v := ?_) (a' := ?_) #[true, true, false, true, true, true, false, false, false, false, false, false, false, false] rfl rfl (any_of HT_.out (by kernel_rfl)) (fun _ _ _ h => h) (Or.inl ⟨by rfl, ?_⟩) ?_ ?_
                                rotate_left
                                · intro w'
                                  go_simp
                                  with_reducible rfl
                                rotate_left
                                · simp only [Act.put, List.setIfInBounds_toArray, List.set_cons_zero, List.set_cons_succ, i64_w, i32_w]
                                  rfl
                                refine pure_ (i := 9) (N := some 103) (v := ?_) (a' := ?_) #[true, true, false, true, true, true, false, false, false, true, false, false, false, false] rfl rfl (any_of HT_.out (by kernel_rfl)) (fun _ _ _ h => h) (Or.inl ⟨by rfl, ?_⟩) ?_ ?_
                                rotate_left
                                · intro w'
                                  go_simp
                                  with_reducible rfl
                                rotate_left
                                · simp only [Act.put, List.setIfInBounds_toArray, List.set_cons_zero, List.set_cons_succ, i64_w, i32_w]
                                  rfl
                                refine pure_ (i := 10) (N := some 104) (v := ?_) (a' := ?_) #[true, true, false, true, true, true, false, false, false, true, true, false, false, false] rfl rfl (any_of HT_.out (by kernel_rfl)) (fun _ _ _ h => h) (Or.inl ⟨by rfl, ?_⟩) ?_ ?_
                                rotate_left
                                · intro w'
                                  go_simp
                                  with_reducible rfl
                                rotate_left
                                · simp only [Act.put, List.setIfInBounds_toArray, List.set_cons_zero, List.set_cons_succ, i64_w, i32_w]
                                  rfl
                                refine pure_ (i := 11) (N := some 105) (v := ?_) (a' := ?_) #[true, true, false, true, true, true, false, false, false, true, true, true, false, false] rfl rfl (any_of HT_.out (by kernel_rfl)) (fun _ _ _ h => h) (Or.inl ⟨by rfl, ?_⟩) ?_ ?_
                                rotate_left
                                · intro w'
                                  go_simp
                                  with_reducible rfl
                                rotate_left
                                · simp only [Act.put, List.setIfInBounds_toArray, List.set_cons_zero, List.set_cons_succ, i64_w, i32_w]
                                  rfl
                                refine take_ (i := 2) (N := some 96) (v := ?_) (a' := ?_) #[true, true, true, true, true, true, false, false, false, true, true, true, false, false] rfl rfl (take_ofW HT_.out HW_.out (by kernel_rfl)) (fun _ _ _ h => h) (Or.inl ⟨by rfl, ?_⟩) hHeld ?_ ?_
                                rotate_left
                                · rintro w' ⟨s0, s1, s2, s3⟩
                                  go_simp
                                  with_reducible rfl
                                rotate_left
                                · simp only [Act.put, List.setIfInBounds_toArray, List.set_cons_zero, List.set_cons_succ, i64_w, i32_w]
                                  rfl
                                refine take_ (i := 6) (N := some 100) (v := ?_) (a' := ?_) #[true, true, true, true, true, true, true, false, false, true, true, true, false, false] rfl rfl (take_ofW HT_.out HW_.out (by kernel_rfl)) (fun _ _ _ h => h) (Or.inl ⟨by rfl, ?_⟩) hHeld ?_ ?_
                                rotate_left
                                · rintro w' ⟨s0, s1, s2, s3⟩
                                  go_simp
                                  with_reducible rfl
                                rotate_left
                                · simp only [Act.put, List.setIfInBounds_toArray, List.set_cons_zero, List.set_cons_succ, i64_w, i32_w]
                                  rfl
                                refine pure_ (i := 7) (N := some 101) (v := ?_) (a' := ?_) #[true, true, true, true, true, true, true, true, false, true, true, true, false, false] rfl rfl (any_of HT_.out (by kernel_rfl)) (fun _ _ _ h => h) (Or.inl ⟨by rfl, ?_⟩) ?_ ?_
                                rotate_left
                                · intro w'
                                  go_simp
                                  with_reducible rfl
                                rotate_left
                                · simp only [Act.put, List.setIfInBounds_toArray, List.set_cons_zero, List.set_cons_succ, i64_w, i32_w]
                                  rfl
                                refine take_ (i := 12) (N := some 106) (v := ?_) (a' := ?_) #[true, true, true, true, true, true, true, true, false, true, true, true, true, false] rfl rfl (take_ofW HT_.out HW_.out (by kernel_rfl)) (fun _ _ _ h => h) (Or.inl ⟨by rfl, ?_⟩) hHeld ?_ ?_
                                rotate_left
                                · rintro w' ⟨s0, s1, s2, s3⟩
                                  go_simp
                                  with_reducible rfl
                                rotate_left
                                · simp only [Act.put, List.setIfInBounds_toArray, List.set_cons_zero, List.set_cons_succ, i64_w, i32_w]
                                  rfl
                                refine one_ (i := 8) (N := some 102) #[true, true, true, true, true, true, true, true, true, true, true, true, true, false] rfl rfl (one_of HT_.out (by kernel_rfl)) (by decide) (fun K hK => ?_)
                                refine goes_ Try.func11 (by kernel_rfl) rfl #[.string t190, .int .i64 ((rd_T32 l1 x89_3).f1), .int .i64 ((rdOf ByteArray.empty x10_2 x89_3).size : Int)] (by rfl) rfl rfl (by (try simp only [List.map_toArray, List.map_cons, List.map_nil]); first | done | rfl | (simp only [List.length_drop, List.length_take]; rfl)) ?_
                                with_reducible refine (image_Value.calls k3 t190 ((rd_T32 l1 x89_3).f1) ((rdOf ByteArray.empty x10_2 x89_3).size : Int) t194 _ A44.out).mono ?_
                                rintro e w55 ⟨rfl, hb⟩
                                have HS2_ := (hb.cell (World.block_lt_of_cell? _ _ (hHeld.2.2.1))).trans (hHeld.2.2.1)
                                have HS3_ := (hb.cell (World.block_lt_of_cell? _ _ (hHeld.2.2.2))).trans (hHeld.2.2.2)
                                refine ⟨_, rfl, ?_⟩
                                have n0_ := Aside0.mk (Kd.R_below (by (with_reducible repeat (first | apply Kd.R_alloc | apply Kd.R_drewN | apply Kd.R_drew)); exact HO_10.out) hb)
                                have n1_ := Aside0.mk (blk_below (g := gb192) (o := .cells #[.int .i64 ((rd_T32 l1 x89_3).f0), .int .i64 ((rd_T32 l1 x89_3).f1)] 32 (0, 0)) (by (with_reducible repeat (first | refine blk_drewN ?_ _ | refine blk_drew ?_ | refine blk_alloc ?_ _)); exact BK192.out) hb)
                                have n2_ := Aside0.mk (below_step (by repeat (first | (with_reducible first | exact HB.out | apply below_alloc | apply pw_below_drewN | apply below_drew1 | refine below_set ?_ GE192.out) | exact HB.out)) hb)
                                clear HO_10
                                clear BK192
                                clear HB
                                have HO_10 := n0_
                                have BK192 := n1_
                                have HB := n2_
                                clear n0_ n1_ n2_
                                (try clear hb)
                                (try clear hb2)
                                (try clear hk)
                                (try clear hi)
                                refine hK.out _ _ ⟨(blk_cell BK192.out 0).trans rfl, (blk_cell BK192.out 1).trans rfl, HS2_, HS3_⟩ (fun hHeld => ?_)
                                clear hK K
                                refine norm_ (a' := ?_) ?_ ?_
                                rotate_left
                                · show Act.put _ (some 102) _ = _
                                  simp only [Act.put, List.setIfInBounds_toArray, List.set_cons_zero, List.set_cons_succ, i64_w, i32_w]
                                  rfl
                                refine pure_ (i := 13) (N := some 107) (v := ?_) (a' := ?_) #[true, true, true, true, true, true, true, true, true, true, true, true, true, true] rfl rfl (any_of HT_.out (by kernel_rfl)) (fun _ _ _ h => h) (Or.inl ⟨by rfl, ?_⟩) ?_ ?_
                                rotate_left
                                · intro w'
                                  go_simp
                                  with_reducible rfl
                                rotate_left
                                · simp only [Act.put, List.setIfInBounds_toArray, List.set_cons_zero, List.set_cons_succ, i64_w, i32_w]
                                  rfl
                                refine done_ (done_of HT_.out (by kernel_rfl)) ?_
                                try go_wp2
                                go_ret
                                exact ⟨by first | rfl | (simp [errW_none, errW_some] <;> rfl) | (simp [*, errW_none, errW_some] <;> rfl), by repeat (first | (with_reducible first | exact HB.out | apply below_alloc | apply pw_below_drewN | apply below_drew1 | refine below_set ?_ GE192.out) | exact HB.out)⟩
                            · rw [if_neg c43] at H
                              exact absurd H (by simp)
                          · rw [if_neg c42] at H
                            exact absurd H (by simp)
                        · rw [if_neg c41] at H
                          exact absurd H (by simp)
                      · rw [if_neg c40] at H
                        have c40b0 : decide (x89_3 < (l1.length : Int)) = false := decide_eq_false c40
                        clear c40
                        have H' := Aside0.mk H
                        clear H
                        go_wp2
                        go_loopg [117] k3 (fun kq v117 w' => ∃ (x117_4 : Int), v117 = .int .i64 x117_4 ∧ Aside0 (fuglemanlaw19_ImageApart.l3 kq a0 (⟨#[102, 117, 103, 108, 101, 109, 97, 110, 44, 32, 97, 32, 115, 116, 97, 116, 105, 111, 110, 32, 111, 102, 32, 97, 32, 114, 105, 110, 103]⟩ : ByteArray) t190 x18_3 a0 x117_4 = some r) ∧ Aside0 (kq ≤ k3) ∧ Aside0 (Below w.heap.size w w'))
                        case atStart => exact ⟨(0), (by first | rfl | (simp; done) | (simp [*]; done)), H', ⟨Nat.le_refl _⟩, ⟨by repeat (first | (with_reducible first | exact HB.out | apply below_alloc | apply pw_below_drewN | apply below_drew1) | exact HB.out)⟩⟩
                        case round =>
                          clear H'
                          try clear c1
                          try clear p1
                          try clear q1
                          try clear hx1
                          try clear c2
                          try clear p2
                          try clear c3
                          try clear p3
                          try clear q3
                          try clear hx3
                          try clear hcv3
                          try clear hf3
                          try clear c4
                          try clear c5
                          try clear c6
                          try clear p6
                          try clear c7
                          try clear c8
                          try clear c8b0
                          try clear c8b1
                          try clear c9
                          try clear c10
                          try clear c11
                          try clear c11b0
                          try clear c11b1
                          try clear c13
                          try clear c13b0
                          try clear c14
                          try clear c14b0
                          try clear c15
                          try clear c15b0
                          try clear c17
                          try clear c17b0
                          try clear c17b1
                          try clear p17
                          try clear q17
                          try clear hx17
                          try clear c18
                          try clear c18b0
                          try clear c18b1
                          try clear p19
                          try clear q19
                          try clear hx19
                          try clear c23
                          try clear c28
                          try clear c28b0
                          try clear c29
                          try clear c29b0
                          try clear c30
                          try clear c30b0
                          try clear p31
                          try clear q31
                          try clear hx31
                          try clear hf31
                          try clear c34
                          try clear hcv35
                          try clear c40
                          try clear c40b0
                          try clear c41
                          try clear c41b0
                          try clear c42
                          try clear c42b0
                          try clear c43
                          try clear c43b0
                          try clear c45
                          try clear c45b0
                          try clear c45b1
                          try clear hcz20_0
                          try clear hcz20_1
                          try clear hcz24_0
                          try clear hcz24_1
                          try clear hcz24_2
                          try clear hcz24_3
                          try clear hcz47_0
                          try clear hcz47_1
                          try clear hcz52_0
                          try clear hcz52_1
                          try clear hfz20_0
                          try clear hfz20_1
                          try clear hfz24_0
                          try clear hfz24_1
                          try clear hfz24_2
                          try clear hfz24_3
                          try clear hfz47_0
                          try clear hfz47_1
                          try clear hfz52_0
                          try clear hfz52_1
                          try clear hx175_0
                          try clear hx175_1
                          try clear hx191_0
                          try clear hx191_1
                          try clear hx193_0
                          try clear hx195_0
                          try clear hx196_0
                          try clear hx31_0
                          try clear p1
                          try clear p17
                          try clear p175
                          try clear p191
                          try clear p193
                          try clear p195
                          try clear p196
                          try clear p2
                          try clear p3
                          try clear p31
                          try clear p6
                          try clear q1
                          try clear q17
                          try clear q175
                          try clear q191
                          try clear q193
                          try clear q195
                          try clear q196
                          try clear q3
                          try clear q31
                          obtain ⟨x117_4, rfl, HA, HK4, HB⟩ := hrel
                          cases gk with
                          | zero => exact absurd HA.out (by simp [fuglemanlaw19_ImageApart.l3])
                          | succ k4 =>
                            have H := HA.out
                            clear HA
                            simp only [fuglemanlaw19_ImageApart.l3] at H
                            by_cases c56 : x117_4 < a0
                            · rw [if_pos c56] at H
                              have c56b0 : decide (x117_4 < a0) = true := decide_eq_true c56
                              clear c56
                              by_cases c57 : 0 ≤ x117_4
                              · rw [if_pos c57] at H
                                have c57b0 : decide (0 ≤ x117_4) = true := decide_eq_true c57
                                clear c57
                                by_cases c58 : x117_4 < (t190.size : Int)
                                · rw [if_pos c58] at H
                                  have c58b0 : decide (x117_4 < (t190.size : Int)) = true := decide_eq_true c58
                                  clear c58
                                  replace H := Option.bind_eq_some_iff.mp H
                                  obtain ⟨t197, A600, H⟩ := H
                                  replace H : (if (bt t190 x117_4) = t197 then (fuglemanlaw19_ImageApart.l3 k4 a0 (⟨#[102, 117, 103, 108, 101, 109, 97, 110, 44, 32, 97, 32, 115, 116, 97, 116, 105, 111, 110, 32, 111, 102, 32, 97, 32, 114, 105, 110, 103]⟩ : ByteArray) t190 x18_3 a0 (wrap64 (x117_4 + 1))) else (some false)) = some r := H
                                  have A60 := Aside0.mk A600
                                  clear A600
                                  by_cases c61 : (bt t190 x117_4) = t197
                                  · rw [if_pos c61] at H
                                    have c61b0 : ((bt t190 x117_4) == t197) = true := beq_iff_eq.mpr c61
                                    have c61b1 : ((bt t190 x117_4) != t197) = false := bne_eq_false_iff_eq.mpr c61
                                    clear c61
                                    have H' := Aside0.mk H
                                    clear H
                                    try go_wp2
                                    have n0_ := Aside0.mk (below_drew1 HB.out)
                                    clear HB
                                    have HB := n0_
                                    clear n0_
                                    have p59 : 0 ≤ (x117_4 : Int) := of_decide_eq_true (by first | (with_reducible assumption) | assumption)
                                    have q59 : x117_4 < (t190.size : Int) := of_decide_eq_true (by first | (with_reducible assumption) | assumption)
                                    have hx59 := bt_at t190 x117_4
                                    replace p59 := eq_true p59
                                    replace q59 := eq_true q59
                                    refine start_ (n := 7) (S := fun w' => True) (ds := []) #[false, false, false, false, false, false, false] (by kernel_rfl) rfl rfl trivial (fun hHeld => ?_)
                                    generalize wr.drew = w62 at HB hHeld ⊢
                                    refine pure_ (i := 0) (N := some 120) (v := ?_) (a' := ?_) #[true, false, false, false, false, false, false] rfl rfl (by kernel_rfl) (fun _ _ _ h => h) (Or.inl ⟨by rfl, ?_⟩) ?_ ?_
                                    rotate_left
                                    · intro w'
                                      go_simp
                                      with_reducible rfl
                                    rotate_left
                                    · simp only [Act.put, List.setIfInBounds_toArray, List.set_cons_zero, List.set_cons_succ, i64_w, i32_w]
                                      rfl
                                    refine pure_ (i := 1) (N := some 121) (v := ?_) (a' := ?_) #[true, true, false, false, false, false, false] rfl rfl (by kernel_rfl) (fun _ _ _ h => h) (Or.inl ⟨by rfl, ?_⟩) ?_ ?_
                                    rotate_left
                                    · intro w'
                                      go_simp
                                      with_reducible rfl
                                    rotate_left
                                    · simp only [Act.put, List.setIfInBounds_toArray, List.set_cons_zero, List.set_cons_succ, i64_w, i32_w]
                                      rfl
                                    refine pure_ (i := 3) (N := some 123) (v := ?_) (a' := ?_) #[true, true, false, true, false, false, false] rfl rfl (by kernel_rfl) (fun _ _ _ h => h) (Or.inl ⟨by rfl, ?_⟩) ?_ ?_
                                    rotate_left
                                    · intro w'
                                      go_simp
                                      with_reducible rfl
                                    rotate_left
                                    · simp only [Act.put, List.setIfInBounds_toArray, List.set_cons_zero, List.set_cons_succ, i64_w, i32_w]
                                      rfl
                                    refine pure_ (i := 4) (N := some 124) (v := ?_) (a' := ?_) #[true, true, false, true, true, false, false] rfl rfl (by kernel_rfl) (fun _ _ _ h => h) (Or.inl ⟨by rfl, ?_⟩) ?_ ?_
                                    rotate_left
                                    · intro w'
                                      go_simp
                                      with_reducible rfl
                                    rotate_left
                                    · simp only [Act.put, List.setIfInBounds_toArray, List.set_cons_zero, List.set_cons_succ, i64_w, i32_w]
                                      rfl
                                    refine take_ (i := 2) (N := some 122) (v := ?_) (a' := ?_) #[true, true, true, true, true, false, false] rfl rfl (by kernel_rfl) (fun _ _ _ h => h) (Or.inl ⟨by rfl, ?_⟩) hHeld ?_ ?_
                                    rotate_left
                                    · intro w' _
                                      go_simp
                                      with_reducible rfl
                                    rotate_left
                                    · simp only [Act.put, List.setIfInBounds_toArray, List.set_cons_zero, List.set_cons_succ, i64_w, i32_w]
                                      rfl
                                    refine one_ (i := 5) (N := some 125) #[true, true, true, true, true, true, false] rfl rfl (by kernel_rfl) (by decide) (fun K hK => ?_)
                                    refine goes_ Try.func12 (by kernel_rfl) rfl #[.string (⟨#[102, 117, 103, 108, 101, 109, 97, 110, 44, 32, 97, 32, 115, 116, 97, 116, 105, 111, 110, 32, 111, 102, 32, 97, 32, 114, 105, 110, 103]⟩ : ByteArray), .int .i64 x117_4] (by rfl) rfl rfl (by (try simp only [List.map_toArray, List.map_cons, List.map_nil]); first | done | rfl | (simp only [List.length_drop, List.length_take]; rfl)) ?_
                                    with_reducible refine (fuglemanref19_Byte.calls (⟨#[102, 117, 103, 108, 101, 109, 97, 110, 44, 32, 97, 32, 115, 116, 97, 116, 105, 111, 110, 32, 111, 102, 32, 97, 32, 114, 105, 110, 103]⟩ : ByteArray) x117_4 t197 _ A60.out).mono ?_
                                    rintro e w' ⟨rfl, ⟨nd, rfl⟩⟩
                                    refine ⟨_, rfl, ?_⟩
                                    refine hK.out _ _ trivial (fun hHeld => ?_)
                                    clear hK K
                                    refine norm_ (a' := ?_) ?_ ?_
                                    rotate_left
                                    · show Act.put _ (some 125) _ = _
                                      simp only [Act.put, List.setIfInBounds_toArray, List.set_cons_zero, List.set_cons_succ, i64_w, i32_w]
                                      rfl
                                    refine pure_ (i := 6) (N := some 126) (v := ?_) (a' := ?_) #[true, true, true, true, true, true, true] rfl rfl (by kernel_rfl) (fun _ _ _ h => h) (Or.inl ⟨by rfl, ?_⟩) ?_ ?_
                                    rotate_left
                                    · intro w'
                                      go_simp
                                      with_reducible rfl
                                    rotate_left
                                    · simp only [Act.put, List.setIfInBounds_toArray, List.set_cons_zero, List.set_cons_succ, i64_w, i32_w]
                                      rfl
                                    refine done_ (by kernel_rfl) ?_
                                    try go_wp2
                                    go_roundg k4
                                    case measure => have := HJ5.out; have := HK2.out; have := HK3.out; have := HK4.out; omega
                                    case rel => exact ⟨(wrap64 (x117_4 + 1)), (by first | rfl | (simp; done) | (simp [*]; done)), H', ⟨by have := HJ5.out; have := HK2.out; have := HK3.out; have := HK4.out; omega⟩, ⟨by repeat (first | (with_reducible first | exact HB.out | apply below_alloc | apply pw_below_drewN | apply below_drew1) | exact HB.out)⟩⟩
                                  · rw [if_neg c61] at H
                                    have c61b0 : ((bt t190 x117_4) == t197) = false := beq_eq_false_iff_ne.mpr c61
                                    have c61b1 : ((bt t190 x117_4) != t197) = true := bne_iff_ne.mpr c61
                                    obtain rfl := Option.some.inj H
                                    try go_wp2
                                    have n0_ := Aside0.mk (below_drew1 HB.out)
                                    clear HB
                                    have HB := n0_
                                    clear n0_
                                    have p59 : 0 ≤ (x117_4 : Int) := of_decide_eq_true (by first | (with_reducible assumption) | assumption)
                                    have q59 : x117_4 < (t190.size : Int) := of_decide_eq_true (by first | (with_reducible assumption) | assumption)
                                    have hx59 := bt_at t190 x117_4
                                    replace p59 := eq_true p59
                                    replace q59 := eq_true q59
                                    refine start_ (n := 7) (S := fun w' => True) (ds := []) #[false, false, false, false, false, false, false] (by kernel_rfl) rfl rfl trivial (fun hHeld => ?_)
                                    generalize wr.drew = w63 at HB hHeld ⊢
                                    refine pure_ (i := 0) (N := some 120) (v := ?_) (a' := ?_) #[true, false, false, false, false, false, false] rfl rfl (by kernel_rfl) (fun _ _ _ h => h) (Or.inl ⟨by rfl, ?_⟩) ?_ ?_
                                    rotate_left
                                    · intro w'
                                      go_simp
                                      with_reducible rfl
                                    rotate_left
                                    · simp only [Act.put, List.setIfInBounds_toArray, List.set_cons_zero, List.set_cons_succ, i64_w, i32_w]
                                      rfl
                                    refine pure_ (i := 1) (N := some 121) (v := ?_) (a' := ?_) #[true, true, false, false, false, false, false] rfl rfl (by kernel_rfl) (fun _ _ _ h => h) (Or.inl ⟨by rfl, ?_⟩) ?_ ?_
                                    rotate_left
                                    · intro w'
                                      go_simp
                                      with_reducible rfl
                                    rotate_left
                                    · simp only [Act.put, List.setIfInBounds_toArray, List.set_cons_zero, List.set_cons_succ, i64_w, i32_w]
                                      rfl
                                    refine pure_ (i := 3) (N := some 123) (v := ?_) (a' := ?_) #[true, true, false, true, false, false, false] rfl rfl (by kernel_rfl) (fun _ _ _ h => h) (Or.inl ⟨by rfl, ?_⟩) ?_ ?_
                                    rotate_left
                                    · intro w'
                                      go_simp
                                      with_reducible rfl
                                    rotate_left
                                    · simp only [Act.put, List.setIfInBounds_toArray, List.set_cons_zero, List.set_cons_succ, i64_w, i32_w]
                                      rfl
                                    refine pure_ (i := 4) (N := some 124) (v := ?_) (a' := ?_) #[true, true, false, true, true, false, false] rfl rfl (by kernel_rfl) (fun _ _ _ h => h) (Or.inl ⟨by rfl, ?_⟩) ?_ ?_
                                    rotate_left
                                    · intro w'
                                      go_simp
                                      with_reducible rfl
                                    rotate_left
                                    · simp only [Act.put, List.setIfInBounds_toArray, List.set_cons_zero, List.set_cons_succ, i64_w, i32_w]
                                      rfl
                                    refine take_ (i := 2) (N := some 122) (v := ?_) (a' := ?_) #[true, true, true, true, true, false, false] rfl rfl (by kernel_rfl) (fun _ _ _ h => h) (Or.inl ⟨by rfl, ?_⟩) hHeld ?_ ?_
                                    rotate_left
                                    · intro w' _
                                      go_simp
                                      with_reducible rfl
                                    rotate_left
                                    · simp only [Act.put, List.setIfInBounds_toArray, List.set_cons_zero, List.set_cons_succ, i64_w, i32_w]
                                      rfl
                                    refine one_ (i := 5) (N := some 125) #[true, true, true, true, true, true, false] rfl rfl (by kernel_rfl) (by decide) (fun K hK => ?_)
                                    refine goes_ Try.func12 (by kernel_rfl) rfl #[.string (⟨#[102, 117, 103, 108, 101, 109, 97, 110, 44, 32, 97, 32, 115, 116, 97, 116, 105, 111, 110, 32, 111, 102, 32, 97, 32, 114, 105, 110, 103]⟩ : ByteArray), .int .i64 x117_4] (by rfl) rfl rfl (by (try simp only [List.map_toArray, List.map_cons, List.map_nil]); first | done | rfl | (simp only [List.length_drop, List.length_take]; rfl)) ?_
                                    with_reducible refine (fuglemanref19_Byte.calls (⟨#[102, 117, 103, 108, 101, 109, 97, 110, 44, 32, 97, 32, 115, 116, 97, 116, 105, 111, 110, 32, 111, 102, 32, 97, 32, 114, 105, 110, 103]⟩ : ByteArray) x117_4 t197 _ A60.out).mono ?_
                                    rintro e w' ⟨rfl, ⟨nd, rfl⟩⟩
                                    refine ⟨_, rfl, ?_⟩
                                    refine hK.out _ _ trivial (fun hHeld => ?_)
                                    clear hK K
                                    refine norm_ (a' := ?_) ?_ ?_
                                    rotate_left
                                    · show Act.put _ (some 125) _ = _
                                      simp only [Act.put, List.setIfInBounds_toArray, List.set_cons_zero, List.set_cons_succ, i64_w, i32_w]
                                      rfl
                                    refine pure_ (i := 6) (N := some 126) (v := ?_) (a' := ?_) #[true, true, true, true, true, true, true] rfl rfl (by kernel_rfl) (fun _ _ _ h => h) (Or.inl ⟨by rfl, ?_⟩) ?_ ?_
                                    rotate_left
                                    · intro w'
                                      go_simp
                                      with_reducible rfl
                                    rotate_left
                                    · simp only [Act.put, List.setIfInBounds_toArray, List.set_cons_zero, List.set_cons_succ, i64_w, i32_w]
                                      rfl
                                    refine done_ (by kernel_rfl) ?_
                                    try go_wp2
                                    go_ret
                                    exact ⟨by first | rfl | (simp [errW_none, errW_some] <;> rfl) | (simp [*, errW_none, errW_some] <;> rfl), by repeat (first | (with_reducible first | exact HB.out | apply below_alloc | apply pw_below_drewN | apply below_drew1) | exact HB.out)⟩
                                · rw [if_neg c58] at H
                                  exact absurd H (by simp)
                              · rw [if_neg c57] at H
                                exact absurd H (by simp)
                            · rw [if_neg c56] at H
                              have c56b0 : decide (x117_4 < a0) = false := decide_eq_false c56
                              clear c56
                              have H' := Aside0.mk H
                              clear H
                              go_wp2
                              go_loopg [22, 23] k4 (fun kq v22 v23 w' => ∃ (x22_5 : Int) (x23_5 : Int), v22 = .int .i64 x22_5 ∧ v23 = .int .i64 x23_5 ∧ Aside0 (fuglemanlaw19_ImageApart.l4 kq a0 t190 x18_3 x22_5 x23_5 = some r) ∧ Aside0 (kq ≤ k4) ∧ Aside0 (Below w.heap.size w w'))
                              case atStart => exact ⟨(0), (a0), (by first | rfl | (simp; done) | (simp [*]; done)), (by first | rfl | (simp; done) | (simp [*]; done)), H', ⟨Nat.le_refl _⟩, ⟨by repeat (first | (with_reducible first | exact HB.out | apply below_alloc | apply pw_below_drewN | apply below_drew1) | exact HB.out)⟩⟩
                              case round =>
                                clear H'
                                try clear c1
                                try clear p1
                                try clear q1
                                try clear hx1
                                try clear c2
                                try clear p2
                                try clear c3
                                try clear p3
                                try clear q3
                                try clear hx3
                                try clear hcv3
                                try clear hf3
                                try clear c4
                                try clear c5
                                try clear p5
                                try clear q5
                                try clear hx5
                                try clear c6
                                try clear p6
                                try clear c7
                                try clear c8
                                try clear c8b0
                                try clear c8b1
                                try clear c9
                                try clear c10
                                try clear c11
                                try clear c11b0
                                try clear c11b1
                                try clear c12
                                try clear c13
                                try clear c13b0
                                try clear c14
                                try clear c14b0
                                try clear c15
                                try clear c15b0
                                try clear c17
                                try clear c17b0
                                try clear c17b1
                                try clear p17
                                try clear q17
                                try clear hx17
                                try clear c18
                                try clear c18b0
                                try clear c18b1
                                try clear p19
                                try clear q19
                                try clear hx19
                                try clear c23
                                try clear c28
                                try clear c28b0
                                try clear c29
                                try clear c29b0
                                try clear c30
                                try clear c30b0
                                try clear p31
                                try clear q31
                                try clear hx31
                                try clear hf31
                                try clear c34
                                try clear hcv35
                                try clear c40
                                try clear c40b0
                                try clear c41
                                try clear c41b0
                                try clear c42
                                try clear c42b0
                                try clear c43
                                try clear c43b0
                                try clear c45
                                try clear c45b0
                                try clear c45b1
                                try clear c56
                                try clear c56b0
                                try clear c57
                                try clear c57b0
                                try clear c58
                                try clear c58b0
                                try clear p59
                                try clear q59
                                try clear hx59
                                try clear c61
                                try clear c61b0
                                try clear c61b1
                                try clear hcz20_0
                                try clear hcz20_1
                                try clear hcz24_0
                                try clear hcz24_1
                                try clear hcz24_2
                                try clear hcz24_3
                                try clear hcz47_0
                                try clear hcz47_1
                                try clear hcz52_0
                                try clear hcz52_1
                                try clear hfz20_0
                                try clear hfz20_1
                                try clear hfz24_0
                                try clear hfz24_1
                                try clear hfz24_2
                                try clear hfz24_3
                                try clear hfz47_0
                                try clear hfz47_1
                                try clear hfz52_0
                                try clear hfz52_1
                                try clear hx175_0
                                try clear hx175_1
                                try clear hx191_0
                                try clear hx191_1
                                try clear hx193_0
                                try clear hx195_0
                                try clear hx196_0
                                try clear hx31_0
                                try clear p1
                                try clear p17
                                try clear p175
                                try clear p19
                                try clear p191
                                try clear p193
                                try clear p195
                                try clear p196
                                try clear p2
                                try clear p3
                                try clear p31
                                try clear p59
                                try clear p6
                                try clear q1
                                try clear q17
                                try clear q175
                                try clear q19
                                try clear q191
                                try clear q193
                                try clear q195
                                try clear q196
                                try clear q3
                                try clear q31
                                try clear q59
                                obtain ⟨x22_5, x23_5, rfl, rfl, HA, HK5, HB⟩ := hrel
                                cases gk with
                                | zero => exact absurd HA.out (by simp [fuglemanlaw19_ImageApart.l4])
                                | succ k5 =>
                                  have H := HA.out
                                  clear HA
                                  simp only [fuglemanlaw19_ImageApart.l4] at H
                                  by_cases c64 : x23_5 < 64
                                  · rw [if_pos c64] at H
                                    have c64b0 : decide (x23_5 < 64) = true := decide_eq_true c64
                                    clear c64
                                    by_cases c65 : 0 ≤ x23_5
                                    · rw [if_pos c65] at H
                                      have c65b0 : decide (0 ≤ x23_5) = true := decide_eq_true c65
                                      clear c65
                                      by_cases c66 : x23_5 < (t190.size : Int)
                                      · rw [if_pos c66] at H
                                        have c66b0 : decide (x23_5 < (t190.size : Int)) = true := decide_eq_true c66
                                        clear c66
                                        by_cases c68 : (bt t190 x23_5) = 0
                                        · rw [if_pos c68] at H
                                          have c68b0 : ((bt t190 x23_5) == 0) = true := beq_iff_eq.mpr c68
                                          have c68b1 : ((bt t190 x23_5) != 0) = false := bne_eq_false_iff_eq.mpr c68
                                          clear c68
                                          have H' := Aside0.mk H
                                          clear H
                                          have p67 : 0 ≤ (x23_5 : Int) := of_decide_eq_true (by first | (with_reducible assumption) | assumption)
                                          have q67 : x23_5 < (t190.size : Int) := of_decide_eq_true (by first | (with_reducible assumption) | assumption)
                                          have hx67 := bt_at t190 x23_5
                                          replace p67 := eq_true p67
                                          replace q67 := eq_true q67
                                          go_wp2
                                          go_roundg k5
                                          case measure => have := HJ5.out; have := HK2.out; have := HK3.out; have := HK4.out; have := HK5.out; omega
                                          case rel => exact ⟨(wrap64 (x22_5 + 1)), (wrap64 (x23_5 + 1)), (by first | rfl | (simp; done) | (simp [*]; done)), (by first | rfl | (simp; done) | (simp [*]; done)), H', ⟨by have := HJ5.out; have := HK2.out; have := HK3.out; have := HK4.out; have := HK5.out; omega⟩, ⟨by repeat (first | (with_reducible first | exact HB.out | apply below_alloc | apply pw_below_drewN | apply below_drew1) | exact HB.out)⟩⟩
                                        · rw [if_neg c68] at H
                                          have c68b0 : ((bt t190 x23_5) == 0) = false := beq_eq_false_iff_ne.mpr c68
                                          have c68b1 : ((bt t190 x23_5) != 0) = true := bne_iff_ne.mpr c68
                                          have H' := Aside0.mk H
                                          clear H
                                          have p67 : 0 ≤ (x23_5 : Int) := of_decide_eq_true (by first | (with_reducible assumption) | assumption)
                                          have q67 : x23_5 < (t190.size : Int) := of_decide_eq_true (by first | (with_reducible assumption) | assumption)
                                          have hx67 := bt_at t190 x23_5
                                          replace p67 := eq_true p67
                                          replace q67 := eq_true q67
                                          go_wp2
                                          go_roundg k5
                                          case measure => have := HJ5.out; have := HK2.out; have := HK3.out; have := HK4.out; have := HK5.out; omega
                                          case rel => exact ⟨(x22_5), (wrap64 (x23_5 + 1)), (by first | rfl | (simp; done) | (simp [*]; done)), (by first | rfl | (simp; done) | (simp [*]; done)), H', ⟨by have := HJ5.out; have := HK2.out; have := HK3.out; have := HK4.out; have := HK5.out; omega⟩, ⟨by repeat (first | (with_reducible first | exact HB.out | apply below_alloc | apply pw_below_drewN | apply below_drew1) | exact HB.out)⟩⟩
                                      · rw [if_neg c66] at H
                                        exact absurd H (by simp)
                                    · rw [if_neg c65] at H
                                      exact absurd H (by simp)
                                  · rw [if_neg c64] at H
                                    have c64b0 : decide (x23_5 < 64) = false := decide_eq_false c64
                                    clear c64
                                    by_cases c69 : (t190.size : Int) = 64
                                    · rw [if_pos c69] at H
                                      have c69b0 : ((t190.size : Int) == 64) = true := beq_iff_eq.mpr c69
                                      have c69b1 : ((t190.size : Int) != 64) = false := bne_eq_false_iff_eq.mpr c69
                                      clear c69
                                      obtain rfl := Option.some.inj H
                                      go_wp2
                                      go_ret
                                      exact ⟨by first | rfl | (simp [errW_none, errW_some] <;> rfl) | (simp [*, errW_none, errW_some] <;> rfl), by repeat (first | (with_reducible first | exact HB.out | apply below_alloc | apply pw_below_drewN | apply below_drew1) | exact HB.out)⟩
                                    · rw [if_neg c69] at H
                                      have c69b0 : ((t190.size : Int) == 64) = false := beq_eq_false_iff_ne.mpr c69
                                      have c69b1 : ((t190.size : Int) != 64) = true := bne_iff_ne.mpr c69
                                      obtain rfl := Option.some.inj H
                                      go_wp2
                                      go_ret
                                      exact ⟨by first | rfl | (simp [errW_none, errW_some] <;> rfl) | (simp [*, errW_none, errW_some] <;> rfl), by repeat (first | (with_reducible first | exact HB.out | apply below_alloc | apply pw_below_drewN | apply below_drew1) | exact HB.out)⟩
          · rw [if_neg c11] at H
            have c11b0 : (t173 == 0) = false := beq_eq_false_iff_ne.mpr c11
            have c11b1 : (t173 != 0) = true := bne_iff_ne.mpr c11
            obtain rfl := Option.some.inj H
            go_wp2_with (first | ((with_reducible refine gate_callee (f := 9) rfl ?_); refine goesL_ (some 38) rfl rfl Try.func9 (by kernel_rfl) rfl #[.int .i64 a0, .slice A1 l1.length c1, .slice A2 l2.length c2] rfl (by (try simp only [List.map_toArray, List.map_cons, List.map_nil]); first | done | rfl | (simp only [List.length_drop, List.length_take]; rfl)) ?_; (with_reducible refine (image_Lay.calls kj5 a0 _ _ l1 _ _ l2 t173 t174 _ ?side1 ?side2 ?side3 ?side4 A10.out).mono ?_); (case side1 => repeat (first | exact (Kd.C_below HR1.out HB.out) | (with_reducible refine Kd.C_alloc ?_ _) | (with_reducible refine Kd.C_drewN ?_ _) | (with_reducible refine Kd.C_drew ?_))); (case side2 => exact HC1.out); (case side3 => repeat (first | exact (Kd.C_below HR2.out HB.out) | (with_reducible refine Kd.C_alloc ?_ _) | (with_reducible refine Kd.C_drewN ?_ _) | (with_reducible refine Kd.C_drew ?_))); (case side4 => exact HC2.out); rintro e w70 ⟨rfl, hb⟩; refine ⟨_, rfl, ?_⟩; have n0_ := Aside0.mk (below_step (by repeat (first | (with_reducible first | exact HB.out | apply below_alloc | apply pw_below_drewN | apply below_drew1) | exact HB.out)) hb); clear HB; have HB := n0_; clear n0_; (try clear hb); (try clear hb2); (try clear hk); (try clear hi)))
            go_ret
            exact ⟨by first | rfl | (simp [errW_none, errW_some] <;> rfl) | (simp [*, errW_none, errW_some] <;> rfl), by repeat (first | (with_reducible first | exact HB.out | apply below_alloc | apply pw_below_drewN | apply below_drew1) | exact HB.out)⟩
  · replace c5 := Bool.eq_false_iff.mpr c5
    subst c5
    have H1 : (some false) = some r := by rw [if_neg (show ¬ (false = true) by decide)] at H; exact H
    clear H
    have H := H1
    clear H1
    obtain rfl := Option.some.inj H
    go_enter Try.func4, Try.ntmps4
    go_wp2_with (first | ((with_reducible refine gate_callee (f := 6) rfl ?_); refine goesL_ (some 24) rfl rfl Try.func6 (by kernel_rfl) rfl #[] rfl (by (try simp only [List.map_toArray, List.map_cons, List.map_nil]); first | done | rfl | (simp only [List.length_drop, List.length_take]; rfl)) ?_; (with_reducible refine (fuglemanlaw19_awake.calls k  false _ A4.out).mono ?_); rintro e w71 ⟨rfl, hb⟩; refine ⟨_, rfl, ?_⟩; have n0_ := Aside0.mk (below_step (by repeat (first | (with_reducible first | exact HB.out | apply below_alloc | apply pw_below_drewN | apply below_drew1) | exact HB.out)) hb); clear HB; have HB := n0_; clear n0_; (try clear hb); (try clear hb2); (try clear hk); (try clear hi)))
    go_ret
    exact ⟨by first | rfl | (simp [errW_none, errW_some] <;> rfl) | (simp [*, errW_none, errW_some] <;> rfl), by repeat (first | (with_reducible first | exact HB.out | apply below_alloc | apply pw_below_drewN | apply below_drew1) | exact HB.out)⟩

end Go.Proofs.Ytpjpjamaimahaaa.PImageApart
