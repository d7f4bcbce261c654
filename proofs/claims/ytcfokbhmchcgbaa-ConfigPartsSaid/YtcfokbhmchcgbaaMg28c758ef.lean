/- The program's functions, as the abstract machine has them. Written by a program for this claim. -/
import Derived.Test.YtcfokbhmchcgbaaProg
import Derived.KernelRfl
import Derived.Test.YtcfokbhmchcgbaaMg9bffb2aa
namespace Go.Proofs.Ytcfokbhmchcgbaa.Tab
open Go Go.Proofs.Ytcfokbhmchcgbaa.Sym
set_option linter.unusedVariables false

/-- Calls that act. -/
def hv : List Nat := [4000000, 1000000, 3000094, 91, 95, 84, 64, 17, 18]
/-! fugleman/config.in: 21 -/
def b_config_in : AC :=
 (.seq (.seq (.reg [⟨(some 6), none, .mv (.c (.v (.bool false)))⟩]) (.drop [3, 6]))
 (.seq (.seq (.reg [⟨(some 7), none, .mv (.t 0)⟩, ⟨(some 8), none, .mv (.t 1)⟩, ⟨(some 9), none, .bin .geq (.t 7) (.t 8)⟩, ⟨(some 10), none, .mv (.t 9)⟩, ⟨(some 11), (some (10, true)), .mv (.t 0)⟩, ⟨(some 12), (some (10, true)), .mv (.t 2)⟩, ⟨(some 13), (some (10, true)), .bin .leq (.t 11) (.t 12)⟩, ⟨(some 14), none, .pick (.t 10) (.t 13) (.c (.v (.bool false)))⟩, ⟨(some 6), none, .mv (.t 14)⟩]) (.drop [7, 14]))
  .ret))
def a_config_in : AFn := ⟨3, b_config_in, [.t 6], false, false⟩
theorem a_config_in_ok : compF Try.prog Try.f21 [[3, 6], [7, 14]] false false hv = some a_config_in := by kernel_rfl

/-! fugleman/config.numbers: 19 -/
def b_config_numbers : AC :=
 (.seq (.seq (.reg [⟨(some 1), none, .box (.t 0)⟩, ⟨(some 2), none, .mv (.c (.v (.bool false)))⟩]) (.drop [2, 2]))
 (.seq (.seq (.reg [⟨(some 3), none, .fad 0 (.t 1)⟩, ⟨(some 4), none, .load none (.t 3)⟩, ⟨(some 5), none, .call (.c (.fn 21 [])) [(.t 4), (.c (.v (.int .i64 4))), (.c (.v (.int .i64 50)))]⟩, ⟨(some 6), none, .mv (.t 5)⟩, ⟨(some 7), (some (6, true)), .fad 1 (.t 1)⟩, ⟨(some 8), (some (6, true)), .load none (.t 7)⟩, ⟨(some 9), (some (6, true)), .call (.c (.fn 21 [])) [(.t 8), (.c (.v (.int .i64 1))), (.c (.v (.int .i64 10000)))]⟩, ⟨(some 10), none, .pick (.t 6) (.t 9) (.c (.v (.bool false)))⟩, ⟨(some 11), none, .mv (.t 10)⟩, ⟨(some 12), (some (11, true)), .fad 2 (.t 1)⟩, ⟨(some 13), (some (11, true)), .load none (.t 12)⟩, ⟨(some 14), (some (11, true)), .call (.c (.fn 21 [])) [(.t 13), (.c (.v (.int .i64 1))), (.c (.v (.int .i64 50)))]⟩, ⟨(some 15), none, .pick (.t 11) (.t 14) (.c (.v (.bool false)))⟩, ⟨(some 16), none, .mv (.t 15)⟩, ⟨(some 17), (some (16, true)), .fad 3 (.t 1)⟩, ⟨(some 18), (some (16, true)), .load none (.t 17)⟩, ⟨(some 19), (some (16, true)), .call (.c (.fn 21 [])) [(.t 18), (.c (.v (.int .i64 0))), (.c (.v (.int .i64 3)))]⟩, ⟨(some 20), none, .pick (.t 16) (.t 19) (.c (.v (.bool false)))⟩, ⟨(some 21), none, .mv (.t 20)⟩, ⟨(some 22), (some (21, true)), .fad 4 (.t 1)⟩, ⟨(some 23), (some (21, true)), .load none (.t 22)⟩, ⟨(some 24), (some (21, true)), .call (.c (.fn 21 [])) [(.t 23), (.c (.v (.int .i64 1))), (.c (.v (.int .i64 65535)))]⟩, ⟨(some 25), none, .pick (.t 21) (.t 24) (.c (.v (.bool false)))⟩, ⟨(some 26), none, .mv (.t 25)⟩, ⟨(some 27), (some (26, true)), .fad 5 (.t 1)⟩, ⟨(some 28), (some (26, true)), .load none (.t 27)⟩, ⟨(some 29), (some (26, true)), .call (.c (.fn 21 [])) [(.t 28), (.c (.v (.int .i64 0))), (.c (.v (.int .i64 31)))]⟩, ⟨(some 30), none, .pick (.t 26) (.t 29) (.c (.v (.bool false)))⟩, ⟨(some 2), none, .mv (.t 30)⟩]) (.drop [3, 30]))
  .ret))
def a_config_numbers : AFn := ⟨1, b_config_numbers, [.t 2], false, false⟩
theorem a_config_numbers_ok : compF Try.prog Try.f19 [[2, 2], [3, 30]] false false hv = some a_config_numbers := by kernel_rfl

/-! fugleman/blocks.Parts: 48 -/
def b_blocks_Parts : AC :=
 (.seq (.seq (.reg [⟨(some 2), none, .mv (.c (.v (.int .i64 0)))⟩]) (.drop [1, 2]))
 (.seq (.seq (.seq (.reg [⟨(some 3), none, .mv (.t 0)⟩, ⟨(some 4), none, .bin .lss (.t 3) (.c (.v (.int .i64 1)))⟩, ⟨(some 5), none, .mv (.t 4)⟩, ⟨(some 6), (some (5, false)), .mv (.t 0)⟩, ⟨(some 7), (some (5, false)), .bin .gtr (.t 6) (.c (.v (.int .i64 64)))⟩, ⟨(some 8), none, .pick (.t 5) (.c (.v (.bool true))) (.t 7)⟩]) (.drop [1, 7]))
   (.cond (.t 8) (.seq (.seq (.reg [⟨(some 2), none, .mv (.c (.v (.int .i64 0)))⟩]) (.drop []))
     .ret)
    .skip))
  (.seq (.seq (.reg [⟨(some 9), none, .mv (.t 0)⟩, ⟨(some 10), none, .bin .add (.t 9) (.c (.v (.int .i64 16)))⟩, ⟨(some 11), none, .bin .sub (.t 10) (.c (.v (.int .i64 1)))⟩, ⟨(some 12), none, .bin .quo (.t 11) (.c (.v (.int .i64 16)))⟩, ⟨(some 2), none, .mv (.t 12)⟩]) (.drop [3, 12]))
   .ret)))
def a_blocks_Parts : AFn := ⟨1, b_blocks_Parts, [.t 2], false, false⟩
theorem a_blocks_Parts_ok : compF Try.prog Try.f48 [[1, 2], [1, 7], [], [3, 12]] false false hv = some a_blocks_Parts := by kernel_rfl

/-! fugleman/blocks.right: 35 -/
def b_blocks_right : AC :=
 (.seq (.seq (.reg [⟨(some 1), none, .box (.t 0)⟩, ⟨(some 2), none, .mv (.c (.v (.bool false)))⟩]) (.drop [2, 2]))
 (.seq (.seq (.reg [⟨(some 3), none, .fad 0 (.t 1)⟩, ⟨(some 4), none, .load none (.t 3)⟩, ⟨(some 5), none, .bin .geq (.t 4) (.c (.v (.int .i64 0)))⟩, ⟨(some 6), none, .mv (.t 5)⟩, ⟨(some 7), (some (6, true)), .fad 0 (.t 1)⟩, ⟨(some 8), (some (6, true)), .load none (.t 7)⟩, ⟨(some 9), (some (6, true)), .bin .lss (.t 8) (.c (.v (.int .i64 16)))⟩, ⟨(some 10), none, .pick (.t 6) (.t 9) (.c (.v (.bool false)))⟩, ⟨(some 11), none, .mv (.t 10)⟩, ⟨(some 12), (some (11, true)), .fad 1 (.t 1)⟩, ⟨(some 13), (some (11, true)), .load none (.t 12)⟩, ⟨(some 14), (some (11, true)), .bin .geq (.t 13) (.c (.v (.int .i64 0)))⟩, ⟨(some 15), none, .pick (.t 11) (.t 14) (.c (.v (.bool false)))⟩, ⟨(some 16), none, .mv (.t 15)⟩, ⟨(some 17), (some (16, true)), .fad 1 (.t 1)⟩, ⟨(some 18), (some (16, true)), .load none (.t 17)⟩, ⟨(some 19), (some (16, true)), .bin .lss (.t 18) (.c (.v (.int .i64 32)))⟩, ⟨(some 20), none, .pick (.t 16) (.t 19) (.c (.v (.bool false)))⟩, ⟨(some 21), none, .mv (.t 20)⟩, ⟨(some 22), (some (21, true)), .fad 2 (.t 1)⟩, ⟨(some 23), (some (21, true)), .load none (.t 22)⟩, ⟨(some 24), (some (21, true)), .call (.c (.fn 48 [])) [(.t 23)]⟩, ⟨(some 25), (some (21, true)), .bin .gtr (.t 24) (.c (.v (.int .i64 0)))⟩, ⟨(some 26), none, .pick (.t 21) (.t 25) (.c (.v (.bool false)))⟩, ⟨(some 2), none, .mv (.t 26)⟩]) (.drop [3, 26]))
  .ret))
def a_blocks_right : AFn := ⟨1, b_blocks_right, [.t 2], false, false⟩
theorem a_blocks_right_ok : compF Try.prog Try.f35 [[2, 2], [3, 26]] false false hv = some a_blocks_right := by kernel_rfl

/-! slices.IndexFunc[[]fugleman/api.Block,fugleman/api.Block]: 49 -/
def l_api_Block_1 : AC :=
 (.seq (.seq (.reg [⟨(some 4), none, .mv (.c (.v (.int .i64 (-1))))⟩]) (.drop []))
 .ret)
def l_api_Block_0 : AC :=
 (.seq (.seq (.reg [⟨(some 9), none, .bin .lss (.t 8) (.t 7)⟩]) (.drop []))
 (.seq (.cond (.t 9) .skip
   (.exit 0))
  (.seq (.block 1 (.seq (.seq (.reg [⟨(some 10), none, .mv (.t 8)⟩, ⟨(some 5), none, .mv (.t 10)⟩]) (.drop [9, 10]))
     (.seq (.seq (.reg [⟨(some 11), none, .mv (.t 1)⟩, ⟨(some 12), none, .mv (.t 0)⟩, ⟨(some 13), none, .mv (.t 5)⟩, ⟨(some 14), none, .ixs 4 (.t 12) (.t 13)⟩, ⟨(some 15), none, .load (some 4) (.t 14)⟩, ⟨(some 16), none, .call (.t 11) [(.t 15)]⟩]) (.drop [9, 15]))
      (.cond (.t 16) (.seq (.seq (.reg [⟨(some 17), none, .mv (.t 5)⟩, ⟨(some 4), none, .mv (.t 17)⟩]) (.drop [5, 17]))
        .ret)
       .skip))))
   (.seq (.reg [⟨(some 18), none, .bin .add (.t 8) (.c (.v (.int .i64 1)))⟩, ⟨(some 8), none, .mv (.t 18)⟩]) (.drop [9, 18])))))
def b_api_Block : AC :=
 (.seq (.seq (.reg [⟨(some 4), none, .mv (.c (.v (.int .i64 0)))⟩]) (.drop [2, 4]))
 (.seq (.seq (.seq (.reg [⟨(some 6), none, .mv (.t 0)⟩, ⟨(some 7), none, .len (.t 6)⟩, ⟨(some 8), none, .mv (.c (.v (.int .i64 0)))⟩]) (.drop [2, 6]))
   (.block 0 (.loop [0, 1, 7, 8] l_api_Block_0)))
  l_api_Block_1))
def a_api_Block : AFn := ⟨2, b_api_Block, [.t 4], false, false⟩
theorem a_api_Block_ok : compF Try.prog Try.f49 [[2, 4], [2, 6], [0, 1, 7, 8], [], [9, 10], [9, 15], [5, 17], [9, 18], []] false false hv = some a_api_Block := by kernel_rfl

/-! fugleman/blocks.place: 36 -/
def b_blocks_place : AC :=
 (.seq (.seq (.reg [⟨(some 3), none, .box (.t 1)⟩, ⟨(some 4), none, .mv (.c (.v (.int .i64 0)))⟩]) (.drop [4, 4]))
 (.seq (.seq (.reg [⟨(some 5), none, .mv (.t 0)⟩, ⟨(some 6), none, .mkf 50 [(.t 3)]⟩, ⟨(some 7), none, .call (.c (.fn 49 [])) [(.t 5), (.t 6)]⟩, ⟨(some 4), none, .mv (.t 7)⟩]) (.drop [5, 7]))
  .ret))
def a_blocks_place : AFn := ⟨2, b_blocks_place, [.t 4], false, false⟩
theorem a_blocks_place_ok : compF Try.prog Try.f36 [[4, 4], [5, 7]] false false hv = some a_blocks_place := by kernel_rfl

/-! fugleman/blocks.Check: 20 -/
def l_blocks_Check_1 : AC :=
 (.seq (.seq (.reg [⟨(some 2), none, .mv (.c (.v (.int .i64 0)))⟩, ⟨(some 3), none, .mv (.c (.v (.int .i64 0)))⟩]) (.drop []))
 .ret)
def l_blocks_Check_0 : AC :=
 (.seq (.seq (.reg [⟨(some 12), none, .bin .lss (.t 11) (.t 10)⟩]) (.drop []))
 (.seq (.cond (.t 12) .skip
   (.exit 0))
  (.seq (.block 1 (.seq (.seq (.reg [⟨(some 13), none, .mv (.t 11)⟩, ⟨(some 14), none, .ixs 4 (.t 9) (.t 11)⟩, ⟨(some 15), none, .load (some 4) (.t 14)⟩, ⟨(some 5), none, .alloc [(.v (.int .i64 0)), (.v (.int .i64 0)), (.v (.int .i64 0)), (.v (.bool false))]⟩, ⟨(some 4), none, .mv (.t 13)⟩, ⟨none, none, .store 4 (.t 5) (.t 15)⟩]) (.drop [12, 15]))
     (.seq (.seq (.seq (.reg [⟨(some 16), none, .load (some 4) (.t 5)⟩, ⟨(some 17), none, .call (.c (.fn 35 [])) [(.t 16)]⟩, ⟨(some 18), none, .un .not (.t 17)⟩]) (.drop [12, 17]))
       (.cond (.t 18) (.seq (.seq (.reg [⟨(some 19), none, .mv (.t 4)⟩, ⟨(some 2), none, .mv (.c (.v (.int .i64 3)))⟩, ⟨(some 3), none, .mv (.t 19)⟩]) (.drop [4, 19]))
         .ret)
        .skip))
      (.seq (.seq (.reg [⟨(some 20), none, .mv (.t 0)⟩, ⟨(some 21), none, .fad 0 (.t 5)⟩, ⟨(some 22), none, .load none (.t 21)⟩, ⟨(some 23), none, .call (.c (.fn 36 [])) [(.t 20), (.t 22)]⟩, ⟨(some 24), none, .mv (.t 4)⟩, ⟨(some 25), none, .bin .lss (.t 23) (.t 24)⟩]) (.drop [12, 24]))
       (.cond (.t 25) (.seq (.seq (.reg [⟨(some 26), none, .mv (.t 4)⟩, ⟨(some 2), none, .mv (.c (.v (.int .i64 14)))⟩, ⟨(some 3), none, .mv (.t 26)⟩]) (.drop [4, 26]))
         .ret)
        .skip)))))
   (.seq (.reg [⟨(some 27), none, .bin .add (.t 11) (.c (.v (.int .i64 1)))⟩, ⟨(some 11), none, .mv (.t 27)⟩]) (.drop [12, 27])))))
def b_blocks_Check : AC :=
 (.seq (.seq (.reg [⟨(some 2), none, .mv (.c (.v (.int .i64 0)))⟩, ⟨(some 3), none, .mv (.c (.v (.int .i64 0)))⟩]) (.drop [1, 3]))
 (.seq (.seq (.seq (.reg [⟨(some 6), none, .mv (.t 0)⟩, ⟨(some 7), none, .len (.t 6)⟩, ⟨(some 8), none, .bin .gtr (.t 7) (.c (.v (.int .i64 16)))⟩]) (.drop [1, 7]))
   (.cond (.t 8) (.seq (.seq (.reg [⟨(some 2), none, .mv (.c (.v (.int .i64 2)))⟩, ⟨(some 3), none, .mv (.c (.v (.int .i64 16)))⟩]) (.drop []))
     .ret)
    .skip))
  (.seq (.seq (.seq (.reg [⟨(some 9), none, .mv (.t 0)⟩, ⟨(some 10), none, .len (.t 9)⟩, ⟨(some 11), none, .mv (.c (.v (.int .i64 0)))⟩]) (.drop []))
    (.block 0 (.loop [0, 9, 10, 11] l_blocks_Check_0)))
   l_blocks_Check_1)))
def a_blocks_Check : AFn := ⟨1, b_blocks_Check, [.t 2, .t 3], false, false⟩
theorem a_blocks_Check_ok : compF Try.prog Try.f20 [[1, 3], [1, 7], [], [], [0, 9, 10, 11], [], [12, 15], [12, 17], [4, 19], [12, 24], [4, 26], [12, 27], []] false false hv = some a_blocks_Check := by kernel_rfl

/-! slices.IndexFunc[[]fugleman/api.Station,fugleman/api.Station]: 43 -/
def l_api_Station_1 : AC :=
 (.seq (.seq (.reg [⟨(some 4), none, .mv (.c (.v (.int .i64 (-1))))⟩]) (.drop []))
 .ret)
def l_api_Station_0 : AC :=
 (.seq (.seq (.reg [⟨(some 9), none, .bin .lss (.t 8) (.t 7)⟩]) (.drop []))
 (.seq (.cond (.t 9) .skip
   (.exit 0))
  (.seq (.block 1 (.seq (.seq (.reg [⟨(some 10), none, .mv (.t 8)⟩, ⟨(some 5), none, .mv (.t 10)⟩]) (.drop [9, 10]))
     (.seq (.seq (.reg [⟨(some 11), none, .mv (.t 1)⟩, ⟨(some 12), none, .mv (.t 0)⟩, ⟨(some 13), none, .mv (.t 5)⟩, ⟨(some 14), none, .ixs 6 (.t 12) (.t 13)⟩, ⟨(some 15), none, .load (some 6) (.t 14)⟩, ⟨(some 16), none, .call (.t 11) [(.t 15)]⟩]) (.drop [9, 15]))
      (.cond (.t 16) (.seq (.seq (.reg [⟨(some 17), none, .mv (.t 5)⟩, ⟨(some 4), none, .mv (.t 17)⟩]) (.drop [5, 17]))
        .ret)
       .skip))))
   (.seq (.reg [⟨(some 18), none, .bin .add (.t 8) (.c (.v (.int .i64 1)))⟩, ⟨(some 8), none, .mv (.t 18)⟩]) (.drop [9, 18])))))
def b_api_Station : AC :=
 (.seq (.seq (.reg [⟨(some 4), none, .mv (.c (.v (.int .i64 0)))⟩]) (.drop [2, 4]))
 (.seq (.seq (.seq (.reg [⟨(some 6), none, .mv (.t 0)⟩, ⟨(some 7), none, .len (.t 6)⟩, ⟨(some 8), none, .mv (.c (.v (.int .i64 0)))⟩]) (.drop [2, 6]))
   (.block 0 (.loop [0, 1, 7, 8] l_api_Station_0)))
  l_api_Station_1))
def a_api_Station : AFn := ⟨2, b_api_Station, [.t 4], false, false⟩
theorem a_api_Station_ok : compF Try.prog Try.f43 [[2, 4], [2, 6], [0, 1, 7, 8], [], [9, 10], [9, 15], [5, 17], [9, 18], []] false false hv = some a_api_Station := by kernel_rfl

/-! fugleman/config.place: 26 -/
def b_config_place : AC :=
 (.seq (.seq (.reg [⟨(some 2), none, .box (.t 0)⟩, ⟨(some 3), none, .box (.t 1)⟩, ⟨(some 4), none, .mv (.c (.v (.int .i64 0)))⟩]) (.drop [4, 4]))
 (.seq (.seq (.reg [⟨(some 5), none, .fad 7 (.t 2)⟩, ⟨(some 6), none, .load none (.t 5)⟩, ⟨(some 7), none, .mkf 44 [(.t 3)]⟩, ⟨(some 8), none, .call (.c (.fn 43 [])) [(.t 6), (.t 7)]⟩, ⟨(some 4), none, .mv (.t 8)⟩]) (.drop [5, 8]))
  .ret))
def a_config_place : AFn := ⟨2, b_config_place, [.t 4], false, false⟩
theorem a_config_place_ok : compF Try.prog Try.f26 [[4, 4], [5, 8]] false false hv = some a_config_place := by kernel_rfl

/-! fugleman/image.mask: 52 -/
def b_image_mask : AC :=
 (.seq (.seq (.reg [⟨(some 4), none, .mv (.c (.v (.int .u64 0)))⟩]) (.drop [2, 4]))
 (.seq (.seq (.seq (.reg [⟨(some 5), none, .mv (.t 1)⟩, ⟨(some 6), none, .bin .geq (.t 5) (.c (.v (.int .i64 64)))⟩]) (.drop [2, 5]))
   (.cond (.t 6) (.seq (.seq (.reg [⟨(some 7), none, .mv (.t 0)⟩, ⟨(some 8), none, .bin .shl (.c (.v (.int .u64 18446744073709551615))) (.t 7)⟩, ⟨(some 4), none, .mv (.t 8)⟩]) (.drop [5, 8]))
     .ret)
    .skip))
  (.seq (.seq (.reg [⟨(some 9), none, .mv (.t 1)⟩, ⟨(some 10), none, .bin .shl (.c (.v (.int .u64 1))) (.t 9)⟩, ⟨(some 11), none, .bin .sub (.t 10) (.c (.v (.int .u64 1)))⟩, ⟨(some 12), none, .mv (.t 0)⟩, ⟨(some 13), none, .bin .shl (.t 11) (.t 12)⟩, ⟨(some 4), none, .mv (.t 13)⟩]) (.drop [5, 13]))
   .ret)))
def a_image_mask : AFn := ⟨2, b_image_mask, [.t 4], false, false⟩
theorem a_image_mask_ok : compF Try.prog Try.f52 [[2, 4], [2, 5], [5, 8], [5, 13]] false false hv = some a_image_mask := by kernel_rfl

/-! slices.IndexFunc[[]fugleman/api.Spot,fugleman/api.Spot]: 47 -/
def l_api_Spot_47_1 : AC :=
 (.seq (.seq (.reg [⟨(some 4), none, .mv (.c (.v (.int .i64 (-1))))⟩]) (.drop []))
 .ret)
def l_api_Spot_47_0 : AC :=
 (.seq (.seq (.reg [⟨(some 9), none, .bin .lss (.t 8) (.t 7)⟩]) (.drop []))
 (.seq (.cond (.t 9) .skip
   (.exit 0))
  (.seq (.block 1 (.seq (.seq (.reg [⟨(some 10), none, .mv (.t 8)⟩, ⟨(some 5), none, .mv (.t 10)⟩]) (.drop [9, 10]))
     (.seq (.seq (.reg [⟨(some 11), none, .mv (.t 1)⟩, ⟨(some 12), none, .mv (.t 0)⟩, ⟨(some 13), none, .mv (.t 5)⟩, ⟨(some 14), none, .ixs 2 (.t 12) (.t 13)⟩, ⟨(some 15), none, .load (some 2) (.t 14)⟩, ⟨(some 16), none, .call (.t 11) [(.t 15)]⟩]) (.drop [9, 15]))
      (.cond (.t 16) (.seq (.seq (.reg [⟨(some 17), none, .mv (.t 5)⟩, ⟨(some 4), none, .mv (.t 17)⟩]) (.drop [5, 17]))
        .ret)
       .skip))))
   (.seq (.reg [⟨(some 18), none, .bin .add (.t 8) (.c (.v (.int .i64 1)))⟩, ⟨(some 8), none, .mv (.t 18)⟩]) (.drop [9, 18])))))
def b_api_Spot_47 : AC :=
 (.seq (.seq (.reg [⟨(some 4), none, .mv (.c (.v (.int .i64 0)))⟩]) (.drop [2, 4]))
 (.seq (.seq (.seq (.reg [⟨(some 6), none, .mv (.t 0)⟩, ⟨(some 7), none, .len (.t 6)⟩, ⟨(some 8), none, .mv (.c (.v (.int .i64 0)))⟩]) (.drop [2, 6]))
   (.block 0 (.loop [0, 1, 7, 8] l_api_Spot_47_0)))
  l_api_Spot_47_1))
def a_api_Spot_47 : AFn := ⟨2, b_api_Spot_47, [.t 4], false, false⟩
theorem a_api_Spot_47_ok : compF Try.prog Try.f47 [[2, 4], [2, 6], [0, 1, 7, 8], [], [9, 10], [9, 15], [5, 17], [9, 18], []] false false hv = some a_api_Spot_47 := by kernel_rfl

/-! slices.ContainsFunc[[]fugleman/api.Spot,fugleman/api.Spot]: 31 -/
def b_api_Spot_31 : AC :=
 (.seq (.seq (.reg [⟨(some 4), none, .mv (.c (.v (.bool false)))⟩]) (.drop [2, 4]))
 (.seq (.seq (.reg [⟨(some 5), none, .mv (.t 0)⟩, ⟨(some 6), none, .mv (.t 1)⟩, ⟨(some 7), none, .call (.c (.fn 47 [])) [(.t 5), (.t 6)]⟩, ⟨(some 8), none, .bin .geq (.t 7) (.c (.v (.int .i64 0)))⟩, ⟨(some 4), none, .mv (.t 8)⟩]) (.drop [5, 8]))
  .ret))
def a_api_Spot_31 : AFn := ⟨2, b_api_Spot_31, [.t 4], false, false⟩
theorem a_api_Spot_31_ok : compF Try.prog Try.f31 [[2, 4], [5, 8]] false false hv = some a_api_Spot_31 := by kernel_rfl

/-! fugleman/blocks.Find: 33 -/
def b_blocks_Find : AC :=
 (.seq (.seq (.reg [⟨(some 4), none, .alloc [(.v (.int .i64 0)), (.v (.int .i64 0)), (.v (.int .i64 0)), (.v (.bool false))]⟩, ⟨(some 5), none, .mv (.c (.v (.bool false)))⟩]) (.drop [5, 5]))
 (.seq (.seq (.reg [⟨(some 7), none, .mv (.t 0)⟩, ⟨(some 8), none, .mv (.t 1)⟩, ⟨(some 9), none, .call (.c (.fn 36 [])) [(.t 7), (.t 8)]⟩, ⟨(some 6), none, .mv (.t 9)⟩]) (.drop [7, 9]))
  (.seq (.seq (.seq (.reg [⟨(some 10), none, .mv (.t 6)⟩, ⟨(some 11), none, .bin .lss (.t 10) (.c (.v (.int .i64 0)))⟩]) (.drop [7, 10]))
    (.cond (.t 11) (.seq (.seq (.reg [⟨(some 12), none, .build [(.v (.int .i64 0)), (.v (.int .i64 0)), (.v (.int .i64 0)), (.v (.bool false))] []⟩, ⟨none, none, .store 4 (.t 4) (.t 12)⟩, ⟨(some 5), none, .mv (.c (.v (.bool false)))⟩]) (.drop [6, 12]))
      .ret)
     .skip))
   (.seq (.seq (.reg [⟨(some 13), none, .mv (.t 0)⟩, ⟨(some 14), none, .mv (.t 6)⟩, ⟨(some 15), none, .ixs 4 (.t 13) (.t 14)⟩, ⟨(some 16), none, .load (some 4) (.t 15)⟩, ⟨none, none, .store 4 (.t 4) (.t 16)⟩, ⟨(some 5), none, .mv (.c (.v (.bool true)))⟩]) (.drop [6, 16]))
    .ret))))
def a_blocks_Find : AFn := ⟨2, b_blocks_Find, [.cell 4 (some 4), .t 5], false, false⟩
theorem a_blocks_Find_ok : compF Try.prog Try.f33 [[5, 5], [7, 9], [7, 10], [6, 12], [6, 16]] false false hv = some a_blocks_Find := by kernel_rfl

/-! fugleman/image.spot: 59 -/
def c_image_spot_0 : AC :=
 (.seq (.seq (.reg [⟨(some 34), none, .fad 1 (.t 8)⟩, ⟨(some 35), none, .load none (.t 34)⟩, ⟨(some 36), none, .bin .lss (.t 35) (.c (.v (.int .i64 0)))⟩, ⟨(some 37), none, .mv (.t 36)⟩, ⟨(some 38), (some (37, false)), .fad 1 (.t 8)⟩, ⟨(some 39), (some (37, false)), .load none (.t 38)⟩, ⟨(some 40), (some (37, false)), .bin .gtr (.t 39) (.c (.v (.int .i64 64)))⟩, ⟨(some 41), none, .pick (.t 37) (.c (.v (.bool true))) (.t 40)⟩, ⟨(some 42), none, .mv (.t 41)⟩, ⟨(some 43), (some (42, false)), .fad 2 (.t 9)⟩, ⟨(some 44), (some (42, false)), .load none (.t 43)⟩, ⟨(some 45), (some (42, false)), .bin .lss (.t 44) (.c (.v (.int .i64 0)))⟩, ⟨(some 46), none, .pick (.t 42) (.c (.v (.bool true))) (.t 45)⟩, ⟨(some 47), none, .mv (.t 46)⟩, ⟨(some 48), (some (47, false)), .fad 2 (.t 9)⟩, ⟨(some 49), (some (47, false)), .load none (.t 48)⟩, ⟨(some 50), (some (47, false)), .fad 1 (.t 8)⟩, ⟨(some 51), (some (47, false)), .load none (.t 50)⟩, ⟨(some 52), (some (47, false)), .bin .sub (.c (.v (.int .i64 64))) (.t 51)⟩, ⟨(some 53), (some (47, false)), .bin .gtr (.t 49) (.t 52)⟩, ⟨(some 54), none, .pick (.t 47) (.c (.v (.bool true))) (.t 53)⟩, ⟨(some 33), none, .mv (.t 54)⟩]) (.drop [34, 54]))
          (.cond (.t 33) (.seq (.seq (.reg [⟨(some 55), none, .load (some 4) (.t 9)⟩, ⟨none, none, .store 4 (.t 6) (.t 55)⟩, ⟨(some 7), none, .mv (.c (.v (.int .i64 2)))⟩]) (.drop [8, 55]))
            .ret)
           .skip))
theorem g_image_spot_0 {C : CT} {lf : Nat} {ks : List It} {s : St} : type_of% (@Sym.go_as C lf ks s _ _ c_image_spot_0.eq_1) := Sym.go_as c_image_spot_0.eq_1
def c_image_spot_1 : AC :=
 (.seq (.seq (.reg [⟨(some 27), none, .mv (.t 0)⟩, ⟨(some 28), none, .mv (.t 1)⟩, ⟨(some 29), none, .sls 2 (.t 27) none (some (.t 28)) none⟩, ⟨(some 30), none, .mkf 73 [(.t 8)]⟩, ⟨(some 31), none, .call (.c (.fn 31 [])) [(.t 29), (.t 30)]⟩, ⟨(some 26), none, .mv (.t 31)⟩]) (.drop [27, 31]))
        (.cond (.t 26) (.seq (.seq (.reg [⟨(some 32), none, .load (some 4) (.t 9)⟩, ⟨none, none, .store 4 (.t 6) (.t 32)⟩, ⟨(some 7), none, .mv (.c (.v (.int .i64 14)))⟩]) (.drop [8, 32]))
          .ret)
         c_image_spot_0))
theorem g_image_spot_1 {C : CT} {lf : Nat} {ks : List It} {s : St} : type_of% (@Sym.go_as C lf ks s _ _ c_image_spot_1.eq_1) := Sym.go_as c_image_spot_1.eq_1
theorem gs_image_spot : type_of% (And.intro (@g_image_spot_0) (@g_image_spot_1)) := (And.intro (@g_image_spot_0) (@g_image_spot_1))
def b_image_spot : AC :=
 (.seq (.seq (.reg [⟨(some 6), none, .alloc [(.v (.int .i64 0)), (.v (.int .i64 0)), (.v (.int .i64 0)), (.v (.bool false))]⟩, ⟨(some 7), none, .mv (.c (.v (.int .i64 0)))⟩]) (.drop [7, 7]))
 (.seq (.seq (.reg [⟨(some 11), none, .mv (.t 0)⟩, ⟨(some 12), none, .mv (.t 1)⟩, ⟨(some 13), none, .ixs 2 (.t 11) (.t 12)⟩, ⟨(some 14), none, .load (some 2) (.t 13)⟩, ⟨(some 8), none, .alloc [(.v (.int .i64 0)), (.v (.int .i64 0))]⟩, ⟨none, none, .store 2 (.t 8) (.t 14)⟩]) (.drop [9, 14]))
  (.seq (.seq (.reg [⟨(some 16), none, .mv (.t 2)⟩, ⟨(some 17), none, .fad 0 (.t 8)⟩, ⟨(some 18), none, .load none (.t 17)⟩, ⟨(some 19), none, .call (.c (.fn 33 [])) [(.t 16), (.t 18)]⟩, ⟨(some 15), none, .mv (.t 19)⟩, ⟨(some 20), none, .ext 0 (.t 15)⟩, ⟨(some 21), none, .ext 1 (.t 15)⟩, ⟨(some 9), none, .alloc [(.v (.int .i64 0)), (.v (.int .i64 0)), (.v (.int .i64 0)), (.v (.bool false))]⟩, ⟨none, none, .store 4 (.t 9) (.t 20)⟩, ⟨(some 10), none, .mv (.t 21)⟩]) (.drop [11, 21]))
   (.seq (.block 0 (.seq (.seq (.reg [⟨(some 23), none, .mv (.t 10)⟩, ⟨(some 24), none, .un .not (.t 23)⟩, ⟨(some 22), none, .mv (.t 24)⟩]) (.drop [23, 24]))
      (.cond (.t 22) (.seq (.seq (.reg [⟨(some 25), none, .load (some 4) (.t 9)⟩, ⟨none, none, .store 4 (.t 6) (.t 25)⟩, ⟨(some 7), none, .mv (.c (.v (.int .i64 5)))⟩]) (.drop [8, 25]))
        .ret)
       c_image_spot_1)))
    (.seq (.seq (.reg [⟨(some 56), none, .load (some 4) (.t 9)⟩, ⟨none, none, .store 4 (.t 6) (.t 56)⟩, ⟨(some 7), none, .mv (.c (.v (.int .i64 0)))⟩]) (.drop [8, 56]))
     .ret)))))
def a_image_spot : AFn := ⟨3, b_image_spot, [.cell 6 (some 4), .t 7], false, false⟩
theorem a_image_spot_ok : compF Try.prog Try.f59 [[7, 7], [9, 14], [11, 21], [23, 24], [8, 25], [27, 31], [8, 32], [34, 54], [8, 55], [8, 56]] false false hv = some a_image_spot := by kernel_rfl

/-! fugleman/image.lay: 51 -/
def l_image_lay_1 : AC :=
 (.seq (.seq (.reg [⟨(some 8), none, .mv (.c (.v (.int .i64 0)))⟩, ⟨(some 9), none, .mv (.c (.v (.int .i64 0)))⟩]) (.drop []))
 .ret)
def l_image_lay_0 : AC :=
 (.seq (.seq (.reg [⟨(some 18), none, .bin .lss (.t 17) (.t 16)⟩]) (.drop []))
 (.seq (.cond (.t 18) .skip
   (.exit 0))
  (.seq (.block 1 (.seq (.seq (.reg [⟨(some 19), none, .mv (.t 17)⟩, ⟨(some 20), none, .ixs 2 (.t 15) (.t 17)⟩, ⟨(some 21), none, .load (some 2) (.t 20)⟩, ⟨(some 11), none, .alloc [(.v (.int .i64 0)), (.v (.int .i64 0))]⟩, ⟨(some 10), none, .mv (.t 19)⟩, ⟨none, none, .store 2 (.t 11) (.t 21)⟩]) (.drop [18, 21]))
     (.seq (.seq (.reg [⟨(some 23), none, .mv (.t 1)⟩, ⟨(some 24), none, .mv (.t 10)⟩, ⟨(some 25), none, .mv (.t 2)⟩, ⟨(some 26), none, .call (.c (.fn 59 [])) [(.t 23), (.t 24), (.t 25)]⟩, ⟨(some 22), none, .mv (.t 26)⟩, ⟨(some 27), none, .ext 0 (.t 22)⟩, ⟨(some 28), none, .ext 1 (.t 22)⟩, ⟨(some 12), none, .alloc [(.v (.int .i64 0)), (.v (.int .i64 0)), (.v (.int .i64 0)), (.v (.bool false))]⟩, ⟨none, none, .store 4 (.t 12) (.t 27)⟩, ⟨(some 13), none, .mv (.t 28)⟩]) (.drop [18, 28]))
      (.seq (.seq (.seq (.reg [⟨(some 29), none, .mv (.t 13)⟩, ⟨(some 30), none, .bin .neq (.t 29) (.c (.v (.int .i64 0)))⟩]) (.drop [18, 29]))
        (.cond (.t 30) (.seq (.seq (.reg [⟨(some 31), none, .mv (.t 13)⟩, ⟨(some 32), none, .mv (.t 10)⟩, ⟨(some 8), none, .mv (.t 31)⟩, ⟨(some 9), none, .mv (.t 32)⟩]) (.drop [10, 32]))
          .ret)
         .skip))
       (.seq (.seq (.reg [⟨(some 33), none, .fad 1 (.t 11)⟩, ⟨(some 34), none, .load none (.t 33)⟩, ⟨(some 35), none, .fad 2 (.t 12)⟩, ⟨(some 36), none, .load none (.t 35)⟩, ⟨(some 37), none, .call (.c (.fn 52 [])) [(.t 34), (.t 36)]⟩, ⟨(some 14), none, .mv (.t 37)⟩]) (.drop [18, 37]))
        (.seq (.seq (.seq (.reg [⟨(some 38), none, .mv (.t 3)⟩, ⟨(some 39), none, .mv (.t 38)⟩, ⟨(some 40), (some (39, true)), .mv (.t 0)⟩, ⟨(some 41), (some (39, true)), .mv (.t 14)⟩, ⟨(some 42), (some (39, true)), .bin .and (.t 40) (.t 41)⟩, ⟨(some 43), (some (39, true)), .bin .neq (.t 42) (.c (.v (.int .u64 0)))⟩, ⟨(some 44), none, .pick (.t 39) (.t 43) (.c (.v (.bool false)))⟩]) (.drop [18, 43]))
          (.cond (.t 44) (.seq (.seq (.reg [⟨(some 45), none, .mv (.t 10)⟩, ⟨(some 8), none, .mv (.c (.v (.int .i64 15)))⟩, ⟨(some 9), none, .mv (.t 45)⟩]) (.drop [10, 45]))
            .ret)
           .skip))
         (.seq (.reg [⟨(some 46), none, .mv (.t 0)⟩, ⟨(some 47), none, .mv (.t 14)⟩, ⟨(some 48), none, .bin .or (.t 46) (.t 47)⟩, ⟨(some 0), none, .mv (.t 48)⟩]) (.drop [18, 48]))))))))
   (.seq (.reg [⟨(some 49), none, .bin .add (.t 17) (.c (.v (.int .i64 1)))⟩, ⟨(some 17), none, .mv (.t 49)⟩]) (.drop [18, 49])))))
def b_image_lay : AC :=
 (.seq (.seq (.reg [⟨(some 8), none, .mv (.c (.v (.int .i64 0)))⟩, ⟨(some 9), none, .mv (.c (.v (.int .i64 0)))⟩]) (.drop [4, 9]))
 (.seq (.seq (.seq (.reg [⟨(some 15), none, .mv (.t 1)⟩, ⟨(some 16), none, .len (.t 15)⟩, ⟨(some 17), none, .mv (.c (.v (.int .i64 0)))⟩]) (.drop []))
   (.block 0 (.loop [0, 1, 2, 3, 15, 16, 17] l_image_lay_0)))
  l_image_lay_1))
def a_image_lay : AFn := ⟨4, b_image_lay, [.t 8, .t 9], false, false⟩
theorem a_image_lay_ok : compF Try.prog Try.f51 [[4, 9], [], [0, 1, 2, 3, 15, 16, 17], [], [18, 21], [18, 28], [18, 29], [10, 32], [18, 37], [18, 43], [10, 45], [18, 48], [18, 49], []] false false hv = some a_image_lay := by kernel_rfl

/-! fugleman/image.Lay: 37 -/
def b_image_Lay : AC :=
 (.seq (.seq (.reg [⟨(some 6), none, .mv (.c (.v (.int .i64 0)))⟩, ⟨(some 7), none, .mv (.c (.v (.int .i64 0)))⟩]) (.drop [3, 7]))
 (.seq (.seq (.seq (.reg [⟨(some 8), none, .mv (.t 0)⟩, ⟨(some 9), none, .bin .lss (.t 8) (.c (.v (.int .i64 0)))⟩, ⟨(some 10), none, .mv (.t 9)⟩, ⟨(some 11), (some (10, false)), .mv (.t 0)⟩, ⟨(some 12), (some (10, false)), .bin .gtr (.t 11) (.c (.v (.int .i64 64)))⟩, ⟨(some 13), none, .pick (.t 10) (.c (.v (.bool true))) (.t 12)⟩]) (.drop [3, 12]))
   (.cond (.t 13) (.seq (.seq (.reg [⟨(some 6), none, .mv (.c (.v (.int .i64 2)))⟩, ⟨(some 7), none, .mv (.c (.v (.int .i64 (-1))))⟩]) (.drop []))
     .ret)
    .skip))
  (.seq (.seq (.reg [⟨(some 14), none, .mv (.t 0)⟩, ⟨(some 15), none, .call (.c (.fn 52 [])) [(.c (.v (.int .i64 0))), (.t 14)]⟩, ⟨(some 16), none, .mv (.t 1)⟩, ⟨(some 17), none, .mv (.t 2)⟩, ⟨(some 18), none, .call (.c (.fn 51 [])) [(.t 15), (.t 16), (.t 17), (.c (.v (.bool true)))]⟩, ⟨(some 19), none, .ext 0 (.t 18)⟩, ⟨(some 20), none, .ext 1 (.t 18)⟩, ⟨(some 6), none, .mv (.t 19)⟩, ⟨(some 7), none, .mv (.t 20)⟩]) (.drop [8, 20]))
   .ret)))
def a_image_Lay : AFn := ⟨3, b_image_Lay, [.t 6, .t 7], false, false⟩
theorem a_image_Lay_ok : compF Try.prog Try.f37 [[3, 7], [3, 12], [], [8, 20]] false false hv = some a_image_Lay := by kernel_rfl

/-! fugleman/il.ops: 91 -/
def b_il_ops : AC :=
 (.seq (.seq (.reg [⟨(some 0), none, .mv (.c (.v (.slice none 0 0)))⟩]) (.drop [0, 0]))
 (.seq (.seq (.reg [⟨(some 1), none, .build [(.v (.string ⟨#[]⟩)), (.v (.int .i64 0))] [(0, 1, (.c (.v (.string ⟨#[76, 68]⟩)))), (1, 1, (.c (.v (.int .i64 1))))]⟩, ⟨(some 2), none, .build [(.v (.string ⟨#[]⟩)), (.v (.int .i64 0))] [(0, 1, (.c (.v (.string ⟨#[76, 68, 78]⟩)))), (1, 1, (.c (.v (.int .i64 1))))]⟩, ⟨(some 3), none, .build [(.v (.string ⟨#[]⟩)), (.v (.int .i64 0))] [(0, 1, (.c (.v (.string ⟨#[83, 84]⟩)))), (1, 1, (.c (.v (.int .i64 2))))]⟩, ⟨(some 4), none, .build [(.v (.string ⟨#[]⟩)), (.v (.int .i64 0))] [(0, 1, (.c (.v (.string ⟨#[83, 84, 78]⟩)))), (1, 1, (.c (.v (.int .i64 2))))]⟩, ⟨(some 5), none, .build [(.v (.string ⟨#[]⟩)), (.v (.int .i64 0))] [(0, 1, (.c (.v (.string ⟨#[83]⟩)))), (1, 1, (.c (.v (.int .i64 2))))]⟩, ⟨(some 6), none, .build [(.v (.string ⟨#[]⟩)), (.v (.int .i64 0))] [(0, 1, (.c (.v (.string ⟨#[82]⟩)))), (1, 1, (.c (.v (.int .i64 2))))]⟩, ⟨(some 7), none, .build [(.v (.string ⟨#[]⟩)), (.v (.int .i64 0))] [(0, 1, (.c (.v (.string ⟨#[65, 78, 68]⟩)))), (1, 1, (.c (.v (.int .i64 1))))]⟩, ⟨(some 8), none, .build [(.v (.string ⟨#[]⟩)), (.v (.int .i64 0))] [(0, 1, (.c (.v (.string ⟨#[79, 82]⟩)))), (1, 1, (.c (.v (.int .i64 1))))]⟩, ⟨(some 9), none, .build [(.v (.string ⟨#[]⟩)), (.v (.int .i64 0))] [(0, 1, (.c (.v (.string ⟨#[88, 79, 82]⟩)))), (1, 1, (.c (.v (.int .i64 1))))]⟩, ⟨(some 10), none, .build [(.v (.string ⟨#[]⟩)), (.v (.int .i64 0))] [(0, 1, (.c (.v (.string ⟨#[65, 78, 68, 78]⟩)))), (1, 1, (.c (.v (.int .i64 1))))]⟩, ⟨(some 11), none, .build [(.v (.string ⟨#[]⟩)), (.v (.int .i64 0))] [(0, 1, (.c (.v (.string ⟨#[79, 82, 78]⟩)))), (1, 1, (.c (.v (.int .i64 1))))]⟩, ⟨(some 12), none, .build [(.v (.string ⟨#[]⟩)), (.v (.int .i64 0))] [(0, 1, (.c (.v (.string ⟨#[88, 79, 82, 78]⟩)))), (1, 1, (.c (.v (.int .i64 1))))]⟩, ⟨(some 13), none, .build [(.v (.string ⟨#[]⟩)), (.v (.int .i64 0))] [(0, 1, (.c (.v (.string ⟨#[78, 79, 84]⟩)))), (1, 1, (.c (.v (.int .i64 4))))]⟩, ⟨(some 14), none, .build [(.v (.string ⟨#[]⟩)), (.v (.int .i64 0))] [(0, 1, (.c (.v (.string ⟨#[65, 68, 68]⟩)))), (1, 1, (.c (.v (.int .i64 1))))]⟩, ⟨(some 15), none, .build [(.v (.string ⟨#[]⟩)), (.v (.int .i64 0))] [(0, 1, (.c (.v (.string ⟨#[83, 85, 66]⟩)))), (1, 1, (.c (.v (.int .i64 1))))]⟩, ⟨(some 16), none, .build [(.v (.string ⟨#[]⟩)), (.v (.int .i64 0))] [(0, 1, (.c (.v (.string ⟨#[77, 85, 76]⟩)))), (1, 1, (.c (.v (.int .i64 1))))]⟩, ⟨(some 17), none, .build [(.v (.string ⟨#[]⟩)), (.v (.int .i64 0))] [(0, 1, (.c (.v (.string ⟨#[68, 73, 86]⟩)))), (1, 1, (.c (.v (.int .i64 1))))]⟩, ⟨(some 18), none, .build [(.v (.string ⟨#[]⟩)), (.v (.int .i64 0))] [(0, 1, (.c (.v (.string ⟨#[77, 79, 68]⟩)))), (1, 1, (.c (.v (.int .i64 1))))]⟩, ⟨(some 19), none, .build [(.v (.string ⟨#[]⟩)), (.v (.int .i64 0))] [(0, 1, (.c (.v (.string ⟨#[71, 84]⟩)))), (1, 1, (.c (.v (.int .i64 1))))]⟩, ⟨(some 20), none, .build [(.v (.string ⟨#[]⟩)), (.v (.int .i64 0))] [(0, 1, (.c (.v (.string ⟨#[71, 69]⟩)))), (1, 1, (.c (.v (.int .i64 1))))]⟩, ⟨(some 21), none, .build [(.v (.string ⟨#[]⟩)), (.v (.int .i64 0))] [(0, 1, (.c (.v (.string ⟨#[69, 81]⟩)))), (1, 1, (.c (.v (.int .i64 1))))]⟩, ⟨(some 22), none, .build [(.v (.string ⟨#[]⟩)), (.v (.int .i64 0))] [(0, 1, (.c (.v (.string ⟨#[78, 69]⟩)))), (1, 1, (.c (.v (.int .i64 1))))]⟩, ⟨(some 23), none, .build [(.v (.string ⟨#[]⟩)), (.v (.int .i64 0))] [(0, 1, (.c (.v (.string ⟨#[76, 69]⟩)))), (1, 1, (.c (.v (.int .i64 1))))]⟩, ⟨(some 24), none, .build [(.v (.string ⟨#[]⟩)), (.v (.int .i64 0))] [(0, 1, (.c (.v (.string ⟨#[76, 84]⟩)))), (1, 1, (.c (.v (.int .i64 1))))]⟩, ⟨(some 25), none, .build [(.v (.string ⟨#[]⟩)), (.v (.int .i64 0))] [(0, 1, (.c (.v (.string ⟨#[74, 77, 80]⟩)))), (1, 1, (.c (.v (.int .i64 3))))]⟩, ⟨(some 26), none, .build [(.v (.string ⟨#[]⟩)), (.v (.int .i64 0))] [(0, 1, (.c (.v (.string ⟨#[74, 77, 80, 67]⟩)))), (1, 1, (.c (.v (.int .i64 3))))]⟩, ⟨(some 27), none, .build [(.v (.string ⟨#[]⟩)), (.v (.int .i64 0))] [(0, 1, (.c (.v (.string ⟨#[74, 77, 80, 67, 78]⟩)))), (1, 1, (.c (.v (.int .i64 3))))]⟩, ⟨(some 28), none, .build [(.v (.string ⟨#[]⟩)), (.v (.int .i64 0))] [(0, 1, (.c (.v (.string ⟨#[82, 69, 84]⟩)))), (1, 1, (.c (.v (.int .i64 4))))]⟩, ⟨(some 29), none, .build [(.v (.string ⟨#[]⟩)), (.v (.int .i64 0))] [(0, 1, (.c (.v (.string ⟨#[82, 69, 84, 67]⟩)))), (1, 1, (.c (.v (.int .i64 4))))]⟩, ⟨(some 30), none, .build [(.v (.string ⟨#[]⟩)), (.v (.int .i64 0))] [(0, 1, (.c (.v (.string ⟨#[82, 69, 84, 67, 78]⟩)))), (1, 1, (.c (.v (.int .i64 4))))]⟩, ⟨(some 31), none, .build [(.v (.string ⟨#[]⟩)), (.v (.int .i64 0))] [(0, 1, (.c (.v (.string ⟨#[67, 79, 78, 86]⟩)))), (1, 1, (.c (.v (.int .i64 5))))]⟩, ⟨(some 32), none, .build [(.v (.string ⟨#[]⟩)), (.v (.int .i64 0))] [(0, 1, (.c (.v (.string ⟨#[]⟩)))), (1, 1, (.c (.v (.int .i64 6))))]⟩, ⟨(some 33), none, .build [(.v (.string ⟨#[]⟩)), (.v (.int .i64 0))] [(0, 1, (.c (.v (.string ⟨#[]⟩)))), (1, 1, (.c (.v (.int .i64 4))))]⟩, ⟨(some 34), none, .build [(.v (.string ⟨#[]⟩)), (.v (.int .i64 0))] [(0, 1, (.c (.v (.string ⟨#[84, 79, 78]⟩)))), (1, 1, (.c (.v (.int .i64 7))))]⟩, ⟨(some 35), none, .build [(.v (.string ⟨#[]⟩)), (.v (.int .i64 0))] [(0, 1, (.c (.v (.string ⟨#[67, 84, 85]⟩)))), (1, 1, (.c (.v (.int .i64 7))))]⟩, ⟨(some 36), none, .build [(.v (.string ⟨#[]⟩)), (.v (.int .i64 0))] [(0, 1, (.c (.v (.string ⟨#[84, 82, 73, 71]⟩)))), (1, 1, (.c (.v (.int .i64 8))))]⟩, ⟨(some 37), none, .row 2 37 [(.v (.string ⟨#[]⟩)), (.v (.int .i64 0))] [(2, 2, (.t 1)), (4, 2, (.t 2)), (6, 2, (.t 3)), (8, 2, (.t 4)), (10, 2, (.t 5)), (12, 2, (.t 6)), (14, 2, (.t 7)), (16, 2, (.t 8)), (18, 2, (.t 9)), (20, 2, (.t 10)), (22, 2, (.t 11)), (24, 2, (.t 12)), (26, 2, (.t 13)), (28, 2, (.t 14)), (30, 2, (.t 15)), (32, 2, (.t 16)), (34, 2, (.t 17)), (36, 2, (.t 18)), (38, 2, (.t 19)), (40, 2, (.t 20)), (42, 2, (.t 21)), (44, 2, (.t 22)), (46, 2, (.t 23)), (48, 2, (.t 24)), (50, 2, (.t 25)), (52, 2, (.t 26)), (54, 2, (.t 27)), (56, 2, (.t 28)), (58, 2, (.t 29)), (60, 2, (.t 30)), (62, 2, (.t 31)), (64, 2, (.t 32)), (66, 2, (.t 33)), (68, 2, (.t 34)), (70, 2, (.t 35)), (72, 2, (.t 36))]⟩, ⟨(some 0), none, .mv (.t 37)⟩]) (.drop [1, 37]))
  .ret))
def a_il_ops : AFn := ⟨0, b_il_ops, [.t 0], true, false⟩
theorem a_il_ops_ok : compF Try.prog Try.f91 [[0, 0], [1, 37]] true false hv = some a_il_ops := by kernel_rfl

/-! fugleman/il.of: 74 -/
def b_il_of : AC :=
 (.seq (.seq (.reg [⟨(some 2), none, .alloc [(.v (.string ⟨#[]⟩)), (.v (.int .i64 0))]⟩]) (.drop []))
 (.seq (.seq (.reg [⟨(some 4), none, .call (.c (.fn 91 [])) []⟩, ⟨(some 3), none, .mv (.t 4)⟩]) (.drop [4, 4]))
  (.seq (.seq (.seq (.reg [⟨(some 5), none, .mv (.t 0)⟩, ⟨(some 6), none, .bin .lss (.t 5) (.c (.v (.int .i64 0)))⟩, ⟨(some 7), none, .mv (.t 6)⟩, ⟨(some 8), (some (7, false)), .mv (.t 0)⟩, ⟨(some 9), (some (7, false)), .mv (.t 3)⟩, ⟨(some 10), (some (7, false)), .len (.t 9)⟩, ⟨(some 11), (some (7, false)), .bin .geq (.t 8) (.t 10)⟩, ⟨(some 12), none, .pick (.t 7) (.c (.v (.bool true))) (.t 11)⟩]) (.drop [4, 11]))
    (.cond (.t 12) (.seq (.seq (.reg [⟨(some 13), none, .build [(.v (.string ⟨#[]⟩)), (.v (.int .i64 0))] []⟩, ⟨none, none, .store 2 (.t 2) (.t 13)⟩]) (.drop [3, 13]))
      .ret)
     .skip))
   (.seq (.seq (.reg [⟨(some 14), none, .mv (.t 3)⟩, ⟨(some 15), none, .mv (.t 0)⟩, ⟨(some 16), none, .ixs 2 (.t 14) (.t 15)⟩, ⟨(some 17), none, .load (some 2) (.t 16)⟩, ⟨none, none, .store 2 (.t 2) (.t 17)⟩]) (.drop [3, 17]))
    .ret))))
def a_il_of : AFn := ⟨1, b_il_of, [.cell 2 (some 2)], false, false⟩
theorem a_il_of_ok : compF Try.prog Try.f74 [[], [4, 4], [4, 11], [3, 13], [3, 17]] false false hv = some a_il_of := by kernel_rfl

/-! fugleman/iec.kinds: 95 -/
def b_iec_kinds : AC :=
 (.seq (.seq (.reg [⟨(some 0), none, .mv (.c (.v (.slice none 0 0)))⟩]) (.drop [0, 0]))
 (.seq (.seq (.reg [⟨(some 1), none, .build [(.v (.string ⟨#[]⟩)), (.v (.int .i64 0)), (.v (.bool false)), (.v (.bool false))] [(0, 1, (.c (.v (.string ⟨#[66, 79, 79, 76]⟩)))), (1, 1, (.c (.v (.int .i64 1)))), (2, 1, (.c (.v (.bool false)))), (3, 1, (.c (.v (.bool true))))]⟩, ⟨(some 2), none, .build [(.v (.string ⟨#[]⟩)), (.v (.int .i64 0)), (.v (.bool false)), (.v (.bool false))] [(0, 1, (.c (.v (.string ⟨#[83, 73, 78, 84]⟩)))), (1, 1, (.c (.v (.int .i64 1)))), (2, 1, (.c (.v (.bool true)))), (3, 1, (.c (.v (.bool false))))]⟩, ⟨(some 3), none, .build [(.v (.string ⟨#[]⟩)), (.v (.int .i64 0)), (.v (.bool false)), (.v (.bool false))] [(0, 1, (.c (.v (.string ⟨#[73, 78, 84]⟩)))), (1, 1, (.c (.v (.int .i64 2)))), (2, 1, (.c (.v (.bool true)))), (3, 1, (.c (.v (.bool false))))]⟩, ⟨(some 4), none, .build [(.v (.string ⟨#[]⟩)), (.v (.int .i64 0)), (.v (.bool false)), (.v (.bool false))] [(0, 1, (.c (.v (.string ⟨#[68, 73, 78, 84]⟩)))), (1, 1, (.c (.v (.int .i64 4)))), (2, 1, (.c (.v (.bool true)))), (3, 1, (.c (.v (.bool false))))]⟩, ⟨(some 5), none, .build [(.v (.string ⟨#[]⟩)), (.v (.int .i64 0)), (.v (.bool false)), (.v (.bool false))] [(0, 1, (.c (.v (.string ⟨#[85, 73, 78, 84]⟩)))), (1, 1, (.c (.v (.int .i64 2)))), (2, 1, (.c (.v (.bool false)))), (3, 1, (.c (.v (.bool false))))]⟩, ⟨(some 6), none, .build [(.v (.string ⟨#[]⟩)), (.v (.int .i64 0)), (.v (.bool false)), (.v (.bool false))] [(0, 1, (.c (.v (.string ⟨#[87, 79, 82, 68]⟩)))), (1, 1, (.c (.v (.int .i64 2)))), (2, 1, (.c (.v (.bool false)))), (3, 1, (.c (.v (.bool true))))]⟩, ⟨(some 7), none, .build [(.v (.string ⟨#[]⟩)), (.v (.int .i64 0)), (.v (.bool false)), (.v (.bool false))] [(0, 1, (.c (.v (.string ⟨#[68, 87, 79, 82, 68]⟩)))), (1, 1, (.c (.v (.int .i64 4)))), (2, 1, (.c (.v (.bool false)))), (3, 1, (.c (.v (.bool true))))]⟩, ⟨(some 8), none, .row 4 8 [(.v (.string ⟨#[]⟩)), (.v (.int .i64 0)), (.v (.bool false)), (.v (.bool false))] [(4, 4, (.t 1)), (8, 4, (.t 2)), (12, 4, (.t 3)), (16, 4, (.t 4)), (20, 4, (.t 5)), (24, 4, (.t 6)), (28, 4, (.t 7))]⟩, ⟨(some 0), none, .mv (.t 8)⟩]) (.drop [1, 8]))
  .ret))
def a_iec_kinds : AFn := ⟨0, b_iec_kinds, [.t 0], true, false⟩
theorem a_iec_kinds_ok : compF Try.prog Try.f95 [[0, 0], [1, 8]] true false hv = some a_iec_kinds := by kernel_rfl

/-! fugleman/iec.of: 92 -/
def b_iec_of : AC :=
 (.seq (.seq (.reg [⟨(some 2), none, .alloc [(.v (.string ⟨#[]⟩)), (.v (.int .i64 0)), (.v (.bool false)), (.v (.bool false))]⟩, ⟨(some 3), none, .mv (.c (.v (.bool false)))⟩]) (.drop [3, 3]))
 (.seq (.seq (.seq (.reg [⟨(some 4), none, .mv (.t 0)⟩, ⟨(some 5), none, .bin .lss (.t 4) (.c (.v (.int .i64 1)))⟩, ⟨(some 6), none, .mv (.t 5)⟩, ⟨(some 7), (some (6, false)), .mv (.t 0)⟩, ⟨(some 8), (some (6, false)), .bin .gtr (.t 7) (.c (.v (.int .i64 7)))⟩, ⟨(some 9), none, .pick (.t 6) (.c (.v (.bool true))) (.t 8)⟩]) (.drop [3, 8]))
   (.cond (.t 9) (.seq (.seq (.reg [⟨(some 10), none, .build [(.v (.string ⟨#[]⟩)), (.v (.int .i64 0)), (.v (.bool false)), (.v (.bool false))] []⟩, ⟨none, none, .store 4 (.t 2) (.t 10)⟩, ⟨(some 3), none, .mv (.c (.v (.bool false)))⟩]) (.drop [4, 10]))
     .ret)
    .skip))
  (.seq (.seq (.reg [⟨(some 11), none, .call (.c (.fn 95 [])) []⟩, ⟨(some 12), none, .mv (.t 0)⟩, ⟨(some 13), none, .ixs 4 (.t 11) (.t 12)⟩, ⟨(some 14), none, .load (some 4) (.t 13)⟩, ⟨none, none, .store 4 (.t 2) (.t 14)⟩, ⟨(some 3), none, .mv (.c (.v (.bool true)))⟩]) (.drop [4, 14]))
   .ret)))
def a_iec_of : AFn := ⟨1, b_iec_of, [.cell 2 (some 4), .t 3], false, false⟩
theorem a_iec_of_ok : compF Try.prog Try.f92 [[3, 3], [3, 8], [4, 10], [4, 14]] false false hv = some a_iec_of := by kernel_rfl

/-! fugleman/iec.Wrap: 93 -/
def c_iec_Wrap_0 : AC :=
 (.seq (.seq (.reg [⟨(some 63), none, .fad 1 (.t 5)⟩, ⟨(some 64), none, .load none (.t 63)⟩, ⟨(some 65), none, .bin .eql (.t 64) (.c (.v (.int .i64 4)))⟩, ⟨(some 62), none, .mv (.t 65)⟩]) (.drop [63, 65]))
                 (.cond (.t 62) (.seq (.seq (.reg [⟨(some 66), none, .mv (.t 1)⟩, ⟨(some 67), none, .cvi .u32 (.t 66)⟩, ⟨(some 68), none, .cvi .i64 (.t 67)⟩, ⟨(some 4), none, .mv (.t 68)⟩]) (.drop [5, 68]))
                   .ret)
                  .skip))
theorem g_iec_Wrap_0 {C : CT} {lf : Nat} {ks : List It} {s : St} : type_of% (@Sym.go_as C lf ks s _ _ c_iec_Wrap_0.eq_1) := Sym.go_as c_iec_Wrap_0.eq_1
def c_iec_Wrap_1 : AC :=
 (.seq (.seq (.reg [⟨(some 56), none, .fad 1 (.t 5)⟩, ⟨(some 57), none, .load none (.t 56)⟩, ⟨(some 58), none, .bin .eql (.t 57) (.c (.v (.int .i64 2)))⟩, ⟨(some 55), none, .mv (.t 58)⟩]) (.drop [56, 58]))
               (.cond (.t 55) (.seq (.seq (.reg [⟨(some 59), none, .mv (.t 1)⟩, ⟨(some 60), none, .cvi .u16 (.t 59)⟩, ⟨(some 61), none, .cvi .i64 (.t 60)⟩, ⟨(some 4), none, .mv (.t 61)⟩]) (.drop [5, 61]))
                 .ret)
                c_iec_Wrap_0))
theorem g_iec_Wrap_1 {C : CT} {lf : Nat} {ks : List It} {s : St} : type_of% (@Sym.go_as C lf ks s _ _ c_iec_Wrap_1.eq_1) := Sym.go_as c_iec_Wrap_1.eq_1
def c_iec_Wrap_2 : AC :=
 (.seq (.seq (.reg [⟨(some 45), none, .fad 1 (.t 5)⟩, ⟨(some 46), none, .load none (.t 45)⟩, ⟨(some 47), none, .bin .eql (.t 46) (.c (.v (.int .i64 4)))⟩, ⟨(some 48), none, .mv (.t 47)⟩, ⟨(some 49), (some (48, true)), .fad 2 (.t 5)⟩, ⟨(some 50), (some (48, true)), .load none (.t 49)⟩, ⟨(some 51), none, .pick (.t 48) (.t 50) (.c (.v (.bool false)))⟩, ⟨(some 44), none, .mv (.t 51)⟩]) (.drop [45, 51]))
             (.cond (.t 44) (.seq (.seq (.reg [⟨(some 52), none, .mv (.t 1)⟩, ⟨(some 53), none, .cvi .i32 (.t 52)⟩, ⟨(some 54), none, .cvi .i64 (.t 53)⟩, ⟨(some 4), none, .mv (.t 54)⟩]) (.drop [5, 54]))
               .ret)
              c_iec_Wrap_1))
theorem g_iec_Wrap_2 {C : CT} {lf : Nat} {ks : List It} {s : St} : type_of% (@Sym.go_as C lf ks s _ _ c_iec_Wrap_2.eq_1) := Sym.go_as c_iec_Wrap_2.eq_1
def c_iec_Wrap_3 : AC :=
 (.seq (.seq (.reg [⟨(some 34), none, .fad 1 (.t 5)⟩, ⟨(some 35), none, .load none (.t 34)⟩, ⟨(some 36), none, .bin .eql (.t 35) (.c (.v (.int .i64 2)))⟩, ⟨(some 37), none, .mv (.t 36)⟩, ⟨(some 38), (some (37, true)), .fad 2 (.t 5)⟩, ⟨(some 39), (some (37, true)), .load none (.t 38)⟩, ⟨(some 40), none, .pick (.t 37) (.t 39) (.c (.v (.bool false)))⟩, ⟨(some 33), none, .mv (.t 40)⟩]) (.drop [34, 40]))
           (.cond (.t 33) (.seq (.seq (.reg [⟨(some 41), none, .mv (.t 1)⟩, ⟨(some 42), none, .cvi .i16 (.t 41)⟩, ⟨(some 43), none, .cvi .i64 (.t 42)⟩, ⟨(some 4), none, .mv (.t 43)⟩]) (.drop [5, 43]))
             .ret)
            c_iec_Wrap_2))
theorem g_iec_Wrap_3 {C : CT} {lf : Nat} {ks : List It} {s : St} : type_of% (@Sym.go_as C lf ks s _ _ c_iec_Wrap_3.eq_1) := Sym.go_as c_iec_Wrap_3.eq_1
def c_iec_Wrap_4 : AC :=
 (.seq (.seq (.reg [⟨(some 23), none, .fad 1 (.t 5)⟩, ⟨(some 24), none, .load none (.t 23)⟩, ⟨(some 25), none, .bin .eql (.t 24) (.c (.v (.int .i64 1)))⟩, ⟨(some 26), none, .mv (.t 25)⟩, ⟨(some 27), (some (26, true)), .fad 2 (.t 5)⟩, ⟨(some 28), (some (26, true)), .load none (.t 27)⟩, ⟨(some 29), none, .pick (.t 26) (.t 28) (.c (.v (.bool false)))⟩, ⟨(some 22), none, .mv (.t 29)⟩]) (.drop [23, 29]))
         (.cond (.t 22) (.seq (.seq (.reg [⟨(some 30), none, .mv (.t 1)⟩, ⟨(some 31), none, .cvi .i8 (.t 30)⟩, ⟨(some 32), none, .cvi .i64 (.t 31)⟩, ⟨(some 4), none, .mv (.t 32)⟩]) (.drop [5, 32]))
           .ret)
          c_iec_Wrap_3))
theorem g_iec_Wrap_4 {C : CT} {lf : Nat} {ks : List It} {s : St} : type_of% (@Sym.go_as C lf ks s _ _ c_iec_Wrap_4.eq_1) := Sym.go_as c_iec_Wrap_4.eq_1
def c_iec_Wrap_5 : AC :=
 (.seq (.seq (.reg [⟨(some 16), none, .mv (.t 0)⟩, ⟨(some 17), none, .bin .eql (.t 16) (.c (.v (.int .i64 1)))⟩, ⟨(some 18), none, .mv (.t 17)⟩, ⟨(some 19), (some (18, true)), .mv (.t 1)⟩, ⟨(some 20), (some (18, true)), .bin .neq (.t 19) (.c (.v (.int .i64 0)))⟩, ⟨(some 21), none, .pick (.t 18) (.t 20) (.c (.v (.bool false)))⟩, ⟨(some 15), none, .mv (.t 21)⟩]) (.drop [16, 21]))
       (.cond (.t 15) (.seq (.seq (.reg [⟨(some 4), none, .mv (.c (.v (.int .i64 1)))⟩]) (.drop []))
         .ret)
        c_iec_Wrap_4))
theorem g_iec_Wrap_5 {C : CT} {lf : Nat} {ks : List It} {s : St} : type_of% (@Sym.go_as C lf ks s _ _ c_iec_Wrap_5.eq_1) := Sym.go_as c_iec_Wrap_5.eq_1
theorem gs_iec_Wrap : type_of% (And.intro (And.intro (@g_iec_Wrap_0) (And.intro (@g_iec_Wrap_1) (@g_iec_Wrap_2))) (And.intro (@g_iec_Wrap_3) (And.intro (@g_iec_Wrap_4) (@g_iec_Wrap_5)))) := (And.intro (And.intro (@g_iec_Wrap_0) (And.intro (@g_iec_Wrap_1) (@g_iec_Wrap_2))) (And.intro (@g_iec_Wrap_3) (And.intro (@g_iec_Wrap_4) (@g_iec_Wrap_5))))
def b_iec_Wrap : AC :=
 (.seq (.seq (.reg [⟨(some 4), none, .mv (.c (.v (.int .i64 0)))⟩]) (.drop [2, 4]))
 (.seq (.seq (.reg [⟨(some 8), none, .mv (.t 0)⟩, ⟨(some 9), none, .call (.c (.fn 92 [])) [(.t 8)]⟩, ⟨(some 7), none, .mv (.t 9)⟩, ⟨(some 10), none, .ext 0 (.t 7)⟩, ⟨(some 11), none, .ext 1 (.t 7)⟩, ⟨(some 5), none, .alloc [(.v (.string ⟨#[]⟩)), (.v (.int .i64 0)), (.v (.bool false)), (.v (.bool false))]⟩, ⟨none, none, .store 4 (.t 5) (.t 10)⟩, ⟨(some 6), none, .mv (.t 11)⟩]) (.drop [7, 11]))
  (.seq (.block 0 (.seq (.seq (.reg [⟨(some 13), none, .mv (.t 6)⟩, ⟨(some 14), none, .un .not (.t 13)⟩, ⟨(some 12), none, .mv (.t 14)⟩]) (.drop [13, 14]))
     (.cond (.t 12) (.seq (.seq (.reg [⟨(some 4), none, .mv (.c (.v (.int .i64 0)))⟩]) (.drop []))
       .ret)
      c_iec_Wrap_5)))
   (.seq (.seq (.reg [⟨(some 4), none, .mv (.c (.v (.int .i64 0)))⟩]) (.drop []))
    .ret))))
def a_iec_Wrap : AFn := ⟨2, b_iec_Wrap, [.t 4], false, false⟩
theorem a_iec_Wrap_ok : compF Try.prog Try.f93 [[2, 4], [7, 11], [13, 14], [], [16, 21], [], [23, 29], [5, 32], [34, 40], [5, 43], [45, 51], [5, 54], [56, 58], [5, 61], [63, 65], [5, 68], []] false false hv = some a_iec_Wrap := by kernel_rfl

/-! fugleman/iec.Is: 75 -/
def b_iec_Is : AC :=
 (.seq (.seq (.reg [⟨(some 4), none, .mv (.c (.v (.bool false)))⟩]) (.drop [2, 4]))
 (.seq (.seq (.reg [⟨(some 8), none, .mv (.t 0)⟩, ⟨(some 9), none, .call (.c (.fn 92 [])) [(.t 8)]⟩, ⟨(some 7), none, .mv (.t 9)⟩, ⟨(some 10), none, .ext 0 (.t 7)⟩, ⟨(some 11), none, .ext 1 (.t 7)⟩, ⟨(some 5), none, .alloc [(.v (.string ⟨#[]⟩)), (.v (.int .i64 0)), (.v (.bool false)), (.v (.bool false))]⟩, ⟨none, none, .store 4 (.t 5) (.t 10)⟩, ⟨(some 6), none, .mv (.t 11)⟩]) (.drop [2, 5, 7, 11]))
  (.seq (.seq (.reg [⟨(some 12), none, .mv (.t 6)⟩, ⟨(some 13), none, .mv (.t 12)⟩, ⟨(some 14), (some (13, true)), .mv (.t 0)⟩, ⟨(some 15), (some (13, true)), .mv (.t 1)⟩, ⟨(some 16), (some (13, true)), .call (.c (.fn 93 [])) [(.t 14), (.t 15)]⟩, ⟨(some 17), (some (13, true)), .mv (.t 1)⟩, ⟨(some 18), (some (13, true)), .bin .eql (.t 16) (.t 17)⟩, ⟨(some 19), none, .pick (.t 13) (.t 18) (.c (.v (.bool false)))⟩, ⟨(some 4), none, .mv (.t 19)⟩]) (.drop [5, 19]))
   .ret)))
def a_iec_Is : AFn := ⟨2, b_iec_Is, [.t 4], false, false⟩
theorem a_iec_Is_ok : compF Try.prog Try.f75 [[2, 4], [2, 5, 7, 11], [5, 19]] false false hv = some a_iec_Is := by kernel_rfl

/-! fugleman/iec.Size: 77 -/
def b_iec_Size : AC :=
 (.seq (.seq (.reg [⟨(some 2), none, .mv (.c (.v (.int .i64 0)))⟩]) (.drop [1, 2]))
 (.seq (.seq (.reg [⟨(some 6), none, .mv (.t 0)⟩, ⟨(some 7), none, .call (.c (.fn 92 [])) [(.t 6)]⟩, ⟨(some 5), none, .mv (.t 7)⟩, ⟨(some 8), none, .ext 0 (.t 5)⟩, ⟨(some 9), none, .ext 1 (.t 5)⟩, ⟨(some 3), none, .alloc [(.v (.string ⟨#[]⟩)), (.v (.int .i64 0)), (.v (.bool false)), (.v (.bool false))]⟩, ⟨none, none, .store 4 (.t 3) (.t 8)⟩, ⟨(some 4), none, .mv (.t 9)⟩]) (.drop [4, 9]))
  (.seq (.seq (.reg [⟨(some 10), none, .fad 1 (.t 3)⟩, ⟨(some 11), none, .load none (.t 10)⟩, ⟨(some 2), none, .mv (.t 11)⟩]) (.drop [3, 11]))
   .ret)))
def a_iec_Size : AFn := ⟨1, b_iec_Size, [.t 2], false, false⟩
theorem a_iec_Size_ok : compF Try.prog Try.f77 [[1, 2], [4, 9], [3, 11]] false false hv = some a_iec_Size := by kernel_rfl

/-! fugleman/il.stands: 76 -/
def b_il_stands : AC :=
 (.seq (.seq (.reg [⟨(some 2), none, .box (.t 0)⟩, ⟨(some 4), none, .mv (.c (.v (.bool false)))⟩]) (.drop [3, 4]))
 (.seq (.seq (.reg [⟨(some 6), none, .fad 1 (.t 2)⟩, ⟨(some 7), none, .load none (.t 6)⟩, ⟨(some 8), none, .call (.c (.fn 77 [])) [(.t 7)]⟩, ⟨(some 5), none, .mv (.t 8)⟩]) (.drop [6, 8]))
  (.seq (.seq (.reg [⟨(some 9), none, .mv (.t 5)⟩, ⟨(some 10), none, .bin .gtr (.t 9) (.c (.v (.int .i64 0)))⟩, ⟨(some 11), none, .mv (.t 10)⟩, ⟨(some 12), (some (11, true)), .fad 2 (.t 2)⟩, ⟨(some 13), (some (11, true)), .load none (.t 12)⟩, ⟨(some 14), (some (11, true)), .mv (.t 1)⟩, ⟨(some 15), (some (11, true)), .bin .geq (.t 13) (.t 14)⟩, ⟨(some 16), none, .pick (.t 11) (.t 15) (.c (.v (.bool false)))⟩, ⟨(some 17), none, .mv (.t 16)⟩, ⟨(some 18), (some (17, true)), .fad 2 (.t 2)⟩, ⟨(some 19), (some (17, true)), .load none (.t 18)⟩, ⟨(some 20), (some (17, true)), .bin .leq (.t 19) (.c (.v (.int .i64 4)))⟩, ⟨(some 21), none, .pick (.t 17) (.t 20) (.c (.v (.bool false)))⟩, ⟨(some 22), none, .mv (.t 21)⟩, ⟨(some 23), (some (22, true)), .fad 3 (.t 2)⟩, ⟨(some 24), (some (22, true)), .load none (.t 23)⟩, ⟨(some 25), (some (22, true)), .bin .geq (.t 24) (.c (.v (.int .i64 0)))⟩, ⟨(some 26), none, .pick (.t 22) (.t 25) (.c (.v (.bool false)))⟩, ⟨(some 27), none, .mv (.t 26)⟩, ⟨(some 28), (some (27, true)), .fad 3 (.t 2)⟩, ⟨(some 29), (some (27, true)), .load none (.t 28)⟩, ⟨(some 30), (some (27, true)), .mv (.t 5)⟩, ⟨(some 31), (some (27, true)), .bin .sub (.c (.v (.int .i64 64))) (.t 30)⟩, ⟨(some 32), (some (27, true)), .bin .leq (.t 29) (.t 31)⟩, ⟨(some 33), none, .pick (.t 27) (.t 32) (.c (.v (.bool false)))⟩, ⟨(some 34), none, .mv (.t 33)⟩, ⟨(some 35), (some (34, true)), .fad 4 (.t 2)⟩, ⟨(some 36), (some (34, true)), .load none (.t 35)⟩, ⟨(some 37), (some (34, true)), .bin .eql (.t 36) (.c (.v (.int .i64 0)))⟩, ⟨(some 38), none, .pick (.t 34) (.t 37) (.c (.v (.bool false)))⟩, ⟨(some 4), none, .mv (.t 38)⟩]) (.drop [5, 38]))
   .ret)))
def a_il_stands : AFn := ⟨2, b_il_stands, [.t 4], false, false⟩
theorem a_il_stands_ok : compF Try.prog Try.f76 [[3, 4], [6, 8], [5, 38]] false false hv = some a_il_stands := by kernel_rfl

/-! fugleman/il.within: 78 -/
def b_il_within : AC :=
 (.seq (.seq (.reg [⟨(some 2), none, .mv (.c (.v (.bool false)))⟩]) (.drop [1, 2]))
 (.seq (.seq (.reg [⟨(some 3), none, .mv (.t 0)⟩, ⟨(some 4), none, .call (.c (.fn 74 [])) [(.t 3)]⟩, ⟨(some 5), none, .fld 1 none (.t 4)⟩, ⟨(some 6), none, .bin .eql (.t 5) (.c (.v (.int .i64 1)))⟩, ⟨(some 7), none, .mv (.t 6)⟩, ⟨(some 8), (some (7, true)), .mv (.t 0)⟩, ⟨(some 9), (some (7, true)), .bin .geq (.t 8) (.c (.v (.int .i64 7)))⟩, ⟨(some 10), none, .pick (.t 7) (.t 9) (.c (.v (.bool false)))⟩, ⟨(some 2), none, .mv (.t 10)⟩]) (.drop [3, 10]))
  .ret))
def a_il_within : AFn := ⟨1, b_il_within, [.t 2], false, false⟩
theorem a_il_within_ok : compF Try.prog Try.f78 [[1, 2], [3, 10]] false false hv = some a_il_within := by kernel_rfl

/-! fugleman/il.keeps: 79 -/
def b_il_keeps : AC :=
 (.seq (.seq (.reg [⟨(some 2), none, .mv (.c (.v (.bool false)))⟩]) (.drop [1, 2]))
 (.seq (.seq (.reg [⟨(some 3), none, .mv (.t 0)⟩, ⟨(some 4), none, .bin .eql (.t 3) (.c (.v (.int .i64 3)))⟩, ⟨(some 5), none, .mv (.t 4)⟩, ⟨(some 6), (some (5, false)), .mv (.t 0)⟩, ⟨(some 7), (some (5, false)), .bin .eql (.t 6) (.c (.v (.int .i64 4)))⟩, ⟨(some 8), none, .pick (.t 5) (.c (.v (.bool true))) (.t 7)⟩, ⟨(some 2), none, .mv (.t 8)⟩]) (.drop [3, 8]))
  .ret))
def a_il_keeps : AFn := ⟨1, b_il_keeps, [.t 2], false, false⟩
theorem a_il_keeps_ok : compF Try.prog Try.f79 [[1, 2], [3, 8]] false false hv = some a_il_keeps := by kernel_rfl

/-! fugleman/il.Right: 60 -/
def c_il_Right_0 : AC :=
 (.seq (.seq (.reg [⟨(some 23), none, .fad 3 (.t 1)⟩, ⟨(some 24), none, .load none (.t 23)⟩, ⟨(some 25), none, .bin .eql (.t 24) (.c (.v (.int .i64 0)))⟩, ⟨(some 26), none, .mv (.t 25)⟩, ⟨(some 27), (some (26, true)), .fad 1 (.t 1)⟩, ⟨(some 28), (some (26, true)), .load none (.t 27)⟩, ⟨(some 29), (some (26, true)), .fad 4 (.t 1)⟩, ⟨(some 30), (some (26, true)), .load none (.t 29)⟩, ⟨(some 31), (some (26, true)), .call (.c (.fn 75 [])) [(.t 28), (.t 30)]⟩, ⟨(some 32), none, .pick (.t 26) (.t 31) (.c (.v (.bool false)))⟩, ⟨(some 2), none, .mv (.t 32)⟩]) (.drop [3, 32]))
            .ret)
theorem g_il_Right_0 {C : CT} {lf : Nat} {ks : List It} {s : St} : type_of% (@Sym.go_as C lf ks s _ _ c_il_Right_0.eq_1) := Sym.go_as c_il_Right_0.eq_1
def c_il_Right_1 : AC :=
 (.seq (.seq (.seq (.reg [⟨(some 20), none, .fad 2 (.t 1)⟩, ⟨(some 21), none, .load none (.t 20)⟩, ⟨(some 22), none, .bin .eql (.t 21) (.c (.v (.int .i64 0)))⟩]) (.drop [2, 21]))
          (.cond (.t 22) c_il_Right_0
           .skip))
         (.seq (.seq (.reg [⟨(some 33), none, .load (some 5) (.t 1)⟩, ⟨(some 34), none, .call (.c (.fn 76 [])) [(.t 33), (.c (.v (.int .i64 1)))]⟩, ⟨(some 2), none, .mv (.t 34)⟩]) (.drop [3, 34]))
          .ret))
theorem g_il_Right_1 {C : CT} {lf : Nat} {ks : List It} {s : St} : type_of% (@Sym.go_as C lf ks s _ _ c_il_Right_1.eq_1) := Sym.go_as c_il_Right_1.eq_1
def c_il_Right_2 : AC :=
 (.seq (.seq (.reg [⟨(some 41), none, .mv (.t 4)⟩, ⟨(some 42), none, .mv (.t 41)⟩, ⟨(some 43), (some (42, true)), .fad 1 (.t 1)⟩, ⟨(some 44), (some (42, true)), .load none (.t 43)⟩, ⟨(some 45), (some (42, true)), .bin .eql (.t 44) (.c (.v (.int .i64 0)))⟩, ⟨(some 46), none, .pick (.t 42) (.t 45) (.c (.v (.bool false)))⟩, ⟨(some 47), none, .mv (.t 46)⟩, ⟨(some 48), (some (47, true)), .fad 3 (.t 1)⟩, ⟨(some 49), (some (47, true)), .load none (.t 48)⟩, ⟨(some 50), (some (47, true)), .bin .geq (.t 49) (.c (.v (.int .i64 0)))⟩, ⟨(some 51), none, .pick (.t 47) (.t 50) (.c (.v (.bool false)))⟩, ⟨(some 52), none, .mv (.t 51)⟩, ⟨(some 53), (some (52, true)), .fad 3 (.t 1)⟩, ⟨(some 54), (some (52, true)), .load none (.t 53)⟩, ⟨(some 55), (some (52, true)), .bin .leq (.t 54) (.c (.v (.int .i64 200)))⟩, ⟨(some 56), none, .pick (.t 52) (.t 55) (.c (.v (.bool false)))⟩, ⟨(some 2), none, .mv (.t 56)⟩]) (.drop [3, 56]))
             .ret)
theorem g_il_Right_2 {C : CT} {lf : Nat} {ks : List It} {s : St} : type_of% (@Sym.go_as C lf ks s _ _ c_il_Right_2.eq_1) := Sym.go_as c_il_Right_2.eq_1
def c_il_Right_3 : AC :=
 (.seq (.seq (.reg [⟨(some 59), none, .mv (.t 4)⟩, ⟨(some 60), none, .mv (.t 59)⟩, ⟨(some 61), (some (60, true)), .fad 1 (.t 1)⟩, ⟨(some 62), (some (60, true)), .load none (.t 61)⟩, ⟨(some 63), (some (60, true)), .bin .eql (.t 62) (.c (.v (.int .i64 0)))⟩, ⟨(some 64), none, .pick (.t 60) (.t 63) (.c (.v (.bool false)))⟩, ⟨(some 65), none, .mv (.t 64)⟩, ⟨(some 66), (some (65, true)), .fad 3 (.t 1)⟩, ⟨(some 67), (some (65, true)), .load none (.t 66)⟩, ⟨(some 68), (some (65, true)), .bin .eql (.t 67) (.c (.v (.int .i64 0)))⟩, ⟨(some 69), none, .pick (.t 65) (.t 68) (.c (.v (.bool false)))⟩, ⟨(some 2), none, .mv (.t 69)⟩]) (.drop [3, 69]))
               .ret)
theorem g_il_Right_3 {C : CT} {lf : Nat} {ks : List It} {s : St} : type_of% (@Sym.go_as C lf ks s _ _ c_il_Right_3.eq_1) := Sym.go_as c_il_Right_3.eq_1
def c_il_Right_4 : AC :=
 (.seq (.seq (.reg [⟨(some 72), none, .mv (.t 4)⟩, ⟨(some 73), none, .mv (.t 72)⟩, ⟨(some 74), (some (73, true)), .fad 3 (.t 1)⟩, ⟨(some 75), (some (73, true)), .load none (.t 74)⟩, ⟨(some 76), (some (73, true)), .bin .eql (.t 75) (.c (.v (.int .i64 0)))⟩, ⟨(some 77), none, .pick (.t 73) (.t 76) (.c (.v (.bool false)))⟩, ⟨(some 78), none, .mv (.t 77)⟩, ⟨(some 79), (some (78, true)), .fad 1 (.t 1)⟩, ⟨(some 80), (some (78, true)), .load none (.t 79)⟩, ⟨(some 81), (some (78, true)), .call (.c (.fn 77 [])) [(.t 80)]⟩, ⟨(some 82), (some (78, true)), .bin .gtr (.t 81) (.c (.v (.int .i64 0)))⟩, ⟨(some 83), none, .pick (.t 78) (.t 82) (.c (.v (.bool false)))⟩, ⟨(some 2), none, .mv (.t 83)⟩]) (.drop [3, 83]))
                 .ret)
theorem g_il_Right_4 {C : CT} {lf : Nat} {ks : List It} {s : St} : type_of% (@Sym.go_as C lf ks s _ _ c_il_Right_4.eq_1) := Sym.go_as c_il_Right_4.eq_1
def c_il_Right_5 : AC :=
 (.seq (.seq (.reg [⟨(some 86), none, .mv (.t 4)⟩, ⟨(some 87), none, .mv (.t 86)⟩, ⟨(some 88), (some (87, true)), .fad 1 (.t 1)⟩, ⟨(some 89), (some (87, true)), .load none (.t 88)⟩, ⟨(some 90), (some (87, true)), .bin .eql (.t 89) (.c (.v (.int .i64 0)))⟩, ⟨(some 91), none, .pick (.t 87) (.t 90) (.c (.v (.bool false)))⟩, ⟨(some 92), none, .mv (.t 91)⟩, ⟨(some 93), (some (92, true)), .fad 3 (.t 1)⟩, ⟨(some 94), (some (92, true)), .load none (.t 93)⟩, ⟨(some 95), (some (92, true)), .call (.c (.fn 78 [])) [(.t 94)]⟩, ⟨(some 96), none, .pick (.t 92) (.t 95) (.c (.v (.bool false)))⟩, ⟨(some 2), none, .mv (.t 96)⟩]) (.drop [3, 96]))
                   .ret)
theorem g_il_Right_5 {C : CT} {lf : Nat} {ks : List It} {s : St} : type_of% (@Sym.go_as C lf ks s _ _ c_il_Right_5.eq_1) := Sym.go_as c_il_Right_5.eq_1
def c_il_Right_6 : AC :=
 (.seq (.seq (.reg [⟨(some 99), none, .fad 1 (.t 1)⟩, ⟨(some 100), none, .load none (.t 99)⟩, ⟨(some 101), none, .bin .eql (.t 100) (.c (.v (.int .i64 0)))⟩, ⟨(some 102), none, .mv (.t 101)⟩, ⟨(some 103), (some (102, true)), .fad 2 (.t 1)⟩, ⟨(some 104), (some (102, true)), .load none (.t 103)⟩, ⟨(some 105), (some (102, true)), .call (.c (.fn 79 [])) [(.t 104)]⟩, ⟨(some 106), none, .pick (.t 102) (.t 105) (.c (.v (.bool false)))⟩, ⟨(some 107), none, .mv (.t 106)⟩, ⟨(some 108), (some (107, true)), .fad 3 (.t 1)⟩, ⟨(some 109), (some (107, true)), .load none (.t 108)⟩, ⟨(some 110), (some (107, true)), .bin .geq (.t 109) (.c (.v (.int .i64 0)))⟩, ⟨(some 111), none, .pick (.t 107) (.t 110) (.c (.v (.bool false)))⟩, ⟨(some 112), none, .mv (.t 111)⟩, ⟨(some 113), (some (112, true)), .fad 3 (.t 1)⟩, ⟨(some 114), (some (112, true)), .load none (.t 113)⟩, ⟨(some 115), (some (112, true)), .bin .leq (.t 114) (.c (.v (.int .i64 59)))⟩, ⟨(some 116), none, .pick (.t 112) (.t 115) (.c (.v (.bool false)))⟩, ⟨(some 117), none, .mv (.t 116)⟩, ⟨(some 118), (some (117, true)), .fad 4 (.t 1)⟩, ⟨(some 119), (some (117, true)), .load none (.t 118)⟩, ⟨(some 120), (some (117, true)), .bin .geq (.t 119) (.c (.v (.int .i64 1)))⟩, ⟨(some 121), none, .pick (.t 117) (.t 120) (.c (.v (.bool false)))⟩, ⟨(some 122), none, .mv (.t 121)⟩, ⟨(some 123), (some (122, true)), .fad 4 (.t 1)⟩, ⟨(some 124), (some (122, true)), .load none (.t 123)⟩, ⟨(some 125), (some (122, true)), .bin .leq (.t 124) (.c (.v (.int .i64 9999)))⟩, ⟨(some 126), none, .pick (.t 122) (.t 125) (.c (.v (.bool false)))⟩, ⟨(some 2), none, .mv (.t 126)⟩]) (.drop [3, 126]))
                     .ret)
theorem g_il_Right_6 {C : CT} {lf : Nat} {ks : List It} {s : St} : type_of% (@Sym.go_as C lf ks s _ _ c_il_Right_6.eq_1) := Sym.go_as c_il_Right_6.eq_1
def c_il_Right_7 : AC :=
 (.seq (.seq (.reg [⟨(some 129), none, .fad 1 (.t 1)⟩, ⟨(some 130), none, .load none (.t 129)⟩, ⟨(some 131), none, .bin .eql (.t 130) (.c (.v (.int .i64 0)))⟩, ⟨(some 132), none, .mv (.t 131)⟩, ⟨(some 133), (some (132, true)), .fad 2 (.t 1)⟩, ⟨(some 134), (some (132, true)), .load none (.t 133)⟩, ⟨(some 135), (some (132, true)), .call (.c (.fn 79 [])) [(.t 134)]⟩, ⟨(some 136), none, .pick (.t 132) (.t 135) (.c (.v (.bool false)))⟩, ⟨(some 137), none, .mv (.t 136)⟩, ⟨(some 138), (some (137, true)), .fad 3 (.t 1)⟩, ⟨(some 139), (some (137, true)), .load none (.t 138)⟩, ⟨(some 140), (some (137, true)), .bin .geq (.t 139) (.c (.v (.int .i64 0)))⟩, ⟨(some 141), none, .pick (.t 137) (.t 140) (.c (.v (.bool false)))⟩, ⟨(some 142), none, .mv (.t 141)⟩, ⟨(some 143), (some (142, true)), .fad 3 (.t 1)⟩, ⟨(some 144), (some (142, true)), .load none (.t 143)⟩, ⟨(some 145), (some (142, true)), .bin .lss (.t 144) (.c (.v (.int .i64 64)))⟩, ⟨(some 146), none, .pick (.t 142) (.t 145) (.c (.v (.bool false)))⟩, ⟨(some 147), none, .mv (.t 146)⟩, ⟨(some 148), (some (147, true)), .fad 4 (.t 1)⟩, ⟨(some 149), (some (147, true)), .load none (.t 148)⟩, ⟨(some 150), (some (147, true)), .bin .eql (.t 149) (.c (.v (.int .i64 0)))⟩, ⟨(some 151), none, .pick (.t 147) (.t 150) (.c (.v (.bool false)))⟩, ⟨(some 2), none, .mv (.t 151)⟩]) (.drop [3, 151]))
                       .ret)
theorem g_il_Right_7 {C : CT} {lf : Nat} {ks : List It} {s : St} : type_of% (@Sym.go_as C lf ks s _ _ c_il_Right_7.eq_1) := Sym.go_as c_il_Right_7.eq_1
def c_il_Right_8 : AC :=
 (.seq (.seq (.reg [⟨(some 98), none, .bin .eql (.t 17) (.c (.v (.int .i64 7)))⟩, ⟨(some 97), none, .mv (.t 98)⟩]) (.drop [98, 98]))
                   (.cond (.t 97) c_il_Right_6
                    (.seq (.seq (.reg [⟨(some 128), none, .bin .eql (.t 17) (.c (.v (.int .i64 8)))⟩, ⟨(some 127), none, .mv (.t 128)⟩]) (.drop [128, 128]))
                     (.cond (.t 127) c_il_Right_7
                      .skip))))
theorem g_il_Right_8 {C : CT} {lf : Nat} {ks : List It} {s : St} : type_of% (@Sym.go_as C lf ks s _ _ c_il_Right_8.eq_1) := Sym.go_as c_il_Right_8.eq_1
def c_il_Right_9 : AC :=
 (.seq (.seq (.reg [⟨(some 71), none, .bin .eql (.t 17) (.c (.v (.int .i64 5)))⟩, ⟨(some 70), none, .mv (.t 71)⟩]) (.drop [71, 71]))
               (.cond (.t 70) c_il_Right_4
                (.seq (.seq (.reg [⟨(some 85), none, .bin .eql (.t 17) (.c (.v (.int .i64 6)))⟩, ⟨(some 84), none, .mv (.t 85)⟩]) (.drop [85, 85]))
                 (.cond (.t 84) c_il_Right_5
                  c_il_Right_8))))
theorem g_il_Right_9 {C : CT} {lf : Nat} {ks : List It} {s : St} : type_of% (@Sym.go_as C lf ks s _ _ c_il_Right_9.eq_1) := Sym.go_as c_il_Right_9.eq_1
def c_il_Right_10 : AC :=
 (.seq (.seq (.reg [⟨(some 40), none, .bin .eql (.t 17) (.c (.v (.int .i64 3)))⟩, ⟨(some 39), none, .mv (.t 40)⟩]) (.drop [40, 40]))
           (.cond (.t 39) c_il_Right_2
            (.seq (.seq (.reg [⟨(some 58), none, .bin .eql (.t 17) (.c (.v (.int .i64 4)))⟩, ⟨(some 57), none, .mv (.t 58)⟩]) (.drop [58, 58]))
             (.cond (.t 57) c_il_Right_3
              c_il_Right_9))))
theorem g_il_Right_10 {C : CT} {lf : Nat} {ks : List It} {s : St} : type_of% (@Sym.go_as C lf ks s _ _ c_il_Right_10.eq_1) := Sym.go_as c_il_Right_10.eq_1
def c_il_Right_11 : AC :=
 (.seq (.seq (.reg [⟨(some 36), none, .bin .eql (.t 17) (.c (.v (.int .i64 2)))⟩, ⟨(some 35), none, .mv (.t 36)⟩]) (.drop [36, 36]))
         (.cond (.t 35) (.seq (.seq (.reg [⟨(some 37), none, .load (some 5) (.t 1)⟩, ⟨(some 38), none, .call (.c (.fn 76 [])) [(.t 37), (.c (.v (.int .i64 2)))]⟩, ⟨(some 2), none, .mv (.t 38)⟩]) (.drop [3, 38]))
           .ret)
          c_il_Right_10))
theorem g_il_Right_11 {C : CT} {lf : Nat} {ks : List It} {s : St} : type_of% (@Sym.go_as C lf ks s _ _ c_il_Right_11.eq_1) := Sym.go_as c_il_Right_11.eq_1
theorem gs_il_Right : type_of% (And.intro (And.intro (And.intro (@g_il_Right_0) (And.intro (@g_il_Right_1) (@g_il_Right_2))) (And.intro (@g_il_Right_3) (And.intro (@g_il_Right_4) (@g_il_Right_5)))) (And.intro (And.intro (@g_il_Right_6) (And.intro (@g_il_Right_7) (@g_il_Right_8))) (And.intro (@g_il_Right_9) (And.intro (@g_il_Right_10) (@g_il_Right_11))))) := (And.intro (And.intro (And.intro (@g_il_Right_0) (And.intro (@g_il_Right_1) (@g_il_Right_2))) (And.intro (@g_il_Right_3) (And.intro (@g_il_Right_4) (@g_il_Right_5)))) (And.intro (And.intro (@g_il_Right_6) (And.intro (@g_il_Right_7) (@g_il_Right_8))) (And.intro (@g_il_Right_9) (And.intro (@g_il_Right_10) (@g_il_Right_11)))))
def b_il_Right : AC :=
 (.seq (.seq (.reg [⟨(some 1), none, .box (.t 0)⟩, ⟨(some 2), none, .mv (.c (.v (.bool false)))⟩]) (.drop [2, 2]))
 (.seq (.seq (.reg [⟨(some 5), none, .fad 0 (.t 1)⟩, ⟨(some 6), none, .load none (.t 5)⟩, ⟨(some 7), none, .call (.c (.fn 74 [])) [(.t 6)]⟩, ⟨(some 8), none, .fld 1 none (.t 7)⟩, ⟨(some 3), none, .mv (.t 8)⟩]) (.drop [4, 8]))
  (.seq (.seq (.reg [⟨(some 9), none, .fad 2 (.t 1)⟩, ⟨(some 10), none, .load none (.t 9)⟩, ⟨(some 11), none, .bin .eql (.t 10) (.c (.v (.int .i64 0)))⟩, ⟨(some 12), none, .mv (.t 11)⟩, ⟨(some 13), (some (12, true)), .fad 4 (.t 1)⟩, ⟨(some 14), (some (12, true)), .load none (.t 13)⟩, ⟨(some 15), (some (12, true)), .bin .eql (.t 14) (.c (.v (.int .i64 0)))⟩, ⟨(some 16), none, .pick (.t 12) (.t 15) (.c (.v (.bool false)))⟩, ⟨(some 4), none, .mv (.t 16)⟩]) (.drop [5, 16]))
   (.seq (.seq (.seq (.reg [⟨(some 17), none, .mv (.t 3)⟩]) (.drop []))
     (.block 0 (.seq (.seq (.reg [⟨(some 19), none, .bin .eql (.t 17) (.c (.v (.int .i64 1)))⟩, ⟨(some 18), none, .mv (.t 19)⟩]) (.drop [19, 19]))
       (.cond (.t 18) c_il_Right_1
        c_il_Right_11))))
    (.seq (.seq (.reg [⟨(some 2), none, .mv (.c (.v (.bool false)))⟩]) (.drop []))
     .ret)))))
def a_il_Right : AFn := ⟨1, b_il_Right, [.t 2], false, false⟩
theorem a_il_Right_ok : compF Try.prog Try.f60 [[2, 2], [4, 8], [5, 16], [], [19, 19], [2, 21], [3, 32], [3, 34], [36, 36], [3, 38], [40, 40], [3, 56], [58, 58], [3, 69], [71, 71], [3, 83], [85, 85], [3, 96], [98, 98], [3, 126], [128, 128], [3, 151], []] false false hv = some a_il_Right := by kernel_rfl

/-! fugleman/verify.jumps: 61 -/
def b_verify_jumps : AC :=
 (.seq (.seq (.reg [⟨(some 1), none, .box (.t 0)⟩, ⟨(some 2), none, .mv (.c (.v (.bool false)))⟩]) (.drop [2, 2]))
 (.seq (.seq (.reg [⟨(some 3), none, .fad 0 (.t 1)⟩, ⟨(some 4), none, .load none (.t 3)⟩, ⟨(some 5), none, .bin .geq (.t 4) (.c (.v (.int .i64 25)))⟩, ⟨(some 6), none, .mv (.t 5)⟩, ⟨(some 7), (some (6, true)), .fad 0 (.t 1)⟩, ⟨(some 8), (some (6, true)), .load none (.t 7)⟩, ⟨(some 9), (some (6, true)), .bin .leq (.t 8) (.c (.v (.int .i64 27)))⟩, ⟨(some 10), none, .pick (.t 6) (.t 9) (.c (.v (.bool false)))⟩, ⟨(some 2), none, .mv (.t 10)⟩]) (.drop [3, 10]))
  .ret))
def a_verify_jumps : AFn := ⟨1, b_verify_jumps, [.t 2], false, false⟩
theorem a_verify_jumps_ok : compF Try.prog Try.f61 [[2, 2], [3, 10]] false false hv = some a_verify_jumps := by kernel_rfl

/-! (fugleman/verify.ahead).with: 80 -/
def b_verify_ahead_with : AC :=
 (.seq (.seq (.reg [⟨(some 2), none, .box (.t 0)⟩, ⟨(some 4), none, .alloc [(.v (.int .i64 0)), (.v (.slice none 0 0))]⟩]) (.drop []))
 (.seq (.seq (.reg [⟨(some 5), none, .mv (.t 1)⟩, ⟨(some 6), none, .fad 0 (.t 2)⟩, ⟨none, none, .store 1 (.t 6) (.t 5)⟩]) (.drop [5, 6]))
  (.seq (.seq (.reg [⟨(some 7), none, .load (some 2) (.t 2)⟩, ⟨none, none, .store 2 (.t 4) (.t 7)⟩]) (.drop [5, 7]))
   .ret)))
def a_verify_ahead_with : AFn := ⟨2, b_verify_ahead_with, [.cell 4 (some 2)], false, false⟩
theorem a_verify_ahead_with_ok : compF Try.prog Try.f80 [[], [5, 6], [5, 7]] false false hv = some a_verify_ahead_with := by kernel_rfl

/-! fugleman/verify.must: 81 -/
def b_verify_must : AC :=
 (.seq (.seq (.reg [⟨(some 2), none, .mv (.c (.v (.int .i64 0)))⟩]) (.drop [1, 2]))
 (.seq (.seq (.seq (.reg [⟨(some 3), none, .mv (.t 0)⟩, ⟨(some 4), none, .un .not (.t 3)⟩]) (.drop [0, 3]))
   (.cond (.t 4) (.seq (.seq (.reg [⟨(some 2), none, .mv (.c (.v (.int .i64 6)))⟩]) (.drop []))
     .ret)
    .skip))
  (.seq (.seq (.reg [⟨(some 2), none, .mv (.c (.v (.int .i64 0)))⟩]) (.drop []))
   .ret)))
def a_verify_must : AFn := ⟨1, b_verify_must, [.t 2], false, false⟩
theorem a_verify_must_ok : compF Try.prog Try.f81 [[1, 2], [0, 3], [], []] false false hv = some a_verify_must := by kernel_rfl

/-! fugleman/iec.May: 87 -/
def c_iec_May_0 : AC :=
 (.seq (.seq (.reg [⟨(some 25), none, .mv (.t 0)⟩, ⟨(some 26), none, .bin .geq (.t 25) (.c (.v (.int .i64 14)))⟩, ⟨(some 27), none, .mv (.t 26)⟩, ⟨(some 28), (some (27, true)), .mv (.t 0)⟩, ⟨(some 29), (some (27, true)), .bin .leq (.t 28) (.c (.v (.int .i64 18)))⟩, ⟨(some 30), none, .pick (.t 27) (.t 29) (.c (.v (.bool false)))⟩, ⟨(some 24), none, .mv (.t 30)⟩]) (.drop [25, 30]))
         (.cond (.t 24) (.seq (.seq (.reg [⟨(some 31), none, .fad 3 (.t 5)⟩, ⟨(some 32), none, .load none (.t 31)⟩, ⟨(some 33), none, .un .not (.t 32)⟩, ⟨(some 4), none, .mv (.t 33)⟩]) (.drop [5, 33]))
           .ret)
          .skip))
theorem g_iec_May_0 {C : CT} {lf : Nat} {ks : List It} {s : St} : type_of% (@Sym.go_as C lf ks s _ _ c_iec_May_0.eq_1) := Sym.go_as c_iec_May_0.eq_1
def c_iec_May_1 : AC :=
 (.seq (.seq (.reg [⟨(some 16), none, .mv (.t 0)⟩, ⟨(some 17), none, .bin .geq (.t 16) (.c (.v (.int .i64 7)))⟩, ⟨(some 18), none, .mv (.t 17)⟩, ⟨(some 19), (some (18, true)), .mv (.t 0)⟩, ⟨(some 20), (some (18, true)), .bin .leq (.t 19) (.c (.v (.int .i64 13)))⟩, ⟨(some 21), none, .pick (.t 18) (.t 20) (.c (.v (.bool false)))⟩, ⟨(some 15), none, .mv (.t 21)⟩]) (.drop [16, 21]))
       (.cond (.t 15) (.seq (.seq (.reg [⟨(some 22), none, .fad 3 (.t 5)⟩, ⟨(some 23), none, .load none (.t 22)⟩, ⟨(some 4), none, .mv (.t 23)⟩]) (.drop [5, 23]))
         .ret)
        c_iec_May_0))
theorem g_iec_May_1 {C : CT} {lf : Nat} {ks : List It} {s : St} : type_of% (@Sym.go_as C lf ks s _ _ c_iec_May_1.eq_1) := Sym.go_as c_iec_May_1.eq_1
theorem gs_iec_May : type_of% (And.intro (@g_iec_May_0) (@g_iec_May_1)) := (And.intro (@g_iec_May_0) (@g_iec_May_1))
def b_iec_May : AC :=
 (.seq (.seq (.reg [⟨(some 4), none, .mv (.c (.v (.bool false)))⟩]) (.drop [2, 4]))
 (.seq (.seq (.reg [⟨(some 8), none, .mv (.t 1)⟩, ⟨(some 9), none, .call (.c (.fn 92 [])) [(.t 8)]⟩, ⟨(some 7), none, .mv (.t 9)⟩, ⟨(some 10), none, .ext 0 (.t 7)⟩, ⟨(some 11), none, .ext 1 (.t 7)⟩, ⟨(some 5), none, .alloc [(.v (.string ⟨#[]⟩)), (.v (.int .i64 0)), (.v (.bool false)), (.v (.bool false))]⟩, ⟨none, none, .store 4 (.t 5) (.t 10)⟩, ⟨(some 6), none, .mv (.t 11)⟩]) (.drop [7, 11]))
  (.seq (.block 0 (.seq (.seq (.reg [⟨(some 13), none, .mv (.t 6)⟩, ⟨(some 14), none, .un .not (.t 13)⟩, ⟨(some 12), none, .mv (.t 14)⟩]) (.drop [13, 14]))
     (.cond (.t 12) (.seq (.seq (.reg [⟨(some 4), none, .mv (.c (.v (.bool false)))⟩]) (.drop []))
       .ret)
      c_iec_May_1)))
   (.seq (.seq (.reg [⟨(some 34), none, .mv (.t 0)⟩, ⟨(some 35), none, .bin .geq (.t 34) (.c (.v (.int .i64 19)))⟩, ⟨(some 36), none, .mv (.t 35)⟩, ⟨(some 37), (some (36, true)), .mv (.t 0)⟩, ⟨(some 38), (some (36, true)), .bin .leq (.t 37) (.c (.v (.int .i64 24)))⟩, ⟨(some 39), none, .pick (.t 36) (.t 38) (.c (.v (.bool false)))⟩, ⟨(some 4), none, .mv (.t 39)⟩]) (.drop [5, 39]))
    .ret))))
def a_iec_May : AFn := ⟨2, b_iec_May, [.t 4], false, false⟩
theorem a_iec_May_ok : compF Try.prog Try.f87 [[2, 4], [7, 11], [13, 14], [], [16, 21], [5, 23], [25, 30], [5, 33], [5, 39]] false false hv = some a_iec_May := by kernel_rfl

/-! fugleman/verify.logic: 82 -/
def b_verify_logic : AC :=
 (.seq (.seq (.reg [⟨(some 2), none, .mv (.c (.v (.bool false)))⟩]) (.drop [1, 2]))
 (.seq (.seq (.reg [⟨(some 3), none, .mv (.t 0)⟩, ⟨(some 4), none, .call (.c (.fn 87 [])) [(.c (.v (.int .i64 13))), (.t 3)]⟩, ⟨(some 2), none, .mv (.t 4)⟩]) (.drop [3, 4]))
  .ret))
def a_verify_logic : AFn := ⟨1, b_verify_logic, [.t 2], false, false⟩
theorem a_verify_logic_ok : compF Try.prog Try.f82 [[1, 2], [3, 4]] false false hv = some a_verify_logic := by kernel_rfl

/-! (fugleman/verify.ahead).ret: 83 -/
def c_verify_ahead_ret_0 : AC :=
 (.seq (.seq (.reg [⟨(some 16), none, .fad 1 (.t 2)⟩, ⟨(some 17), none, .load none (.t 16)⟩, ⟨(some 18), none, .len (.t 17)⟩, ⟨(some 19), none, .bin .gtr (.t 18) (.c (.v (.int .i64 0)))⟩, ⟨(some 15), none, .mv (.t 19)⟩]) (.drop [16, 19]))
      (.cond (.t 15) (.seq (.seq (.reg [⟨(some 20), none, .load (some 2) (.t 2)⟩, ⟨none, none, .store 2 (.t 4) (.t 20)⟩, ⟨(some 5), none, .mv (.c (.v (.int .i64 3)))⟩]) (.drop [6, 20]))
        .ret)
       .skip))
theorem g_verify_ahead_ret_0 {C : CT} {lf : Nat} {ks : List It} {s : St} : type_of% (@Sym.go_as C lf ks s _ _ c_verify_ahead_ret_0.eq_1) := Sym.go_as c_verify_ahead_ret_0.eq_1
def b_verify_ahead_ret : AC :=
 (.seq (.seq (.reg [⟨(some 2), none, .box (.t 0)⟩, ⟨(some 4), none, .alloc [(.v (.int .i64 0)), (.v (.slice none 0 0))]⟩, ⟨(some 5), none, .mv (.c (.v (.int .i64 0)))⟩]) (.drop [5, 5]))
 (.seq (.block 0 (.seq (.seq (.reg [⟨(some 7), none, .mv (.t 1)⟩, ⟨(some 8), none, .bin .neq (.t 7) (.c (.v (.int .i64 28)))⟩, ⟨(some 9), none, .mv (.t 8)⟩, ⟨(some 10), (some (9, true)), .fad 0 (.t 2)⟩, ⟨(some 11), (some (9, true)), .load none (.t 10)⟩, ⟨(some 12), (some (9, true)), .bin .neq (.t 11) (.c (.v (.int .i64 1)))⟩, ⟨(some 13), none, .pick (.t 9) (.t 12) (.c (.v (.bool false)))⟩, ⟨(some 6), none, .mv (.t 13)⟩]) (.drop [7, 13]))
    (.cond (.t 6) (.seq (.seq (.reg [⟨(some 14), none, .load (some 2) (.t 2)⟩, ⟨none, none, .store 2 (.t 4) (.t 14)⟩, ⟨(some 5), none, .mv (.c (.v (.int .i64 6)))⟩]) (.drop [6, 14]))
      .ret)
     c_verify_ahead_ret_0)))
  (.seq (.seq (.reg [⟨(some 21), none, .load (some 2) (.t 2)⟩, ⟨none, none, .store 2 (.t 4) (.t 21)⟩, ⟨(some 5), none, .mv (.c (.v (.int .i64 0)))⟩]) (.drop [6, 21]))
   .ret)))
def a_verify_ahead_ret : AFn := ⟨2, b_verify_ahead_ret, [.cell 4 (some 2), .t 5], false, false⟩
theorem a_verify_ahead_ret_ok : compF Try.prog Try.f83 [[5, 5], [7, 13], [6, 14], [16, 19], [6, 20], [6, 21]] false false hv = some a_verify_ahead_ret := by kernel_rfl

/-! slices.Clip[[]fugleman/verify.bracket,fugleman/verify.bracket]: 94 -/
def b_verify_bracket_94 : AC :=
 (.seq (.seq (.reg [⟨(some 2), none, .mv (.c (.v (.slice none 0 0)))⟩]) (.drop [1, 2]))
 (.seq (.seq (.reg [⟨(some 3), none, .mv (.t 0)⟩, ⟨(some 4), none, .mv (.t 0)⟩, ⟨(some 5), none, .len (.t 4)⟩, ⟨(some 6), none, .mv (.t 0)⟩, ⟨(some 7), none, .len (.t 6)⟩, ⟨(some 8), none, .sls 2 (.t 3) none (some (.t 5)) (some (.t 7))⟩, ⟨(some 2), none, .mv (.t 8)⟩]) (.drop [3, 8]))
  .ret))
def a_verify_bracket_94 : AFn := ⟨1, b_verify_bracket_94, [.t 2], false, false⟩
theorem a_verify_bracket_94_ok : compF Try.prog Try.f94 [[1, 2], [3, 8]] false false hv = some a_verify_bracket_94 := by kernel_rfl

/-! (fugleman/verify.ahead).push: 84 -/
def c_verify_ahead_push_0 : AC :=
 (.seq (.seq (.reg [⟨(some 14), none, .fad 1 (.t 2)⟩, ⟨(some 15), none, .load none (.t 14)⟩, ⟨(some 16), none, .len (.t 15)⟩, ⟨(some 17), none, .bin .eql (.t 16) (.c (.v (.int .i64 8)))⟩, ⟨(some 13), none, .mv (.t 17)⟩]) (.drop [14, 17]))
      (.cond (.t 13) (.seq (.seq (.reg [⟨(some 18), none, .load (some 2) (.t 2)⟩, ⟨none, none, .store 2 (.t 4) (.t 18)⟩, ⟨(some 5), none, .mv (.c (.v (.int .i64 8)))⟩]) (.drop [6, 18]))
        .ret)
       .skip))
theorem g_verify_ahead_push_0 {C : CT} {lf : Nat} {ks : List It} {s : St} : type_of% (@Sym.go_as C lf ks s _ _ c_verify_ahead_push_0.eq_1) := Sym.go_as c_verify_ahead_push_0.eq_1
def b_verify_ahead_push : AC :=
 (.seq (.seq (.reg [⟨(some 2), none, .box (.t 0)⟩, ⟨(some 4), none, .alloc [(.v (.int .i64 0)), (.v (.slice none 0 0))]⟩, ⟨(some 5), none, .mv (.c (.v (.int .i64 0)))⟩]) (.drop [5, 5]))
 (.seq (.block 0 (.seq (.seq (.reg [⟨(some 7), none, .mv (.t 1)⟩, ⟨(some 8), none, .fad 0 (.t 2)⟩, ⟨(some 9), none, .load none (.t 8)⟩, ⟨(some 10), none, .call (.c (.fn 87 [])) [(.t 7), (.t 9)]⟩, ⟨(some 11), none, .un .not (.t 10)⟩, ⟨(some 6), none, .mv (.t 11)⟩]) (.drop [7, 11]))
    (.cond (.t 6) (.seq (.seq (.reg [⟨(some 12), none, .load (some 2) (.t 2)⟩, ⟨none, none, .store 2 (.t 4) (.t 12)⟩, ⟨(some 5), none, .mv (.c (.v (.int .i64 6)))⟩]) (.drop [6, 12]))
      .ret)
     c_verify_ahead_push_0)))
  (.seq (.seq (.regm [(.o, ⟨(some 19), none, .fad 1 (.t 2)⟩), (.o, ⟨(some 20), none, .load none (.t 19)⟩), (.f, ⟨(some 21), none, .call (.c (.fn 94 [])) [(.t 20)]⟩), (.o, ⟨(some 22), none, .mv (.t 1)⟩), (.o, ⟨(some 23), none, .fad 0 (.t 2)⟩), (.o, ⟨(some 24), none, .load none (.t 23)⟩), (.o, ⟨(some 25), none, .build [(.v (.int .i64 0)), (.v (.int .i64 0))] [(0, 1, (.t 22)), (1, 1, (.t 24))]⟩), (.o, ⟨(some 26), none, .row 2 1 [(.v (.int .i64 0)), (.v (.int .i64 0))] [(0, 2, (.t 25))]⟩), (.o, ⟨(some 27), none, .app 2 16 (.t 21) (.t 26)⟩), (.o, ⟨(some 28), none, .build [(.v (.int .i64 0)), (.v (.slice none 0 0))] [(1, 1, (.t 27))]⟩), (.o, ⟨none, none, .store 2 (.t 4) (.t 28)⟩), (.o, ⟨(some 5), none, .mv (.c (.v (.int .i64 0)))⟩)]) (.drop [6, 28]))
   .ret)))
def a_verify_ahead_push : AFn := ⟨2, b_verify_ahead_push, [.cell 4 (some 2), .t 5], true, false⟩
theorem a_verify_ahead_push_ok : compF Try.prog Try.f84 [[5, 5], [7, 11], [6, 12], [14, 17], [6, 18], [6, 28]] true false hv = some a_verify_ahead_push := by kernel_rfl

/-! fugleman/verify.made: 86 -/
def b_verify_made : AC :=
 (.seq (.seq (.reg [⟨(some 4), none, .mv (.c (.v (.int .i64 0)))⟩]) (.drop [2, 4]))
 (.seq (.seq (.seq (.reg [⟨(some 5), none, .mv (.t 0)⟩, ⟨(some 6), none, .bin .geq (.t 5) (.c (.v (.int .i64 19)))⟩, ⟨(some 7), none, .mv (.t 6)⟩, ⟨(some 8), (some (7, true)), .mv (.t 0)⟩, ⟨(some 9), (some (7, true)), .bin .leq (.t 8) (.c (.v (.int .i64 24)))⟩, ⟨(some 10), none, .pick (.t 7) (.t 9) (.c (.v (.bool false)))⟩]) (.drop [2, 9]))
   (.cond (.t 10) (.seq (.seq (.reg [⟨(some 4), none, .mv (.c (.v (.int .i64 1)))⟩]) (.drop []))
     .ret)
    .skip))
  (.seq (.seq (.reg [⟨(some 11), none, .mv (.t 1)⟩, ⟨(some 4), none, .mv (.t 11)⟩]) (.drop [5, 11]))
   .ret)))
def a_verify_made : AFn := ⟨2, b_verify_made, [.t 4], false, false⟩
theorem a_verify_made_ok : compF Try.prog Try.f86 [[2, 4], [2, 9], [], [5, 11]] false false hv = some a_verify_made := by kernel_rfl

/-! (fugleman/verify.ahead).pop: 85 -/
def b_verify_ahead_pop : AC :=
 (.seq (.seq (.reg [⟨(some 1), none, .box (.t 0)⟩, ⟨(some 2), none, .alloc [(.v (.int .i64 0)), (.v (.slice none 0 0))]⟩, ⟨(some 3), none, .mv (.c (.v (.int .i64 0)))⟩]) (.drop [3, 3]))
 (.seq (.seq (.reg [⟨(some 6), none, .fad 1 (.t 1)⟩, ⟨(some 7), none, .load none (.t 6)⟩, ⟨(some 8), none, .len (.t 7)⟩, ⟨(some 4), none, .mv (.t 8)⟩]) (.drop [5, 8]))
  (.seq (.seq (.seq (.reg [⟨(some 9), none, .mv (.t 4)⟩, ⟨(some 10), none, .bin .eql (.t 9) (.c (.v (.int .i64 0)))⟩]) (.drop [5, 9]))
    (.cond (.t 10) (.seq (.seq (.reg [⟨(some 11), none, .load (some 2) (.t 1)⟩, ⟨none, none, .store 2 (.t 2) (.t 11)⟩, ⟨(some 3), none, .mv (.c (.v (.int .i64 3)))⟩]) (.drop [4, 11]))
      .ret)
     .skip))
   (.seq (.seq (.reg [⟨(some 12), none, .fad 1 (.t 1)⟩, ⟨(some 13), none, .load none (.t 12)⟩, ⟨(some 14), none, .mv (.t 4)⟩, ⟨(some 15), none, .bin .sub (.t 14) (.c (.v (.int .i64 1)))⟩, ⟨(some 16), none, .ixs 2 (.t 13) (.t 15)⟩, ⟨(some 17), none, .load (some 2) (.t 16)⟩, ⟨(some 5), none, .alloc [(.v (.int .i64 0)), (.v (.int .i64 0))]⟩, ⟨none, none, .store 2 (.t 5) (.t 17)⟩]) (.drop [6, 17]))
    (.seq (.seq (.seq (.reg [⟨(some 18), none, .fad 1 (.t 5)⟩, ⟨(some 19), none, .load none (.t 18)⟩, ⟨(some 20), none, .fad 0 (.t 1)⟩, ⟨(some 21), none, .load none (.t 20)⟩, ⟨(some 22), none, .bin .neq (.t 19) (.t 21)⟩]) (.drop [6, 21]))
      (.cond (.t 22) (.seq (.seq (.reg [⟨(some 23), none, .load (some 2) (.t 1)⟩, ⟨none, none, .store 2 (.t 2) (.t 23)⟩, ⟨(some 3), none, .mv (.c (.v (.int .i64 6)))⟩]) (.drop [4, 23]))
        .ret)
       .skip))
     (.seq (.seq (.regm [(.o, ⟨(some 24), none, .fad 0 (.t 5)⟩), (.o, ⟨(some 25), none, .load none (.t 24)⟩), (.o, ⟨(some 26), none, .fad 1 (.t 5)⟩), (.o, ⟨(some 27), none, .load none (.t 26)⟩), (.o, ⟨(some 29), none, .fad 1 (.t 1)⟩), (.o, ⟨(some 30), none, .load none (.t 29)⟩), (.o, ⟨(some 31), none, .mv (.t 4)⟩), (.o, ⟨(some 32), none, .bin .sub (.t 31) (.c (.v (.int .i64 1)))⟩), (.o, ⟨(some 33), none, .sls 2 (.t 30) none (some (.t 32)) none⟩), (.m, ⟨(some 28), none, .call (.c (.fn 86 [])) [(.t 25), (.t 27)]⟩), (.o, ⟨(some 34), none, .build [(.v (.int .i64 0)), (.v (.slice none 0 0))] [(0, 1, (.t 28)), (1, 1, (.t 33))]⟩), (.o, ⟨none, none, .store 2 (.t 2) (.t 34)⟩), (.o, ⟨(some 3), none, .mv (.c (.v (.int .i64 0)))⟩)]) (.drop [4, 34]))
      .ret))))))
def a_verify_ahead_pop : AFn := ⟨1, b_verify_ahead_pop, [.cell 2 (some 2), .t 3], false, false⟩
theorem a_verify_ahead_pop_ok : compF Try.prog Try.f85 [[3, 3], [5, 8], [5, 9], [4, 11], [6, 17], [6, 21], [4, 23], [4, 34]] false false hv = some a_verify_ahead_pop := by kernel_rfl

/-! (fugleman/verify.ahead).behind: 62 -/
def c_verify_ahead_behind_0 : AC :=
 (.seq (.seq (.reg [⟨(some 14), none, .load (some 2) (.t 2)⟩, ⟨(some 15), none, .fad 1 (.t 3)⟩, ⟨(some 16), none, .load none (.t 15)⟩, ⟨(some 17), none, .call (.c (.fn 80 [])) [(.t 14), (.t 16)]⟩, ⟨none, none, .store 2 (.t 4) (.t 17)⟩, ⟨(some 5), none, .mv (.c (.v (.int .i64 0)))⟩]) (.drop [6, 17]))
        .ret)
theorem g_verify_ahead_behind_0 {C : CT} {lf : Nat} {ks : List It} {s : St} : type_of% (@Sym.go_as C lf ks s _ _ c_verify_ahead_behind_0.eq_1) := Sym.go_as c_verify_ahead_behind_0.eq_1
def c_verify_ahead_behind_1 : AC :=
 (.seq (.seq (.regm [(.o, ⟨(some 20), none, .load (some 2) (.t 2)⟩), (.o, ⟨(some 21), none, .fad 1 (.t 3)⟩), (.o, ⟨(some 22), none, .load none (.t 21)⟩), (.o, ⟨(some 24), none, .fad 1 (.t 3)⟩), (.o, ⟨(some 25), none, .load none (.t 24)⟩), (.m, ⟨(some 23), none, .call (.c (.fn 80 [])) [(.t 20), (.t 22)]⟩), (.m, ⟨(some 26), none, .call (.c (.fn 82 [])) [(.t 25)]⟩), (.m, ⟨(some 27), none, .call (.c (.fn 81 [])) [(.t 26)]⟩), (.o, ⟨none, none, .store 2 (.t 4) (.t 23)⟩), (.o, ⟨(some 5), none, .mv (.t 27)⟩)]) (.drop [6, 27]))
          .ret)
theorem g_verify_ahead_behind_1 {C : CT} {lf : Nat} {ks : List It} {s : St} : type_of% (@Sym.go_as C lf ks s _ _ c_verify_ahead_behind_1.eq_1) := Sym.go_as c_verify_ahead_behind_1.eq_1
def c_verify_ahead_behind_2 : AC :=
 (.seq (.seq (.regm [(.o, ⟨(some 30), none, .load (some 2) (.t 2)⟩), (.o, ⟨(some 31), none, .fad 0 (.t 2)⟩), (.o, ⟨(some 32), none, .load none (.t 31)⟩), (.o, ⟨(some 33), none, .fad 1 (.t 3)⟩), (.o, ⟨(some 34), none, .load none (.t 33)⟩), (.o, ⟨(some 35), none, .bin .eql (.t 32) (.t 34)⟩), (.m, ⟨(some 36), none, .call (.c (.fn 81 [])) [(.t 35)]⟩), (.o, ⟨none, none, .store 2 (.t 4) (.t 30)⟩), (.o, ⟨(some 5), none, .mv (.t 36)⟩)]) (.drop [6, 36]))
            .ret)
theorem g_verify_ahead_behind_2 {C : CT} {lf : Nat} {ks : List It} {s : St} : type_of% (@Sym.go_as C lf ks s _ _ c_verify_ahead_behind_2.eq_1) := Sym.go_as c_verify_ahead_behind_2.eq_1
def c_verify_ahead_behind_3 : AC :=
 (.seq (.seq (.regm [(.o, ⟨(some 39), none, .load (some 2) (.t 2)⟩), (.o, ⟨(some 40), none, .fad 0 (.t 2)⟩), (.o, ⟨(some 41), none, .load none (.t 40)⟩), (.o, ⟨(some 42), none, .fad 1 (.t 3)⟩), (.o, ⟨(some 43), none, .load none (.t 42)⟩), (.o, ⟨(some 44), none, .bin .eql (.t 41) (.t 43)⟩), (.o, ⟨(some 45), none, .mv (.t 44)⟩), (.o, ⟨(some 46), (some (45, true)), .fad 1 (.t 3)⟩), (.o, ⟨(some 47), (some (45, true)), .load none (.t 46)⟩), (.m, ⟨(some 48), (some (45, true)), .call (.c (.fn 82 [])) [(.t 47)]⟩), (.o, ⟨(some 49), none, .pick (.t 45) (.t 48) (.c (.v (.bool false)))⟩), (.m, ⟨(some 50), none, .call (.c (.fn 81 [])) [(.t 49)]⟩), (.o, ⟨none, none, .store 2 (.t 4) (.t 39)⟩), (.o, ⟨(some 5), none, .mv (.t 50)⟩)]) (.drop [6, 50]))
              .ret)
theorem g_verify_ahead_behind_3 {C : CT} {lf : Nat} {ks : List It} {s : St} : type_of% (@Sym.go_as C lf ks s _ _ c_verify_ahead_behind_3.eq_1) := Sym.go_as c_verify_ahead_behind_3.eq_1
def c_verify_ahead_behind_4 : AC :=
 (.seq (.seq (.regm [(.o, ⟨(some 54), none, .load (some 2) (.t 2)⟩), (.o, ⟨(some 55), none, .mv (.t 6)⟩), (.o, ⟨(some 56), none, .mv (.t 55)⟩), (.o, ⟨(some 57), (some (56, true)), .fad 1 (.t 3)⟩), (.o, ⟨(some 58), (some (56, true)), .load none (.t 57)⟩), (.o, ⟨(some 59), (some (56, true)), .bin .eql (.t 58) (.c (.v (.int .i64 1)))⟩), (.o, ⟨(some 60), none, .pick (.t 56) (.t 59) (.c (.v (.bool false)))⟩), (.m, ⟨(some 61), none, .call (.c (.fn 81 [])) [(.t 60)]⟩), (.o, ⟨none, none, .store 2 (.t 4) (.t 54)⟩), (.o, ⟨(some 5), none, .mv (.t 61)⟩)]) (.drop [6, 61]))
                .ret)
theorem g_verify_ahead_behind_4 {C : CT} {lf : Nat} {ks : List It} {s : St} : type_of% (@Sym.go_as C lf ks s _ _ c_verify_ahead_behind_4.eq_1) := Sym.go_as c_verify_ahead_behind_4.eq_1
def c_verify_ahead_behind_5 : AC :=
 (.seq (.seq (.regm [(.o, ⟨(some 64), none, .load (some 2) (.t 2)⟩), (.o, ⟨(some 65), none, .fad 0 (.t 2)⟩), (.o, ⟨(some 66), none, .load none (.t 65)⟩), (.m, ⟨(some 67), none, .call (.c (.fn 82 [])) [(.t 66)]⟩), (.m, ⟨(some 68), none, .call (.c (.fn 81 [])) [(.t 67)]⟩), (.o, ⟨none, none, .store 2 (.t 4) (.t 64)⟩), (.o, ⟨(some 5), none, .mv (.t 68)⟩)]) (.drop [6, 68]))
                  .ret)
theorem g_verify_ahead_behind_5 {C : CT} {lf : Nat} {ks : List It} {s : St} : type_of% (@Sym.go_as C lf ks s _ _ c_verify_ahead_behind_5.eq_1) := Sym.go_as c_verify_ahead_behind_5.eq_1
def c_verify_ahead_behind_6 : AC :=
 (.seq (.seq (.reg [⟨(some 76), none, .bin .eql (.t 11) (.c (.v (.int .i64 35)))⟩, ⟨(some 72), none, .mv (.t 76)⟩]) (.drop [73, 76]))
                           (.cond (.t 72) .skip
                            (.seq (.reg [⟨(some 77), none, .bin .eql (.t 11) (.c (.v (.int .i64 36)))⟩, ⟨(some 72), none, .mv (.t 77)⟩]) (.drop [73, 77]))))
theorem g_verify_ahead_behind_6 {C : CT} {lf : Nat} {ks : List It} {s : St} : type_of% (@Sym.go_as C lf ks s _ _ c_verify_ahead_behind_6.eq_1) := Sym.go_as c_verify_ahead_behind_6.eq_1
def c_verify_ahead_behind_7 : AC :=
 (.seq (.seq (.reg [⟨(some 74), none, .bin .eql (.t 11) (.c (.v (.int .i64 27)))⟩, ⟨(some 72), none, .mv (.t 74)⟩]) (.drop [73, 74]))
                       (.cond (.t 72) .skip
                        (.seq (.seq (.reg [⟨(some 75), none, .bin .eql (.t 11) (.c (.v (.int .i64 34)))⟩, ⟨(some 72), none, .mv (.t 75)⟩]) (.drop [73, 75]))
                         (.cond (.t 72) .skip
                          c_verify_ahead_behind_6))))
theorem g_verify_ahead_behind_7 {C : CT} {lf : Nat} {ks : List It} {s : St} : type_of% (@Sym.go_as C lf ks s _ _ c_verify_ahead_behind_7.eq_1) := Sym.go_as c_verify_ahead_behind_7.eq_1
def c_verify_ahead_behind_8 : AC :=
 (.seq (.seq (.regm [(.o, ⟨(some 78), none, .load (some 2) (.t 2)⟩), (.o, ⟨(some 79), none, .mv (.t 6)⟩), (.m, ⟨(some 80), none, .call (.c (.fn 81 [])) [(.t 79)]⟩), (.o, ⟨none, none, .store 2 (.t 4) (.t 78)⟩), (.o, ⟨(some 5), none, .mv (.t 80)⟩)]) (.drop [6, 80]))
                      .ret)
theorem g_verify_ahead_behind_8 {C : CT} {lf : Nat} {ks : List It} {s : St} : type_of% (@Sym.go_as C lf ks s _ _ c_verify_ahead_behind_8.eq_1) := Sym.go_as c_verify_ahead_behind_8.eq_1
def c_verify_ahead_behind_9 : AC :=
 (.seq (.seq (.reg [⟨(some 83), none, .bin .eql (.t 11) (.c (.v (.int .i64 29)))⟩, ⟨(some 81), none, .mv (.t 83)⟩]) (.drop [82, 83]))
                         (.cond (.t 81) .skip
                          (.seq (.reg [⟨(some 84), none, .bin .eql (.t 11) (.c (.v (.int .i64 30)))⟩, ⟨(some 81), none, .mv (.t 84)⟩]) (.drop [82, 84]))))
theorem g_verify_ahead_behind_9 {C : CT} {lf : Nat} {ks : List It} {s : St} : type_of% (@Sym.go_as C lf ks s _ _ c_verify_ahead_behind_9.eq_1) := Sym.go_as c_verify_ahead_behind_9.eq_1
def c_verify_ahead_behind_10 : AC :=
 (.seq (.seq (.reg [⟨(some 85), none, .load (some 2) (.t 2)⟩, ⟨(some 86), none, .fad 0 (.t 3)⟩, ⟨(some 87), none, .load none (.t 86)⟩, ⟨(some 88), none, .call (.c (.fn 83 [])) [(.t 85), (.t 87)]⟩, ⟨(some 89), none, .ext 0 (.t 88)⟩, ⟨(some 90), none, .ext 1 (.t 88)⟩, ⟨none, none, .store 2 (.t 4) (.t 89)⟩, ⟨(some 5), none, .mv (.t 90)⟩]) (.drop [6, 90]))
                        .ret)
theorem g_verify_ahead_behind_10 {C : CT} {lf : Nat} {ks : List It} {s : St} : type_of% (@Sym.go_as C lf ks s _ _ c_verify_ahead_behind_10.eq_1) := Sym.go_as c_verify_ahead_behind_10.eq_1
def c_verify_ahead_behind_11 : AC :=
 (.seq (.seq (.regm [(.o, ⟨(some 93), none, .load (some 2) (.t 2)⟩), (.o, ⟨(some 94), none, .fad 1 (.t 3)⟩), (.o, ⟨(some 95), none, .load none (.t 94)⟩), (.o, ⟨(some 97), none, .fad 0 (.t 2)⟩), (.o, ⟨(some 98), none, .load none (.t 97)⟩), (.o, ⟨(some 99), none, .bin .neq (.t 98) (.c (.v (.int .i64 0)))⟩), (.m, ⟨(some 96), none, .call (.c (.fn 80 [])) [(.t 93), (.t 95)]⟩), (.m, ⟨(some 100), none, .call (.c (.fn 81 [])) [(.t 99)]⟩), (.o, ⟨none, none, .store 2 (.t 4) (.t 96)⟩), (.o, ⟨(some 5), none, .mv (.t 100)⟩)]) (.drop [6, 100]))
                          .ret)
theorem g_verify_ahead_behind_11 {C : CT} {lf : Nat} {ks : List It} {s : St} : type_of% (@Sym.go_as C lf ks s _ _ c_verify_ahead_behind_11.eq_1) := Sym.go_as c_verify_ahead_behind_11.eq_1
def c_verify_ahead_behind_12 : AC :=
 (.seq (.seq (.reg [⟨(some 103), none, .load (some 2) (.t 2)⟩, ⟨(some 104), none, .fad 3 (.t 3)⟩, ⟨(some 105), none, .load none (.t 104)⟩, ⟨(some 106), none, .call (.c (.fn 84 [])) [(.t 103), (.t 105)]⟩, ⟨(some 107), none, .ext 0 (.t 106)⟩, ⟨(some 108), none, .ext 1 (.t 106)⟩, ⟨none, none, .store 2 (.t 4) (.t 107)⟩, ⟨(some 5), none, .mv (.t 108)⟩]) (.drop [6, 108]))
                            .ret)
theorem g_verify_ahead_behind_12 {C : CT} {lf : Nat} {ks : List It} {s : St} : type_of% (@Sym.go_as C lf ks s _ _ c_verify_ahead_behind_12.eq_1) := Sym.go_as c_verify_ahead_behind_12.eq_1
def c_verify_ahead_behind_13 : AC :=
 (.seq (.seq (.reg [⟨(some 111), none, .load (some 2) (.t 2)⟩, ⟨(some 112), none, .call (.c (.fn 85 [])) [(.t 111)]⟩, ⟨(some 113), none, .ext 0 (.t 112)⟩, ⟨(some 114), none, .ext 1 (.t 112)⟩, ⟨none, none, .store 2 (.t 4) (.t 113)⟩, ⟨(some 5), none, .mv (.t 114)⟩]) (.drop [6, 114]))
                              .ret)
theorem g_verify_ahead_behind_13 {C : CT} {lf : Nat} {ks : List It} {s : St} : type_of% (@Sym.go_as C lf ks s _ _ c_verify_ahead_behind_13.eq_1) := Sym.go_as c_verify_ahead_behind_13.eq_1
def c_verify_ahead_behind_14 : AC :=
 (.seq (.seq (.reg [⟨(some 102), none, .bin .eql (.t 11) (.c (.v (.int .i64 32)))⟩, ⟨(some 101), none, .mv (.t 102)⟩]) (.drop [102, 102]))
                          (.cond (.t 101) c_verify_ahead_behind_12
                           (.seq (.seq (.reg [⟨(some 110), none, .bin .eql (.t 11) (.c (.v (.int .i64 33)))⟩, ⟨(some 109), none, .mv (.t 110)⟩]) (.drop [110, 110]))
                            (.cond (.t 109) c_verify_ahead_behind_13
                             .skip))))
theorem g_verify_ahead_behind_14 {C : CT} {lf : Nat} {ks : List It} {s : St} : type_of% (@Sym.go_as C lf ks s _ _ c_verify_ahead_behind_14.eq_1) := Sym.go_as c_verify_ahead_behind_14.eq_1
def c_verify_ahead_behind_15 : AC :=
 (.seq (.seq (.seq (.reg [⟨(some 82), none, .bin .eql (.t 11) (.c (.v (.int .i64 28)))⟩, ⟨(some 81), none, .mv (.t 82)⟩]) (.drop [82, 82]))
                       (.cond (.t 81) .skip
                        c_verify_ahead_behind_9))
                      (.cond (.t 81) c_verify_ahead_behind_10
                       (.seq (.seq (.reg [⟨(some 92), none, .bin .eql (.t 11) (.c (.v (.int .i64 31)))⟩, ⟨(some 91), none, .mv (.t 92)⟩]) (.drop [92, 92]))
                        (.cond (.t 91) c_verify_ahead_behind_11
                         c_verify_ahead_behind_14))))
theorem g_verify_ahead_behind_15 {C : CT} {lf : Nat} {ks : List It} {s : St} : type_of% (@Sym.go_as C lf ks s _ _ c_verify_ahead_behind_15.eq_1) := Sym.go_as c_verify_ahead_behind_15.eq_1
def c_verify_ahead_behind_16 : AC :=
 (.seq (.seq (.seq (.reg [⟨(some 73), none, .bin .eql (.t 11) (.c (.v (.int .i64 26)))⟩, ⟨(some 72), none, .mv (.t 73)⟩]) (.drop [73, 73]))
                     (.cond (.t 72) .skip
                      c_verify_ahead_behind_7))
                    (.cond (.t 72) c_verify_ahead_behind_8
                     c_verify_ahead_behind_15))
theorem g_verify_ahead_behind_16 {C : CT} {lf : Nat} {ks : List It} {s : St} : type_of% (@Sym.go_as C lf ks s _ _ c_verify_ahead_behind_16.eq_1) := Sym.go_as c_verify_ahead_behind_16.eq_1
def c_verify_ahead_behind_17 : AC :=
 (.seq (.seq (.reg [⟨(some 70), none, .bin .eql (.t 11) (.c (.v (.int .i64 25)))⟩, ⟨(some 69), none, .mv (.t 70)⟩]) (.drop [70, 70]))
                  (.cond (.t 69) (.seq (.seq (.reg [⟨(some 71), none, .load (some 2) (.t 2)⟩, ⟨none, none, .store 2 (.t 4) (.t 71)⟩, ⟨(some 5), none, .mv (.c (.v (.int .i64 0)))⟩]) (.drop [6, 71]))
                    .ret)
                   c_verify_ahead_behind_16))
theorem g_verify_ahead_behind_17 {C : CT} {lf : Nat} {ks : List It} {s : St} : type_of% (@Sym.go_as C lf ks s _ _ c_verify_ahead_behind_17.eq_1) := Sym.go_as c_verify_ahead_behind_17.eq_1
def c_verify_ahead_behind_18 : AC :=
 (.seq (.seq (.seq (.reg [⟨(some 52), none, .bin .eql (.t 11) (.c (.v (.int .i64 5)))⟩, ⟨(some 51), none, .mv (.t 52)⟩]) (.drop [52, 52]))
               (.cond (.t 51) .skip
                (.seq (.reg [⟨(some 53), none, .bin .eql (.t 11) (.c (.v (.int .i64 6)))⟩, ⟨(some 51), none, .mv (.t 53)⟩]) (.drop [52, 53]))))
              (.cond (.t 51) c_verify_ahead_behind_4
               (.seq (.seq (.reg [⟨(some 63), none, .bin .eql (.t 11) (.c (.v (.int .i64 13)))⟩, ⟨(some 62), none, .mv (.t 63)⟩]) (.drop [63, 63]))
                (.cond (.t 62) c_verify_ahead_behind_5
                 c_verify_ahead_behind_17))))
theorem g_verify_ahead_behind_18 {C : CT} {lf : Nat} {ks : List It} {s : St} : type_of% (@Sym.go_as C lf ks s _ _ c_verify_ahead_behind_18.eq_1) := Sym.go_as c_verify_ahead_behind_18.eq_1
def c_verify_ahead_behind_19 : AC :=
 (.seq (.seq (.reg [⟨(some 29), none, .bin .eql (.t 11) (.c (.v (.int .i64 3)))⟩, ⟨(some 28), none, .mv (.t 29)⟩]) (.drop [29, 29]))
          (.cond (.t 28) c_verify_ahead_behind_2
           (.seq (.seq (.reg [⟨(some 38), none, .bin .eql (.t 11) (.c (.v (.int .i64 4)))⟩, ⟨(some 37), none, .mv (.t 38)⟩]) (.drop [38, 38]))
            (.cond (.t 37) c_verify_ahead_behind_3
             c_verify_ahead_behind_18))))
theorem g_verify_ahead_behind_19 {C : CT} {lf : Nat} {ks : List It} {s : St} : type_of% (@Sym.go_as C lf ks s _ _ c_verify_ahead_behind_19.eq_1) := Sym.go_as c_verify_ahead_behind_19.eq_1
theorem gs_verify_ahead_behind : type_of% (And.intro (And.intro (And.intro (And.intro (@g_verify_ahead_behind_0) (@g_verify_ahead_behind_1)) (And.intro (@g_verify_ahead_behind_2) (And.intro (@g_verify_ahead_behind_3) (@g_verify_ahead_behind_4)))) (And.intro (And.intro (@g_verify_ahead_behind_5) (@g_verify_ahead_behind_6)) (And.intro (@g_verify_ahead_behind_7) (And.intro (@g_verify_ahead_behind_8) (@g_verify_ahead_behind_9))))) (And.intro (And.intro (And.intro (@g_verify_ahead_behind_10) (@g_verify_ahead_behind_11)) (And.intro (@g_verify_ahead_behind_12) (And.intro (@g_verify_ahead_behind_13) (@g_verify_ahead_behind_14)))) (And.intro (And.intro (@g_verify_ahead_behind_15) (@g_verify_ahead_behind_16)) (And.intro (@g_verify_ahead_behind_17) (And.intro (@g_verify_ahead_behind_18) (@g_verify_ahead_behind_19)))))) := (And.intro (And.intro (And.intro (And.intro (@g_verify_ahead_behind_0) (@g_verify_ahead_behind_1)) (And.intro (@g_verify_ahead_behind_2) (And.intro (@g_verify_ahead_behind_3) (@g_verify_ahead_behind_4)))) (And.intro (And.intro (@g_verify_ahead_behind_5) (@g_verify_ahead_behind_6)) (And.intro (@g_verify_ahead_behind_7) (And.intro (@g_verify_ahead_behind_8) (@g_verify_ahead_behind_9))))) (And.intro (And.intro (And.intro (@g_verify_ahead_behind_10) (@g_verify_ahead_behind_11)) (And.intro (@g_verify_ahead_behind_12) (And.intro (@g_verify_ahead_behind_13) (@g_verify_ahead_behind_14)))) (And.intro (And.intro (@g_verify_ahead_behind_15) (@g_verify_ahead_behind_16)) (And.intro (@g_verify_ahead_behind_17) (And.intro (@g_verify_ahead_behind_18) (@g_verify_ahead_behind_19))))))
def b_verify_ahead_behind : AC :=
 (.seq (.seq (.reg [⟨(some 2), none, .box (.t 0)⟩, ⟨(some 3), none, .box (.t 1)⟩, ⟨(some 4), none, .alloc [(.v (.int .i64 0)), (.v (.slice none 0 0))]⟩, ⟨(some 5), none, .mv (.c (.v (.int .i64 0)))⟩]) (.drop [5, 5]))
 (.seq (.seq (.reg [⟨(some 7), none, .fad 0 (.t 2)⟩, ⟨(some 8), none, .load none (.t 7)⟩, ⟨(some 9), none, .bin .eql (.t 8) (.c (.v (.int .i64 1)))⟩, ⟨(some 6), none, .mv (.t 9)⟩]) (.drop [7, 9]))
  (.seq (.seq (.seq (.reg [⟨(some 10), none, .fad 0 (.t 3)⟩, ⟨(some 11), none, .load none (.t 10)⟩]) (.drop [7, 10]))
    (.block 0 (.seq (.seq (.reg [⟨(some 13), none, .bin .eql (.t 11) (.c (.v (.int .i64 1)))⟩, ⟨(some 12), none, .mv (.t 13)⟩]) (.drop [13, 13]))
      (.cond (.t 12) c_verify_ahead_behind_0
       (.seq (.seq (.reg [⟨(some 19), none, .bin .eql (.t 11) (.c (.v (.int .i64 2)))⟩, ⟨(some 18), none, .mv (.t 19)⟩]) (.drop [19, 19]))
        (.cond (.t 18) c_verify_ahead_behind_1
         c_verify_ahead_behind_19))))))
   (.seq (.seq (.regm [(.o, ⟨(some 115), none, .load (some 2) (.t 2)⟩), (.o, ⟨(some 116), none, .fad 0 (.t 3)⟩), (.o, ⟨(some 117), none, .load none (.t 116)⟩), (.o, ⟨(some 118), none, .fad 1 (.t 3)⟩), (.o, ⟨(some 119), none, .load none (.t 118)⟩), (.o, ⟨(some 122), none, .fad 0 (.t 2)⟩), (.o, ⟨(some 123), none, .load none (.t 122)⟩), (.o, ⟨(some 124), none, .fad 1 (.t 3)⟩), (.o, ⟨(some 125), none, .load none (.t 124)⟩), (.o, ⟨(some 126), none, .bin .eql (.t 123) (.t 125)⟩), (.m, ⟨(some 120), none, .call (.c (.fn 86 [])) [(.t 117), (.t 119)]⟩), (.m, ⟨(some 121), none, .call (.c (.fn 80 [])) [(.t 115), (.t 120)]⟩), (.o, ⟨(some 127), none, .mv (.t 126)⟩), (.o, ⟨(some 128), (some (127, true)), .fad 0 (.t 3)⟩), (.o, ⟨(some 129), (some (127, true)), .load none (.t 128)⟩), (.o, ⟨(some 130), (some (127, true)), .fad 1 (.t 3)⟩), (.o, ⟨(some 131), (some (127, true)), .load none (.t 130)⟩), (.m, ⟨(some 132), (some (127, true)), .call (.c (.fn 87 [])) [(.t 129), (.t 131)]⟩), (.o, ⟨(some 133), none, .pick (.t 127) (.t 132) (.c (.v (.bool false)))⟩), (.m, ⟨(some 134), none, .call (.c (.fn 81 [])) [(.t 133)]⟩), (.o, ⟨none, none, .store 2 (.t 4) (.t 121)⟩), (.o, ⟨(some 5), none, .mv (.t 134)⟩)]) (.drop [6, 134]))
    .ret))))
def a_verify_ahead_behind : AFn := ⟨2, b_verify_ahead_behind, [.cell 4 (some 2), .t 5], false, false⟩
theorem a_verify_ahead_behind_ok : compF Try.prog Try.f62 [[5, 5], [7, 9], [7, 10], [13, 13], [6, 17], [19, 19], [6, 27], [29, 29], [6, 36], [38, 38], [6, 50], [52, 52], [52, 53], [6, 61], [63, 63], [6, 68], [70, 70], [6, 71], [73, 73], [73, 74], [73, 75], [73, 76], [73, 77], [6, 80], [82, 82], [82, 83], [82, 84], [6, 90], [92, 92], [6, 100], [102, 102], [6, 108], [110, 110], [6, 114], [6, 134]] false false hv = some a_verify_ahead_behind := by kernel_rfl

/-! fugleman/verify.on: 63 -/
def b_verify_on : AC :=
 (.seq (.seq (.reg [⟨(some 1), none, .box (.t 0)⟩, ⟨(some 2), none, .mv (.c (.v (.bool false)))⟩]) (.drop [2, 2]))
 (.seq (.seq (.reg [⟨(some 3), none, .fad 0 (.t 1)⟩, ⟨(some 4), none, .load none (.t 3)⟩, ⟨(some 5), none, .bin .neq (.t 4) (.c (.v (.int .i64 25)))⟩, ⟨(some 6), none, .mv (.t 5)⟩, ⟨(some 7), (some (6, true)), .fad 0 (.t 1)⟩, ⟨(some 8), (some (6, true)), .load none (.t 7)⟩, ⟨(some 9), (some (6, true)), .bin .neq (.t 8) (.c (.v (.int .i64 28)))⟩, ⟨(some 10), none, .pick (.t 6) (.t 9) (.c (.v (.bool false)))⟩, ⟨(some 2), none, .mv (.t 10)⟩]) (.drop [3, 10]))
  .ret))
def a_verify_on : AFn := ⟨1, b_verify_on, [.t 2], false, false⟩
theorem a_verify_on_ok : compF Try.prog Try.f63 [[2, 2], [3, 10]] false false hv = some a_verify_on := by kernel_rfl

/-! slices.Equal[[]fugleman/verify.bracket,fugleman/verify.bracket]: 88 -/
def l_verify_bracket_88_1 : AC :=
 (.seq (.seq (.reg [⟨(some 4), none, .mv (.c (.v (.bool true)))⟩]) (.drop []))
 .ret)
def l_verify_bracket_88_0 : AC :=
 (.seq (.seq (.reg [⟨(some 14), none, .bin .lss (.t 13) (.t 12)⟩]) (.drop []))
 (.seq (.cond (.t 14) .skip
   (.exit 0))
  (.seq (.block 1 (.seq (.seq (.reg [⟨(some 15), none, .mv (.t 13)⟩, ⟨(some 5), none, .mv (.t 15)⟩]) (.drop [14, 15]))
     (.seq (.seq (.regq [⟨(some 16), none, .mv (.t 0)⟩, ⟨(some 17), none, .mv (.t 5)⟩, ⟨(some 18), none, .ixs 2 (.t 16) (.t 17)⟩, ⟨(some 19), none, .load (some 2) (.t 18)⟩, ⟨(some 20), none, .mv (.t 1)⟩, ⟨(some 21), none, .mv (.t 5)⟩, ⟨(some 22), none, .ixs 2 (.t 20) (.t 21)⟩, ⟨(some 23), none, .load (some 2) (.t 22)⟩, ⟨(some 24), none, .eqst true [(0, .i), (1, .i)] (.t 19) (.t 23)⟩]) (.drop [14, 23]))
      (.cond (.t 24) (.seq (.seq (.reg [⟨(some 4), none, .mv (.c (.v (.bool false)))⟩]) (.drop []))
        .ret)
       .skip))))
   (.seq (.reg [⟨(some 25), none, .bin .add (.t 13) (.c (.v (.int .i64 1)))⟩, ⟨(some 13), none, .mv (.t 25)⟩]) (.drop [14, 25])))))
def b_verify_bracket_88 : AC :=
 (.seq (.seq (.reg [⟨(some 4), none, .mv (.c (.v (.bool false)))⟩]) (.drop [2, 4]))
 (.seq (.seq (.seq (.reg [⟨(some 6), none, .mv (.t 0)⟩, ⟨(some 7), none, .len (.t 6)⟩, ⟨(some 8), none, .mv (.t 1)⟩, ⟨(some 9), none, .len (.t 8)⟩, ⟨(some 10), none, .bin .neq (.t 7) (.t 9)⟩]) (.drop [2, 9]))
   (.cond (.t 10) (.seq (.seq (.reg [⟨(some 4), none, .mv (.c (.v (.bool false)))⟩]) (.drop []))
     .ret)
    .skip))
  (.seq (.seq (.seq (.reg [⟨(some 11), none, .mv (.t 0)⟩, ⟨(some 12), none, .len (.t 11)⟩, ⟨(some 13), none, .mv (.c (.v (.int .i64 0)))⟩]) (.drop [2, 11]))
    (.block 0 (.loop [0, 1, 12, 13] l_verify_bracket_88_0)))
   l_verify_bracket_88_1)))
def a_verify_bracket_88 : AFn := ⟨2, b_verify_bracket_88, [.t 4], false, false⟩
theorem a_verify_bracket_88_ok : compF Try.prog Try.f88 [[2, 4], [2, 9], [], [2, 11], [0, 1, 12, 13], [], [14, 15], [14, 23], [], [14, 25], []] false false hv = some a_verify_bracket_88 := by kernel_rfl

/-! (fugleman/verify.table).lead: 64 -/
def c_verify_table_lead_0 : AC :=
 (.seq (.seq (.reg [⟨(some 14), none, .mv (.t 0)⟩, ⟨(some 15), none, .mv (.t 1)⟩, ⟨(some 16), none, .ixs 1 (.t 14) (.t 15)⟩, ⟨none, none, .store 1 (.t 16) (.t 5)⟩]) (.drop [0, 16]))
      (.seq (.seq (.reg [⟨(some 6), none, .mv (.c (.v (.bool true)))⟩]) (.drop []))
       .ret))
theorem g_verify_table_lead_0 {C : CT} {lf : Nat} {ks : List It} {s : St} : type_of% (@Sym.go_as C lf ks s _ _ c_verify_table_lead_0.eq_1) := Sym.go_as c_verify_table_lead_0.eq_1
def c_verify_table_lead_1 : AC :=
 (.seq (.reg [⟨(some 24), none, .mv (.t 7)⟩, ⟨(some 25), none, .mv (.t 7)⟩, ⟨(some 26), none, .nilck (.t 25)⟩, ⟨(some 27), none, .load (some 2) (.t 26)⟩, ⟨(some 28), none, .call (.c (.fn 80 [])) [(.t 27), (.c (.v (.int .i64 0)))]⟩, ⟨(some 29), none, .nilck (.t 24)⟩, ⟨none, none, .store 2 (.t 29) (.t 28)⟩]) (.drop [8, 29]))
theorem g_verify_table_lead_1 {C : CT} {lf : Nat} {ks : List It} {s : St} : type_of% (@Sym.go_as C lf ks s _ _ c_verify_table_lead_1.eq_1) := Sym.go_as c_verify_table_lead_1.eq_1
theorem gs_verify_table_lead : type_of% (And.intro (@g_verify_table_lead_0) (@g_verify_table_lead_1)) := (And.intro (@g_verify_table_lead_0) (@g_verify_table_lead_1))
def b_verify_table_lead : AC :=
 (.seq (.seq (.reg [⟨(some 5), none, .box (.t 2)⟩, ⟨(some 6), none, .mv (.c (.v (.bool false)))⟩]) (.drop [6, 6]))
 (.seq (.seq (.reg [⟨(some 8), none, .mv (.t 0)⟩, ⟨(some 9), none, .mv (.t 1)⟩, ⟨(some 10), none, .ixs 1 (.t 8) (.t 9)⟩, ⟨(some 11), none, .load none (.t 10)⟩, ⟨(some 7), none, .mv (.t 11)⟩]) (.drop [8, 11]))
  (.seq (.seq (.seq (.reg [⟨(some 12), none, .mv (.t 7)⟩, ⟨(some 13), none, .eqp false (.t 12) (.c (.v (.pointer none)))⟩]) (.drop [8, 12]))
    (.cond (.t 13) c_verify_table_lead_0
     .skip))
   (.seq (.seq (.seq (.regq [⟨(some 17), none, .mv (.t 7)⟩, ⟨(some 18), none, .nilck (.t 17)⟩, ⟨(some 19), none, .fad 0 (.t 18)⟩, ⟨(some 20), none, .load none (.t 19)⟩, ⟨(some 21), none, .fad 0 (.t 5)⟩, ⟨(some 22), none, .load none (.t 21)⟩, ⟨(some 23), none, .bin .neq (.t 20) (.t 22)⟩]) (.drop [8, 22]))
     (.cond (.t 23) c_verify_table_lead_1
      .skip))
    (.seq (.seq (.regq [⟨(some 30), none, .mv (.t 7)⟩, ⟨(some 31), none, .nilck (.t 30)⟩, ⟨(some 32), none, .fad 1 (.t 31)⟩, ⟨(some 33), none, .load none (.t 32)⟩, ⟨(some 34), none, .fad 1 (.t 5)⟩, ⟨(some 35), none, .load none (.t 34)⟩, ⟨(some 36), none, .call (.c (.fn 88 [])) [(.t 33), (.t 35)]⟩, ⟨(some 6), none, .mv (.t 36)⟩]) (.drop [7, 36]))
     .ret)))))
def a_verify_table_lead : AFn := ⟨3, b_verify_table_lead, [.t 6], false, true⟩
theorem a_verify_table_lead_ok : compF Try.prog Try.f64 [[6, 6], [8, 11], [8, 12], [0, 16], [], [8, 22], [8, 29], [7, 36]] false true hv = some a_verify_table_lead := by kernel_rfl

/-! fugleman/verify.all: 53 -/
def l_verify_all_1 : AC :=
 (.seq (.seq (.seq (.reg [⟨(some 93), none, .mv (.t 5)⟩, ⟨(some 94), none, .mv (.t 0)⟩, ⟨(some 95), none, .len (.t 94)⟩, ⟨(some 96), none, .ixs 1 (.t 93) (.t 95)⟩, ⟨(some 97), none, .load none (.t 96)⟩, ⟨(some 10), none, .mv (.t 97)⟩]) (.drop [11, 97]))
  (.seq (.seq (.reg [⟨(some 98), none, .mv (.t 10)⟩, ⟨(some 99), none, .eqp true (.t 98) (.c (.v (.pointer none)))⟩, ⟨(some 100), none, .mv (.t 99)⟩, ⟨(some 101), (some (100, true)), .mv (.t 10)⟩, ⟨(some 102), (some (100, true)), .nilck (.t 101)⟩, ⟨(some 103), (some (100, true)), .fad 1 (.t 102)⟩, ⟨(some 104), (some (100, true)), .load none (.t 103)⟩, ⟨(some 105), (some (100, true)), .len (.t 104)⟩, ⟨(some 106), (some (100, true)), .bin .gtr (.t 105) (.c (.v (.int .i64 0)))⟩, ⟨(some 107), none, .pick (.t 100) (.t 106) (.c (.v (.bool false)))⟩]) (.drop [6, 106]))
   (.cond (.t 107) (.seq (.seq (.reg [⟨(some 108), none, .mv (.t 0)⟩, ⟨(some 109), none, .len (.t 108)⟩, ⟨(some 2), none, .mv (.c (.v (.slice none 0 0)))⟩, ⟨(some 3), none, .mv (.c (.v (.int .i64 3)))⟩, ⟨(some 4), none, .mv (.t 109)⟩]) (.drop [5, 109]))
     .ret)
    .skip)))
 (.seq (.seq (.reg [⟨(some 110), none, .mv (.t 5)⟩, ⟨(some 2), none, .mv (.t 110)⟩, ⟨(some 3), none, .mv (.c (.v (.int .i64 0)))⟩, ⟨(some 4), none, .mv (.c (.v (.int .i64 0)))⟩]) (.drop [5, 110]))
  .ret))
def l_verify_all_0 : AC :=
 (.seq (.seq (.reg [⟨(some 25), none, .bin .lss (.t 24) (.t 23)⟩]) (.drop []))
 (.seq (.cond (.t 25) .skip
   (.exit 0))
  (.seq (.block 1 (.seq (.seq (.reg [⟨(some 26), none, .mv (.t 24)⟩, ⟨(some 27), none, .ixs 5 (.t 22) (.t 24)⟩, ⟨(some 28), none, .load (some 5) (.t 27)⟩, ⟨(some 7), none, .alloc [(.v (.int .i64 0)), (.v (.int .i64 0)), (.v (.int .i64 0)), (.v (.int .i64 0)), (.v (.int .i64 0))]⟩, ⟨(some 6), none, .mv (.t 26)⟩, ⟨none, none, .store 5 (.t 7) (.t 28)⟩]) (.drop [25, 28]))
     (.seq (.seq (.seq (.reg [⟨(some 29), none, .load (some 5) (.t 7)⟩, ⟨(some 30), none, .call (.c (.fn 60 [])) [(.t 29)]⟩, ⟨(some 31), none, .un .not (.t 30)⟩]) (.drop [25, 30]))
       (.cond (.t 31) (.seq (.seq (.reg [⟨(some 32), none, .mv (.t 6)⟩, ⟨(some 2), none, .mv (.c (.v (.slice none 0 0)))⟩, ⟨(some 3), none, .mv (.c (.v (.int .i64 3)))⟩, ⟨(some 4), none, .mv (.t 32)⟩]) (.drop [5, 32]))
         .ret)
        .skip))
      (.seq (.seq (.seq (.reg [⟨(some 33), none, .mv (.t 5)⟩, ⟨(some 34), none, .mv (.t 6)⟩, ⟨(some 35), none, .ixs 1 (.t 33) (.t 34)⟩, ⟨(some 36), none, .load none (.t 35)⟩, ⟨(some 37), none, .eqp false (.t 36) (.c (.v (.pointer none)))⟩]) (.drop [25, 36]))
        (.cond (.t 37) (.exit 1)
         .skip))
       (.seq (.seq (.seq (.reg [⟨(some 38), none, .load (some 5) (.t 7)⟩, ⟨(some 39), none, .call (.c (.fn 61 [])) [(.t 38)]⟩, ⟨(some 40), none, .mv (.t 39)⟩, ⟨(some 41), (some (40, true)), .fad 3 (.t 7)⟩, ⟨(some 42), (some (40, true)), .load none (.t 41)⟩, ⟨(some 43), (some (40, true)), .mv (.t 6)⟩, ⟨(some 44), (some (40, true)), .bin .leq (.t 42) (.t 43)⟩, ⟨(some 45), (some (40, true)), .mv (.t 44)⟩, ⟨(some 46), (some (45, false)), .fad 3 (.t 7)⟩, ⟨(some 47), (some (45, false)), .load none (.t 46)⟩, ⟨(some 48), (some (45, false)), .mv (.t 0)⟩, ⟨(some 49), (some (45, false)), .len (.t 48)⟩, ⟨(some 50), (some (45, false)), .bin .gtr (.t 47) (.t 49)⟩, ⟨(some 51), (some (40, true)), .pick (.t 45) (.c (.v (.bool true))) (.t 50)⟩, ⟨(some 52), none, .pick (.t 40) (.t 51) (.c (.v (.bool false)))⟩]) (.drop [25, 51]))
         (.cond (.t 52) (.seq (.seq (.reg [⟨(some 53), none, .mv (.t 6)⟩, ⟨(some 2), none, .mv (.c (.v (.slice none 0 0)))⟩, ⟨(some 3), none, .mv (.c (.v (.int .i64 7)))⟩, ⟨(some 4), none, .mv (.t 53)⟩]) (.drop [5, 53]))
           .ret)
          .skip))
        (.seq (.seq (.regx (.op .o ⟨(some 55), none, .mv (.t 5)⟩
            (.op .o ⟨(some 56), none, .mv (.t 6)⟩
             (.op .o ⟨(some 57), none, .ixs 1 (.t 55) (.t 56)⟩
              (.op .o ⟨(some 58), none, .load none (.t 57)⟩
               (.op .o ⟨(some 59), none, .nilck (.t 58)⟩
                (.op .o ⟨(some 60), none, .load (some 2) (.t 59)⟩
                 (.op .o ⟨(some 61), none, .load (some 5) (.t 7)⟩
                  (.alt (.op .m ⟨(some 62), none, .call (.c (.fn 62 [])) [(.t 60), (.t 61)]⟩
                    (.op .o ⟨(some 54), none, .mv (.t 62)⟩
                     (.op .o ⟨(some 63), none, .ext 0 (.t 54)⟩
                      (.op .o ⟨(some 64), none, .ext 1 (.t 54)⟩
                       (.op .o ⟨(some 8), none, .alloc [(.v (.int .i64 0)), (.v (.slice none 0 0))]⟩
                        (.op .o ⟨none, none, .store 2 (.t 8) (.t 63)⟩
                         (.op .o ⟨(some 9), none, .mv (.t 64)⟩
                          .nil)))))))
                   (.op .o ⟨(some 8), none, .alloc [(.v (.int .i64 0)), (.v (.slice none 0 0))]⟩
                    (.op .m ⟨(some 62), none, .call (.c (.fn 62 [])) [(.t 60), (.t 61)]⟩
                     (.op .o ⟨(some 54), none, .mv (.t 62)⟩
                      (.op .o ⟨(some 63), none, .ext 0 (.t 54)⟩
                       (.op .o ⟨(some 64), none, .ext 1 (.t 54)⟩
                        (.op .o ⟨none, none, .store 2 (.t 8) (.t 63)⟩
                         (.op .o ⟨(some 9), none, .mv (.t 64)⟩
                          .nil)))))))))))))))) (.drop [25, 64]))
         (.seq (.seq (.seq (.reg [⟨(some 65), none, .mv (.t 9)⟩, ⟨(some 66), none, .bin .neq (.t 65) (.c (.v (.int .i64 0)))⟩]) (.drop [25, 65]))
           (.cond (.t 66) (.seq (.seq (.reg [⟨(some 67), none, .mv (.t 9)⟩, ⟨(some 68), none, .mv (.t 6)⟩, ⟨(some 2), none, .mv (.c (.v (.slice none 0 0)))⟩, ⟨(some 3), none, .mv (.t 67)⟩, ⟨(some 4), none, .mv (.t 68)⟩]) (.drop [5, 68]))
             .ret)
            .skip))
          (.seq (.seq (.reg [⟨(some 69), none, .load (some 5) (.t 7)⟩, ⟨(some 70), none, .call (.c (.fn 63 [])) [(.t 69)]⟩, ⟨(some 71), none, .mv (.t 70)⟩, ⟨(some 72), (some (71, true)), .mv (.t 5)⟩, ⟨(some 73), (some (71, true)), .mv (.t 6)⟩, ⟨(some 74), (some (71, true)), .bin .add (.t 73) (.c (.v (.int .i64 1)))⟩, ⟨(some 75), (some (71, true)), .load (some 2) (.t 8)⟩, ⟨(some 76), (some (71, true)), .call (.c (.fn 64 [])) [(.t 72), (.t 74), (.t 75)]⟩, ⟨(some 77), (some (71, true)), .un .not (.t 76)⟩, ⟨(some 78), none, .pick (.t 71) (.t 77) (.c (.v (.bool false)))⟩, ⟨(some 79), none, .mv (.t 78)⟩, ⟨(some 80), (some (79, false)), .load (some 5) (.t 7)⟩, ⟨(some 81), (some (79, false)), .call (.c (.fn 61 [])) [(.t 80)]⟩, ⟨(some 82), (some (79, false)), .mv (.t 81)⟩, ⟨(some 83), (some (82, true)), .mv (.t 5)⟩, ⟨(some 84), (some (82, true)), .fad 3 (.t 7)⟩, ⟨(some 85), (some (82, true)), .load none (.t 84)⟩, ⟨(some 86), (some (82, true)), .load (some 2) (.t 8)⟩, ⟨(some 87), (some (82, true)), .call (.c (.fn 64 [])) [(.t 83), (.t 85), (.t 86)]⟩, ⟨(some 88), (some (82, true)), .un .not (.t 87)⟩, ⟨(some 89), (some (79, false)), .pick (.t 82) (.t 88) (.c (.v (.bool false)))⟩, ⟨(some 90), none, .pick (.t 79) (.c (.v (.bool true))) (.t 89)⟩]) (.drop [25, 89]))
           (.cond (.t 90) (.seq (.seq (.reg [⟨(some 91), none, .mv (.t 6)⟩, ⟨(some 2), none, .mv (.c (.v (.slice none 0 0)))⟩, ⟨(some 3), none, .mv (.c (.v (.int .i64 7)))⟩, ⟨(some 4), none, .mv (.t 91)⟩]) (.drop [5, 91]))
             .ret)
            .skip)))))))))
   (.seq (.reg [⟨(some 92), none, .bin .add (.t 24) (.c (.v (.int .i64 1)))⟩, ⟨(some 24), none, .mv (.t 92)⟩]) (.drop [25, 92])))))
def b_verify_all : AC :=
 (.seq (.seq (.reg [⟨(some 2), none, .mv (.c (.v (.slice none 0 0)))⟩, ⟨(some 3), none, .mv (.c (.v (.int .i64 0)))⟩, ⟨(some 4), none, .mv (.c (.v (.int .i64 0)))⟩]) (.drop [1, 4]))
 (.seq (.seq (.seq (.reg [⟨(some 11), none, .mv (.t 0)⟩, ⟨(some 12), none, .len (.t 11)⟩, ⟨(some 13), none, .bin .gtr (.t 12) (.c (.v (.int .i64 200)))⟩]) (.drop [1, 12]))
   (.cond (.t 13) (.seq (.seq (.reg [⟨(some 2), none, .mv (.c (.v (.slice none 0 0)))⟩, ⟨(some 3), none, .mv (.c (.v (.int .i64 2)))⟩, ⟨(some 4), none, .mv (.c (.v (.int .i64 200)))⟩]) (.drop []))
     .ret)
    .skip))
  (.seq (.seq (.reg [⟨(some 14), none, .mv (.t 0)⟩, ⟨(some 15), none, .len (.t 14)⟩, ⟨(some 16), none, .bin .add (.t 15) (.c (.v (.int .i64 1)))⟩, ⟨(some 17), none, .mks 1 8 [(.v (.pointer none))] (.t 16) (.t 16)⟩, ⟨(some 5), none, .mv (.t 17)⟩]) (.drop [6, 17]))
   (.seq (.seq (.reg [⟨(some 18), none, .mv (.t 5)⟩, ⟨(some 19), none, .build [(.v (.int .i64 0)), (.v (.slice none 0 0))] []⟩, ⟨(some 20), none, .box (.t 19)⟩, ⟨(some 21), none, .ixs 1 (.t 18) (.c (.v (.int .i64 0)))⟩, ⟨none, none, .store 1 (.t 21) (.t 20)⟩]) (.drop [6, 21]))
    (.seq (.seq (.seq (.reg [⟨(some 22), none, .mv (.t 0)⟩, ⟨(some 23), none, .len (.t 22)⟩, ⟨(some 24), none, .mv (.c (.v (.int .i64 0)))⟩]) (.drop []))
      (.block 0 (.loop [0, 5, 22, 23, 24] l_verify_all_0)))
     l_verify_all_1)))))
def a_verify_all : AFn := ⟨1, b_verify_all, [.t 2, .t 3, .t 4], false, false⟩
theorem a_verify_all_ok : compF Try.prog Try.f53 [[1, 4], [1, 12], [], [6, 17], [6, 21], [], [0, 5, 22, 23, 24], [], [25, 28], [25, 30], [5, 32], [25, 36], [25, 51], [5, 53], [25, 64], [25, 65], [5, 68], [25, 89], [5, 91], [25, 92], [11, 97], [6, 106], [5, 109], [5, 110]] false false hv = some a_verify_all := by kernel_rfl

/-! fugleman/verify.Check: 38 -/
def b_verify_Check : AC :=
 (.seq (.seq (.reg [⟨(some 2), none, .mv (.c (.v (.int .i64 0)))⟩, ⟨(some 3), none, .mv (.c (.v (.int .i64 0)))⟩]) (.drop [1, 3]))
 (.seq (.seq (.reg [⟨(some 8), none, .mv (.t 0)⟩, ⟨(some 9), none, .call (.c (.fn 53 [])) [(.t 8)]⟩, ⟨(some 7), none, .mv (.t 9)⟩, ⟨(some 10), none, .ext 0 (.t 7)⟩, ⟨(some 11), none, .ext 1 (.t 7)⟩, ⟨(some 12), none, .ext 2 (.t 7)⟩, ⟨(some 4), none, .mv (.t 10)⟩, ⟨(some 5), none, .mv (.t 11)⟩, ⟨(some 6), none, .mv (.t 12)⟩]) (.drop [0, 4, 7, 12]))
  (.seq (.seq (.reg [⟨(some 13), none, .mv (.t 5)⟩, ⟨(some 14), none, .mv (.t 6)⟩, ⟨(some 2), none, .mv (.t 13)⟩, ⟨(some 3), none, .mv (.t 14)⟩]) (.drop [4, 14]))
   .ret)))
def a_verify_Check : AFn := ⟨1, b_verify_Check, [.t 2, .t 3], false, false⟩
theorem a_verify_Check_ok : compF Try.prog Try.f38 [[1, 3], [0, 4, 7, 12], [4, 14]] false false hv = some a_verify_Check := by kernel_rfl

/-! fugleman/image.Reach: 39 -/
def b_image_Reach : AC :=
 (.seq (.seq (.reg [⟨(some 4), none, .mv (.c (.v (.int .i64 0)))⟩, ⟨(some 5), none, .mv (.c (.v (.int .i64 0)))⟩]) (.drop [2, 5]))
 (.seq (.seq (.reg [⟨(some 6), none, .mv (.t 0)⟩, ⟨(some 7), none, .mv (.t 1)⟩, ⟨(some 8), none, .call (.c (.fn 51 [])) [(.c (.v (.int .u64 0))), (.t 6), (.t 7), (.c (.v (.bool false)))]⟩, ⟨(some 9), none, .ext 0 (.t 8)⟩, ⟨(some 10), none, .ext 1 (.t 8)⟩, ⟨(some 4), none, .mv (.t 9)⟩, ⟨(some 5), none, .mv (.t 10)⟩]) (.drop [6, 10]))
  .ret))
def a_image_Reach : AFn := ⟨2, b_image_Reach, [.t 4, .t 5], false, false⟩
theorem a_image_Reach_ok : compF Try.prog Try.f39 [[2, 5], [6, 10]] false false hv = some a_image_Reach := by kernel_rfl

/-! fugleman/config.owns: 40 -/
def b_config_owns : AC :=
 (.seq (.seq (.reg [⟨(some 2), none, .box (.t 0)⟩, ⟨(some 3), none, .box (.t 1)⟩, ⟨(some 4), none, .mv (.c (.v (.bool false)))⟩]) (.drop [4, 4]))
 (.seq (.seq (.reg [⟨(some 5), none, .fad 5 (.t 3)⟩, ⟨(some 6), none, .load none (.t 5)⟩, ⟨(some 7), none, .mkf 54 [(.t 2), (.t 3)]⟩, ⟨(some 8), none, .call (.c (.fn 31 [])) [(.t 6), (.t 7)]⟩, ⟨(some 9), none, .un .not (.t 8)⟩, ⟨(some 4), none, .mv (.t 9)⟩]) (.drop [5, 9]))
  .ret))
def a_config_owns : AFn := ⟨2, b_config_owns, [.t 4], false, false⟩
theorem a_config_owns_ok : compF Try.prog Try.f40 [[4, 4], [5, 9]] false false hv = some a_config_owns := by kernel_rfl

/-! fugleman/config.station: 22 -/
def c_config_station_0 : AC :=
 (.seq (.seq (.reg [⟨(some 31), none, .load (some 8) (.t 2)⟩, ⟨(some 32), none, .fad 0 (.t 5)⟩, ⟨(some 33), none, .load none (.t 32)⟩, ⟨(some 34), none, .call (.c (.fn 26 [])) [(.t 31), (.t 33)]⟩, ⟨(some 35), none, .mv (.t 1)⟩, ⟨(some 36), none, .bin .lss (.t 34) (.t 35)⟩, ⟨(some 30), none, .mv (.t 36)⟩]) (.drop [31, 36]))
       (.cond (.t 30) (.seq (.seq (.reg [⟨(some 4), none, .mv (.c (.v (.int .i64 14)))⟩]) (.drop []))
         .ret)
        .skip))
theorem g_config_station_0 {C : CT} {lf : Nat} {ks : List It} {s : St} : type_of% (@Sym.go_as C lf ks s _ _ c_config_station_0.eq_1) := Sym.go_as c_config_station_0.eq_1
def b_config_station : AC :=
 (.seq (.seq (.reg [⟨(some 2), none, .box (.t 0)⟩, ⟨(some 4), none, .mv (.c (.v (.int .i64 0)))⟩]) (.drop [3, 4]))
 (.seq (.seq (.reg [⟨(some 12), none, .fad 7 (.t 2)⟩, ⟨(some 13), none, .load none (.t 12)⟩, ⟨(some 14), none, .mv (.t 1)⟩, ⟨(some 15), none, .ixs 6 (.t 13) (.t 14)⟩, ⟨(some 16), none, .load (some 6) (.t 15)⟩, ⟨(some 5), none, .alloc [(.v (.int .i64 0)), (.v (.int .i64 0)), (.v (.int .i64 0)), (.v (.slice none 0 0)), (.v (.slice none 0 0)), (.v (.slice none 0 0))]⟩, ⟨none, none, .store 6 (.t 5) (.t 16)⟩]) (.drop [6, 16]))
  (.seq (.block 0 (.seq (.seq (.reg [⟨(some 18), none, .fad 0 (.t 5)⟩, ⟨(some 19), none, .load none (.t 18)⟩, ⟨(some 20), none, .fad 5 (.t 2)⟩, ⟨(some 21), none, .load none (.t 20)⟩, ⟨(some 22), none, .call (.c (.fn 21 [])) [(.t 19), (.c (.v (.int .i64 0))), (.t 21)]⟩, ⟨(some 23), none, .un .not (.t 22)⟩, ⟨(some 24), none, .mv (.t 23)⟩, ⟨(some 25), (some (24, false)), .fad 1 (.t 5)⟩, ⟨(some 26), (some (24, false)), .load none (.t 25)⟩, ⟨(some 27), (some (24, false)), .call (.c (.fn 21 [])) [(.t 26), (.c (.v (.int .i64 1))), (.c (.v (.int .i64 1000)))]⟩, ⟨(some 28), (some (24, false)), .un .not (.t 27)⟩, ⟨(some 29), none, .pick (.t 24) (.c (.v (.bool true))) (.t 28)⟩, ⟨(some 17), none, .mv (.t 29)⟩]) (.drop [18, 29]))
     (.cond (.t 17) (.seq (.seq (.reg [⟨(some 4), none, .mv (.c (.v (.int .i64 3)))⟩]) (.drop []))
       .ret)
      c_config_station_0)))
   (.seq (.seq (.seq (.reg [⟨(some 38), none, .fad 2 (.t 5)⟩, ⟨(some 39), none, .load none (.t 38)⟩, ⟨(some 40), none, .fad 4 (.t 5)⟩, ⟨(some 41), none, .load none (.t 40)⟩, ⟨(some 42), none, .fad 6 (.t 2)⟩, ⟨(some 43), none, .load none (.t 42)⟩, ⟨(some 44), none, .call (.c (.fn 37 [])) [(.t 39), (.t 41), (.t 43)]⟩, ⟨(some 37), none, .mv (.t 44)⟩, ⟨(some 45), none, .ext 0 (.t 37)⟩, ⟨(some 46), none, .ext 1 (.t 37)⟩, ⟨(some 6), none, .mv (.t 45)⟩, ⟨(some 7), none, .mv (.t 46)⟩]) (.drop [7, 46]))
     (.seq (.seq (.reg [⟨(some 47), none, .mv (.t 6)⟩, ⟨(some 48), none, .bin .neq (.t 47) (.c (.v (.int .i64 0)))⟩]) (.drop [7, 47]))
      (.cond (.t 48) (.seq (.seq (.reg [⟨(some 49), none, .mv (.t 6)⟩, ⟨(some 4), none, .mv (.t 49)⟩]) (.drop [5, 49]))
        .ret)
       .skip)))
    (.seq (.seq (.seq (.reg [⟨(some 51), none, .fad 3 (.t 5)⟩, ⟨(some 52), none, .load none (.t 51)⟩, ⟨(some 53), none, .call (.c (.fn 38 [])) [(.t 52)]⟩, ⟨(some 50), none, .mv (.t 53)⟩, ⟨(some 54), none, .ext 0 (.t 50)⟩, ⟨(some 55), none, .ext 1 (.t 50)⟩, ⟨(some 8), none, .mv (.t 54)⟩, ⟨(some 9), none, .mv (.t 55)⟩]) (.drop [9, 55]))
      (.seq (.seq (.reg [⟨(some 56), none, .mv (.t 8)⟩, ⟨(some 57), none, .bin .neq (.t 56) (.c (.v (.int .i64 0)))⟩]) (.drop [9, 56]))
       (.cond (.t 57) (.seq (.seq (.reg [⟨(some 58), none, .mv (.t 8)⟩, ⟨(some 4), none, .mv (.t 58)⟩]) (.drop [5, 58]))
         .ret)
        .skip)))
     (.seq (.seq (.seq (.reg [⟨(some 60), none, .fad 5 (.t 5)⟩, ⟨(some 61), none, .load none (.t 60)⟩, ⟨(some 62), none, .fad 6 (.t 2)⟩, ⟨(some 63), none, .load none (.t 62)⟩, ⟨(some 64), none, .call (.c (.fn 39 [])) [(.t 61), (.t 63)]⟩, ⟨(some 59), none, .mv (.t 64)⟩, ⟨(some 65), none, .ext 0 (.t 59)⟩, ⟨(some 66), none, .ext 1 (.t 59)⟩, ⟨(some 10), none, .mv (.t 65)⟩, ⟨(some 11), none, .mv (.t 66)⟩]) (.drop [11, 66]))
       (.seq (.seq (.reg [⟨(some 67), none, .mv (.t 10)⟩, ⟨(some 68), none, .bin .neq (.t 67) (.c (.v (.int .i64 0)))⟩]) (.drop [11, 67]))
        (.cond (.t 68) (.seq (.seq (.reg [⟨(some 69), none, .mv (.t 10)⟩, ⟨(some 4), none, .mv (.t 69)⟩]) (.drop [5, 69]))
          .ret)
         .skip)))
      (.seq (.seq (.seq (.reg [⟨(some 70), none, .load (some 8) (.t 2)⟩, ⟨(some 71), none, .load (some 6) (.t 5)⟩, ⟨(some 72), none, .call (.c (.fn 40 [])) [(.t 70), (.t 71)]⟩, ⟨(some 73), none, .un .not (.t 72)⟩]) (.drop [0, 72]))
        (.cond (.t 73) (.seq (.seq (.reg [⟨(some 4), none, .mv (.c (.v (.int .i64 5)))⟩]) (.drop []))
          .ret)
         .skip))
       (.seq (.seq (.reg [⟨(some 4), none, .mv (.c (.v (.int .i64 0)))⟩]) (.drop []))
        .ret))))))))
def a_config_station : AFn := ⟨2, b_config_station, [.t 4], false, false⟩
theorem a_config_station_ok : compF Try.prog Try.f22 [[3, 4], [6, 16], [18, 29], [], [31, 36], [], [7, 46], [7, 47], [5, 49], [9, 55], [9, 56], [5, 58], [11, 66], [11, 67], [5, 69], [0, 72], [], []] false false hv = some a_config_station := by kernel_rfl

/-! fugleman/config.Check: 8 -/
def l_config_Check_1 : AC :=
 (.seq (.seq (.reg [⟨(some 2), none, .mv (.c (.v (.int .i64 0)))⟩, ⟨(some 3), none, .mv (.c (.v (.int .i64 0)))⟩]) (.drop []))
 .ret)
def l_config_Check_0 : AC :=
 (.seq (.seq (.reg [⟨(some 31), none, .bin .lss (.t 30) (.t 29)⟩]) (.drop []))
 (.seq (.cond (.t 31) .skip
   (.exit 0))
  (.seq (.block 1 (.seq (.seq (.reg [⟨(some 32), none, .mv (.t 30)⟩, ⟨(some 6), none, .mv (.t 32)⟩]) (.drop [31, 32]))
     (.seq (.seq (.reg [⟨(some 33), none, .load (some 8) (.t 1)⟩, ⟨(some 34), none, .mv (.t 6)⟩, ⟨(some 35), none, .call (.c (.fn 22 [])) [(.t 33), (.t 34)]⟩, ⟨(some 7), none, .mv (.t 35)⟩]) (.drop [31, 35]))
      (.seq (.seq (.reg [⟨(some 36), none, .mv (.t 7)⟩, ⟨(some 37), none, .bin .neq (.t 36) (.c (.v (.int .i64 0)))⟩]) (.drop [31, 36]))
       (.cond (.t 37) (.seq (.seq (.reg [⟨(some 38), none, .mv (.t 7)⟩, ⟨(some 39), none, .mv (.t 6)⟩, ⟨(some 40), none, .bin .add (.c (.v (.int .i64 100))) (.t 39)⟩, ⟨(some 2), none, .mv (.t 38)⟩, ⟨(some 3), none, .mv (.t 40)⟩]) (.drop [4, 40]))
         .ret)
        .skip)))))
   (.seq (.reg [⟨(some 41), none, .bin .add (.t 30) (.c (.v (.int .i64 1)))⟩, ⟨(some 30), none, .mv (.t 41)⟩]) (.drop [31, 41])))))
def b_config_Check : AC :=
 (.seq (.seq (.reg [⟨(some 1), none, .box (.t 0)⟩, ⟨(some 2), none, .mv (.c (.v (.int .i64 0)))⟩, ⟨(some 3), none, .mv (.c (.v (.int .i64 0)))⟩]) (.drop [2, 3]))
 (.seq (.seq (.seq (.reg [⟨(some 8), none, .load (some 8) (.t 1)⟩, ⟨(some 9), none, .call (.c (.fn 19 [])) [(.t 8)]⟩, ⟨(some 10), none, .un .not (.t 9)⟩]) (.drop [2, 9]))
   (.cond (.t 10) (.seq (.seq (.reg [⟨(some 2), none, .mv (.c (.v (.int .i64 3)))⟩, ⟨(some 3), none, .mv (.c (.v (.int .i64 0)))⟩]) (.drop []))
     .ret)
    .skip))
  (.seq (.seq (.seq (.reg [⟨(some 12), none, .fad 6 (.t 1)⟩, ⟨(some 13), none, .load none (.t 12)⟩, ⟨(some 14), none, .call (.c (.fn 20 [])) [(.t 13)]⟩, ⟨(some 11), none, .mv (.t 14)⟩, ⟨(some 15), none, .ext 0 (.t 11)⟩, ⟨(some 16), none, .ext 1 (.t 11)⟩, ⟨(some 4), none, .mv (.t 15)⟩, ⟨(some 5), none, .mv (.t 16)⟩]) (.drop [6, 16]))
    (.seq (.seq (.reg [⟨(some 17), none, .mv (.t 4)⟩, ⟨(some 18), none, .bin .neq (.t 17) (.c (.v (.int .i64 0)))⟩]) (.drop [6, 17]))
     (.cond (.t 18) (.seq (.seq (.reg [⟨(some 19), none, .mv (.t 4)⟩, ⟨(some 20), none, .mv (.t 5)⟩, ⟨(some 21), none, .bin .add (.c (.v (.int .i64 1))) (.t 20)⟩, ⟨(some 2), none, .mv (.t 19)⟩, ⟨(some 3), none, .mv (.t 21)⟩]) (.drop [4, 21]))
       .ret)
      .skip)))
   (.seq (.seq (.seq (.reg [⟨(some 22), none, .fad 7 (.t 1)⟩, ⟨(some 23), none, .load none (.t 22)⟩, ⟨(some 24), none, .len (.t 23)⟩, ⟨(some 25), none, .call (.c (.fn 21 [])) [(.t 24), (.c (.v (.int .i64 1))), (.c (.v (.int .i64 32)))]⟩, ⟨(some 26), none, .un .not (.t 25)⟩]) (.drop [2, 25]))
     (.cond (.t 26) (.seq (.seq (.reg [⟨(some 2), none, .mv (.c (.v (.int .i64 2)))⟩, ⟨(some 3), none, .mv (.c (.v (.int .i64 100)))⟩]) (.drop []))
       .ret)
      .skip))
    (.seq (.seq (.seq (.reg [⟨(some 27), none, .fad 7 (.t 1)⟩, ⟨(some 28), none, .load none (.t 27)⟩, ⟨(some 29), none, .len (.t 28)⟩, ⟨(some 30), none, .mv (.c (.v (.int .i64 0)))⟩]) (.drop [2, 28]))
      (.block 0 (.loop [1, 29, 30] l_config_Check_0)))
     l_config_Check_1)))))
def a_config_Check : AFn := ⟨1, b_config_Check, [.t 2, .t 3], false, false⟩
theorem a_config_Check_ok : compF Try.prog Try.f8 [[2, 3], [2, 9], [], [6, 16], [6, 17], [4, 21], [2, 25], [], [2, 28], [1, 29, 30], [], [31, 32], [31, 35], [31, 36], [4, 40], [31, 41], []] false false hv = some a_config_Check := by kernel_rfl

/-! fugleman/config.Find: 10 -/
def c_config_Find_0 : AC :=
 (.seq (.seq (.reg [⟨(some 12), none, .build [(.v (.int .i64 0)), (.v (.int .i64 0)), (.v (.int .i64 0)), (.v (.slice none 0 0)), (.v (.slice none 0 0)), (.v (.slice none 0 0))] []⟩, ⟨none, none, .store 6 (.t 4) (.t 12)⟩, ⟨(some 5), none, .mv (.c (.v (.bool false)))⟩]) (.drop [6, 12]))
      .ret)
def b_config_Find : AC :=
 (.seq (.seq (.reg [⟨(some 2), none, .box (.t 0)⟩, ⟨(some 4), none, .alloc [(.v (.int .i64 0)), (.v (.int .i64 0)), (.v (.int .i64 0)), (.v (.slice none 0 0)), (.v (.slice none 0 0)), (.v (.slice none 0 0))]⟩, ⟨(some 5), none, .mv (.c (.v (.bool false)))⟩]) (.drop [5, 5]))
 (.seq (.seq (.reg [⟨(some 7), none, .load (some 8) (.t 2)⟩, ⟨(some 8), none, .mv (.t 1)⟩, ⟨(some 9), none, .call (.c (.fn 26 [])) [(.t 7), (.t 8)]⟩, ⟨(some 6), none, .mv (.t 9)⟩]) (.drop [7, 9]))
  (.seq (.seq (.seq (.reg [⟨(some 10), none, .mv (.t 6)⟩, ⟨(some 11), none, .bin .lss (.t 10) (.c (.v (.int .i64 0)))⟩]) (.drop [7, 10]))
    (.cond (.t 11) c_config_Find_0
     .skip))
   (.seq (.seq (.reg [⟨(some 13), none, .fad 7 (.t 2)⟩, ⟨(some 14), none, .load none (.t 13)⟩, ⟨(some 15), none, .mv (.t 6)⟩, ⟨(some 16), none, .ixs 6 (.t 14) (.t 15)⟩, ⟨(some 17), none, .load (some 6) (.t 16)⟩, ⟨none, none, .store 6 (.t 4) (.t 17)⟩, ⟨(some 5), none, .mv (.c (.v (.bool true)))⟩]) (.drop [6, 17]))
    .ret))))
def a_config_Find : AFn := ⟨2, b_config_Find, [.cell 4 (some 6), .t 5], false, false⟩
theorem a_config_Find_ok : compF Try.prog Try.f10 [[5, 5], [7, 9], [7, 10], [6, 12], [6, 17]] false false hv = some a_config_Find := by kernel_rfl

/-! fugleman/members.is: 72 -/
def b_members_is : AC :=
 (.seq (.seq (.reg [⟨(some 2), none, .mv (.c (.v (.bool false)))⟩]) (.drop [1, 2]))
 (.seq (.seq (.reg [⟨(some 3), none, .mv (.t 0)⟩, ⟨(some 4), none, .bin .geq (.t 3) (.c (.v (.int .i64 0)))⟩, ⟨(some 5), none, .mv (.t 4)⟩, ⟨(some 6), (some (5, true)), .mv (.t 0)⟩, ⟨(some 7), (some (5, true)), .bin .lss (.t 6) (.c (.v (.int .i64 32)))⟩, ⟨(some 8), none, .pick (.t 5) (.t 7) (.c (.v (.bool false)))⟩, ⟨(some 2), none, .mv (.t 8)⟩]) (.drop [3, 8]))
  .ret))
def a_members_is : AFn := ⟨1, b_members_is, [.t 2], false, false⟩
theorem a_members_is_ok : compF Try.prog Try.f72 [[1, 2], [3, 8]] false false hv = some a_members_is := by kernel_rfl

/-! fugleman/members.one: 58 -/
def b_members_one : AC :=
 (.seq (.seq (.reg [⟨(some 2), none, .mv (.c (.v (.int .u32 0)))⟩]) (.drop [1, 2]))
 (.seq (.seq (.seq (.reg [⟨(some 3), none, .mv (.t 0)⟩, ⟨(some 4), none, .call (.c (.fn 72 [])) [(.t 3)]⟩, ⟨(some 5), none, .un .not (.t 4)⟩]) (.drop [1, 4]))
   (.cond (.t 5) (.seq (.seq (.reg [⟨(some 2), none, .mv (.c (.v (.int .u32 0)))⟩]) (.drop []))
     .ret)
    .skip))
  (.seq (.seq (.reg [⟨(some 6), none, .mv (.t 0)⟩, ⟨(some 7), none, .bin .shl (.c (.v (.int .u32 1))) (.t 6)⟩, ⟨(some 2), none, .mv (.t 7)⟩]) (.drop [3, 7]))
   .ret)))
def a_members_one : AFn := ⟨1, b_members_one, [.t 2], false, false⟩
theorem a_members_one_ok : compF Try.prog Try.f58 [[1, 2], [1, 4], [], [3, 7]] false false hv = some a_members_one := by kernel_rfl

/-! fugleman/members.With: 45 -/
def b_members_With : AC :=
 (.seq (.seq (.reg [⟨(some 4), none, .mv (.c (.v (.int .u32 0)))⟩]) (.drop [2, 4]))
 (.seq (.seq (.reg [⟨(some 5), none, .mv (.t 0)⟩, ⟨(some 6), none, .mv (.t 1)⟩, ⟨(some 7), none, .call (.c (.fn 58 [])) [(.t 6)]⟩, ⟨(some 8), none, .bin .or (.t 5) (.t 7)⟩, ⟨(some 4), none, .mv (.t 8)⟩]) (.drop [5, 8]))
  .ret))
def a_members_With : AFn := ⟨2, b_members_With, [.t 4], false, false⟩
theorem a_members_With_ok : compF Try.prog Try.f45 [[2, 4], [5, 8]] false false hv = some a_members_With := by kernel_rfl

/-! fugleman/config.set: 27 -/
def l_config_set_1 : AC :=
 (.seq (.seq (.reg [⟨(some 23), none, .mv (.t 5)⟩, ⟨(some 4), none, .mv (.t 23)⟩]) (.drop [5, 23]))
 .ret)
def l_config_set_0 : AC :=
 (.seq (.seq (.reg [⟨(some 12), none, .bin .lss (.t 11) (.t 10)⟩]) (.drop []))
 (.seq (.cond (.t 12) .skip
   (.exit 0))
  (.seq (.block 1 (.seq (.seq (.reg [⟨(some 13), none, .ixs 6 (.t 9) (.t 11)⟩, ⟨(some 14), none, .load (some 6) (.t 13)⟩, ⟨(some 7), none, .alloc [(.v (.int .i64 0)), (.v (.int .i64 0)), (.v (.int .i64 0)), (.v (.slice none 0 0)), (.v (.slice none 0 0)), (.v (.slice none 0 0))]⟩, ⟨none, none, .store 6 (.t 7) (.t 14)⟩]) (.drop [12, 14]))
     (.seq (.seq (.reg [⟨(some 15), none, .mv (.t 1)⟩, ⟨(some 16), none, .load (some 6) (.t 7)⟩, ⟨(some 17), none, .call (.t 15) [(.t 16)]⟩]) (.drop [12, 16]))
      (.cond (.t 17) (.seq (.reg [⟨(some 18), none, .mv (.t 5)⟩, ⟨(some 19), none, .fad 0 (.t 7)⟩, ⟨(some 20), none, .load none (.t 19)⟩, ⟨(some 21), none, .call (.c (.fn 45 [])) [(.t 18), (.t 20)]⟩, ⟨(some 5), none, .mv (.t 21)⟩]) (.drop [12, 21]))
       .skip))))
   (.seq (.reg [⟨(some 22), none, .bin .add (.t 11) (.c (.v (.int .i64 1)))⟩, ⟨(some 11), none, .mv (.t 22)⟩]) (.drop [12, 22])))))
def b_config_set : AC :=
 (.seq (.seq (.reg [⟨(some 2), none, .box (.t 0)⟩, ⟨(some 4), none, .mv (.c (.v (.int .u32 0)))⟩]) (.drop [3, 4]))
 (.seq (.seq (.reg [⟨(some 5), none, .mv (.c (.v (.int .u32 0)))⟩]) (.drop []))
  (.seq (.seq (.seq (.reg [⟨(some 8), none, .fad 7 (.t 2)⟩, ⟨(some 9), none, .load none (.t 8)⟩, ⟨(some 10), none, .len (.t 9)⟩, ⟨(some 11), none, .mv (.c (.v (.int .i64 0)))⟩]) (.drop [6, 8]))
    (.block 0 (.loop [1, 5, 9, 10, 11] l_config_set_0)))
   l_config_set_1)))
def a_config_set : AFn := ⟨2, b_config_set, [.t 4], false, false⟩
theorem a_config_set_ok : compF Try.prog Try.f27 [[3, 4], [], [6, 8], [1, 5, 9, 10, 11], [], [12, 14], [12, 16], [12, 21], [12, 22], [5, 23]] false false hv = some a_config_set := by kernel_rfl

/-! fugleman/config.Addrs: 13 -/
def b_config_Addrs : AC :=
 (.seq (.seq (.reg [⟨(some 1), none, .box (.t 0)⟩, ⟨(some 2), none, .mv (.c (.v (.int .u32 0)))⟩]) (.drop [2, 2]))
 (.seq (.seq (.reg [⟨(some 3), none, .load (some 8) (.t 1)⟩, ⟨(some 4), none, .call (.c (.fn 27 [])) [(.t 3), (.c (.fn 28 []))]⟩, ⟨(some 2), none, .mv (.t 4)⟩]) (.drop [3, 4]))
  .ret))
def a_config_Addrs : AFn := ⟨1, b_config_Addrs, [.t 2], false, false⟩
theorem a_config_Addrs_ok : compF Try.prog Try.f13 [[2, 2], [3, 4]] false false hv = some a_config_Addrs := by kernel_rfl

/-! fugleman/fuglemanlaw20.awake: 6 -/
def b_fuglemanlaw20_awake : AC :=
 (.seq (.seq (.reg [⟨(some 0), none, .mv (.c (.v (.bool false)))⟩]) (.drop [0, 0]))
 (.seq (.seq (.reg [⟨(some 6), none, .build [(.v (.int .i64 0)), (.v (.int .i64 0)), (.v (.int .i64 0)), (.v (.slice none 0 0)), (.v (.slice none 0 0)), (.v (.slice none 0 0))] [(0, 1, (.c (.v (.int .i64 3)))), (1, 1, (.c (.v (.int .i64 1))))]⟩, ⟨(some 7), none, .build [(.v (.int .i64 0)), (.v (.int .i64 0)), (.v (.int .i64 0)), (.v (.slice none 0 0)), (.v (.slice none 0 0)), (.v (.slice none 0 0))] [(0, 1, (.c (.v (.int .i64 3)))), (1, 1, (.c (.v (.int .i64 2))))]⟩, ⟨(some 8), none, .row 6 2 [(.v (.int .i64 0)), (.v (.int .i64 0)), (.v (.int .i64 0)), (.v (.slice none 0 0)), (.v (.slice none 0 0)), (.v (.slice none 0 0))] [(0, 6, (.t 6)), (6, 6, (.t 7))]⟩, ⟨(some 9), none, .build [(.v (.int .i64 0)), (.v (.int .i64 0)), (.v (.int .i64 0)), (.v (.int .i64 0)), (.v (.int .i64 0)), (.v (.int .i64 0)), (.v (.slice none 0 0)), (.v (.slice none 0 0))] [(0, 1, (.c (.v (.int .i64 4)))), (1, 1, (.c (.v (.int .i64 10)))), (2, 1, (.c (.v (.int .i64 1)))), (4, 1, (.c (.v (.int .i64 9)))), (5, 1, (.c (.v (.int .i64 5)))), (7, 1, (.t 8))]⟩, ⟨(some 1), none, .alloc [(.v (.int .i64 0)), (.v (.int .i64 0)), (.v (.int .i64 0)), (.v (.int .i64 0)), (.v (.int .i64 0)), (.v (.int .i64 0)), (.v (.slice none 0 0)), (.v (.slice none 0 0))]⟩, ⟨none, none, .store 8 (.t 1) (.t 9)⟩]) (.drop [2, 9]))
  (.seq (.seq (.reg [⟨(some 11), none, .load (some 8) (.t 1)⟩, ⟨(some 12), none, .call (.c (.fn 8 [])) [(.t 11)]⟩, ⟨(some 10), none, .mv (.t 12)⟩, ⟨(some 13), none, .ext 0 (.t 10)⟩, ⟨(some 14), none, .ext 1 (.t 10)⟩, ⟨(some 2), none, .mv (.t 13)⟩, ⟨(some 3), none, .mv (.t 14)⟩]) (.drop [4, 14]))
   (.seq (.seq (.reg [⟨(some 16), none, .load (some 8) (.t 1)⟩, ⟨(some 17), none, .call (.c (.fn 10 [])) [(.t 16), (.c (.v (.int .i64 3)))]⟩, ⟨(some 15), none, .mv (.t 17)⟩, ⟨(some 18), none, .ext 0 (.t 15)⟩, ⟨(some 19), none, .ext 1 (.t 15)⟩, ⟨(some 4), none, .alloc [(.v (.int .i64 0)), (.v (.int .i64 0)), (.v (.int .i64 0)), (.v (.slice none 0 0)), (.v (.slice none 0 0)), (.v (.slice none 0 0))]⟩, ⟨none, none, .store 6 (.t 4) (.t 18)⟩, ⟨(some 5), none, .mv (.t 19)⟩]) (.drop [6, 19]))
    (.seq (.seq (.reg [⟨(some 20), none, .mv (.t 2)⟩, ⟨(some 21), none, .bin .eql (.t 20) (.c (.v (.int .i64 14)))⟩, ⟨(some 22), none, .mv (.t 21)⟩, ⟨(some 23), (some (22, true)), .mv (.t 3)⟩, ⟨(some 24), (some (22, true)), .bin .eql (.t 23) (.c (.v (.int .i64 101)))⟩, ⟨(some 25), none, .pick (.t 22) (.t 24) (.c (.v (.bool false)))⟩, ⟨(some 26), none, .mv (.t 25)⟩, ⟨(some 27), (some (26, true)), .mv (.t 5)⟩, ⟨(some 28), none, .pick (.t 26) (.t 27) (.c (.v (.bool false)))⟩, ⟨(some 29), none, .mv (.t 28)⟩, ⟨(some 30), (some (29, true)), .fad 1 (.t 4)⟩, ⟨(some 31), (some (29, true)), .load none (.t 30)⟩, ⟨(some 32), (some (29, true)), .bin .eql (.t 31) (.c (.v (.int .i64 1)))⟩, ⟨(some 33), none, .pick (.t 29) (.t 32) (.c (.v (.bool false)))⟩, ⟨(some 34), none, .mv (.t 33)⟩, ⟨(some 35), (some (34, true)), .load (some 8) (.t 1)⟩, ⟨(some 36), (some (34, true)), .call (.c (.fn 13 [])) [(.t 35)]⟩, ⟨(some 37), (some (34, true)), .bin .eql (.t 36) (.c (.v (.int .u32 8)))⟩, ⟨(some 38), none, .pick (.t 34) (.t 37) (.c (.v (.bool false)))⟩, ⟨(some 0), none, .mv (.t 38)⟩]) (.drop [1, 38]))
     .ret)))))
def a_fuglemanlaw20_awake : AFn := ⟨0, b_fuglemanlaw20_awake, [.t 0], false, false⟩
theorem a_fuglemanlaw20_awake_ok : compF Try.prog Try.f6 [[0, 0], [2, 9], [4, 14], [6, 19], [1, 38]] false false hv = some a_fuglemanlaw20_awake := by kernel_rfl

/-! fugleman/fuglemanlaw20.Small: 7 -/
def l_fuglemanlaw20_Small_1 : AC :=
 (.seq (.seq (.reg [⟨(some 2), none, .mv (.c (.v (.bool true)))⟩]) (.drop []))
 .ret)
def l_fuglemanlaw20_Small_0 : AC :=
 (.seq (.seq (.reg [⟨(some 19), none, .bin .lss (.t 18) (.t 17)⟩]) (.drop []))
 (.seq (.cond (.t 19) .skip
   (.exit 0))
  (.seq (.block 1 (.seq (.seq (.reg [⟨(some 20), none, .ixs 6 (.t 16) (.t 18)⟩, ⟨(some 21), none, .load (some 6) (.t 20)⟩, ⟨(some 4), none, .alloc [(.v (.int .i64 0)), (.v (.int .i64 0)), (.v (.int .i64 0)), (.v (.slice none 0 0)), (.v (.slice none 0 0)), (.v (.slice none 0 0))]⟩, ⟨none, none, .store 6 (.t 4) (.t 21)⟩]) (.drop [19, 21]))
     (.seq (.seq (.reg [⟨(some 22), none, .fad 3 (.t 4)⟩, ⟨(some 23), none, .load none (.t 22)⟩, ⟨(some 24), none, .len (.t 23)⟩, ⟨(some 25), none, .bin .gtr (.t 24) (.c (.v (.int .i64 210)))⟩, ⟨(some 26), none, .mv (.t 25)⟩, ⟨(some 27), (some (26, false)), .fad 4 (.t 4)⟩, ⟨(some 28), (some (26, false)), .load none (.t 27)⟩, ⟨(some 29), (some (26, false)), .len (.t 28)⟩, ⟨(some 30), (some (26, false)), .bin .gtr (.t 29) (.c (.v (.int .i64 40)))⟩, ⟨(some 31), none, .pick (.t 26) (.c (.v (.bool true))) (.t 30)⟩, ⟨(some 32), none, .mv (.t 31)⟩, ⟨(some 33), (some (32, false)), .fad 5 (.t 4)⟩, ⟨(some 34), (some (32, false)), .load none (.t 33)⟩, ⟨(some 35), (some (32, false)), .len (.t 34)⟩, ⟨(some 36), (some (32, false)), .bin .gtr (.t 35) (.c (.v (.int .i64 40)))⟩, ⟨(some 37), none, .pick (.t 32) (.c (.v (.bool true))) (.t 36)⟩]) (.drop [19, 36]))
      (.cond (.t 37) (.seq (.seq (.reg [⟨(some 2), none, .mv (.c (.v (.bool false)))⟩]) (.drop []))
        .ret)
       .skip))))
   (.seq (.reg [⟨(some 38), none, .bin .add (.t 18) (.c (.v (.int .i64 1)))⟩, ⟨(some 18), none, .mv (.t 38)⟩]) (.drop [19, 38])))))
def b_fuglemanlaw20_Small : AC :=
 (.seq (.seq (.reg [⟨(some 1), none, .box (.t 0)⟩, ⟨(some 2), none, .mv (.c (.v (.bool false)))⟩]) (.drop [2, 2]))
 (.seq (.seq (.seq (.reg [⟨(some 5), none, .fad 7 (.t 1)⟩, ⟨(some 6), none, .load none (.t 5)⟩, ⟨(some 7), none, .len (.t 6)⟩, ⟨(some 8), none, .bin .gtr (.t 7) (.c (.v (.int .i64 40)))⟩, ⟨(some 9), none, .mv (.t 8)⟩, ⟨(some 10), (some (9, false)), .fad 6 (.t 1)⟩, ⟨(some 11), (some (9, false)), .load none (.t 10)⟩, ⟨(some 12), (some (9, false)), .len (.t 11)⟩, ⟨(some 13), (some (9, false)), .bin .gtr (.t 12) (.c (.v (.int .i64 40)))⟩, ⟨(some 14), none, .pick (.t 9) (.c (.v (.bool true))) (.t 13)⟩]) (.drop [2, 13]))
   (.cond (.t 14) (.seq (.seq (.reg [⟨(some 2), none, .mv (.c (.v (.bool false)))⟩]) (.drop []))
     .ret)
    .skip))
  (.seq (.seq (.seq (.reg [⟨(some 15), none, .fad 7 (.t 1)⟩, ⟨(some 16), none, .load none (.t 15)⟩, ⟨(some 17), none, .len (.t 16)⟩, ⟨(some 18), none, .mv (.c (.v (.int .i64 0)))⟩]) (.drop [0, 15]))
    (.block 0 (.loop [16, 17, 18] l_fuglemanlaw20_Small_0)))
   l_fuglemanlaw20_Small_1)))
def a_fuglemanlaw20_Small : AFn := ⟨1, b_fuglemanlaw20_Small, [.t 2], false, false⟩
theorem a_fuglemanlaw20_Small_ok : compF Try.prog Try.f7 [[2, 2], [2, 13], [], [0, 15], [16, 17, 18], [], [19, 21], [19, 36], [], [19, 38], []] false false hv = some a_fuglemanlaw20_Small := by kernel_rfl

/-! fugleman/fuglemanref19.Lay: 41 -/
def l_fuglemanref19_Lay_7 : AC :=
 (.seq (.seq (.reg [⟨(some 8), none, .mv (.c (.v (.int .i64 0)))⟩, ⟨(some 9), none, .mv (.c (.v (.int .i64 0)))⟩]) (.drop []))
 .ret)
def l_fuglemanref19_Lay_6 : AC :=
 (.seq (.reg [⟨(some 45), none, .mv (.t 12)⟩, ⟨(some 46), none, .bin .add (.t 45) (.c (.v (.int .i64 1)))⟩, ⟨(some 12), none, .mv (.t 46)⟩]) (.drop [13, 46]))
def l_fuglemanref19_Lay_5 : AC :=
 (.seq (.seq (.seq (.reg [⟨(some 102), none, .mv (.t 17)⟩, ⟨(some 103), none, .mv (.t 16)⟩, ⟨(some 104), none, .fad 2 (.t 13)⟩, ⟨(some 105), none, .load none (.t 104)⟩, ⟨(some 106), none, .bin .add (.t 103) (.t 105)⟩, ⟨(some 107), none, .bin .lss (.t 102) (.t 106)⟩]) (.drop [18, 106]))
  (.cond (.t 107) .skip
   (.exit 6)))
 (.seq (.block 7 (.seq (.seq (.seq (.reg [⟨(some 110), none, .mv (.t 3)⟩, ⟨(some 111), none, .mv (.t 110)⟩, ⟨(some 112), (some (111, true)), .mv (.t 10)⟩, ⟨(some 113), (some (111, true)), .mv (.t 17)⟩, ⟨(some 114), (some (111, true)), .ixs 1 (.t 112) (.t 113)⟩, ⟨(some 115), (some (111, true)), .load none (.t 114)⟩, ⟨(some 116), none, .pick (.t 111) (.t 115) (.c (.v (.bool false)))⟩]) (.drop [18, 115]))
     (.cond (.t 116) (.seq (.seq (.reg [⟨(some 117), none, .mv (.t 12)⟩, ⟨(some 8), none, .mv (.c (.v (.int .i64 15)))⟩, ⟨(some 9), none, .mv (.t 117)⟩]) (.drop [10, 117]))
       .ret)
      .skip))
    (.seq (.reg [⟨(some 118), none, .mv (.t 10)⟩, ⟨(some 119), none, .mv (.t 17)⟩, ⟨(some 120), none, .ixs 1 (.t 118) (.t 119)⟩, ⟨none, none, .store 1 (.t 120) (.c (.v (.bool true)))⟩]) (.drop [18, 120]))))
  (.seq (.reg [⟨(some 108), none, .mv (.t 17)⟩, ⟨(some 109), none, .bin .add (.t 108) (.c (.v (.int .i64 1)))⟩, ⟨(some 17), none, .mv (.t 109)⟩]) (.drop [18, 109]))))
def l_fuglemanref19_Lay_4 : AC :=
 (.seq (.seq (.reg [⟨(some 77), none, .mv (.t 1)⟩, ⟨(some 78), none, .mv (.t 12)⟩, ⟨(some 79), none, .ixs 2 (.t 77) (.t 78)⟩, ⟨(some 80), none, .fad 1 (.t 79)⟩, ⟨(some 81), none, .load none (.t 80)⟩, ⟨(some 16), none, .mv (.t 81)⟩]) (.drop [17, 81]))
 (.seq (.seq (.seq (.reg [⟨(some 82), none, .mv (.t 16)⟩, ⟨(some 83), none, .bin .lss (.t 82) (.c (.v (.int .i64 0)))⟩, ⟨(some 84), none, .mv (.t 83)⟩, ⟨(some 85), (some (84, false)), .mv (.t 16)⟩, ⟨(some 86), (some (84, false)), .bin .gtr (.t 85) (.c (.v (.int .i64 64)))⟩, ⟨(some 87), none, .pick (.t 84) (.c (.v (.bool true))) (.t 86)⟩, ⟨(some 88), none, .mv (.t 87)⟩, ⟨(some 89), (some (88, false)), .fad 2 (.t 13)⟩, ⟨(some 90), (some (88, false)), .load none (.t 89)⟩, ⟨(some 91), (some (88, false)), .bin .lss (.t 90) (.c (.v (.int .i64 0)))⟩, ⟨(some 92), none, .pick (.t 88) (.c (.v (.bool true))) (.t 91)⟩, ⟨(some 93), none, .mv (.t 92)⟩, ⟨(some 94), (some (93, false)), .fad 2 (.t 13)⟩, ⟨(some 95), (some (93, false)), .load none (.t 94)⟩, ⟨(some 96), (some (93, false)), .mv (.t 16)⟩, ⟨(some 97), (some (93, false)), .bin .sub (.c (.v (.int .i64 64))) (.t 96)⟩, ⟨(some 98), (some (93, false)), .bin .gtr (.t 95) (.t 97)⟩, ⟨(some 99), none, .pick (.t 93) (.c (.v (.bool true))) (.t 98)⟩]) (.drop [17, 98]))
   (.cond (.t 99) (.seq (.seq (.reg [⟨(some 100), none, .mv (.t 12)⟩, ⟨(some 8), none, .mv (.c (.v (.int .i64 2)))⟩, ⟨(some 9), none, .mv (.t 100)⟩]) (.drop [10, 100]))
     .ret)
    .skip))
  (.seq (.seq (.reg [⟨(some 101), none, .mv (.t 16)⟩, ⟨(some 17), none, .mv (.t 101)⟩]) (.drop [18, 101]))
   (.block 6 (.loop [1, 2, 3, 10, 12, 13, 16, 17] l_fuglemanref19_Lay_5)))))
def l_fuglemanref19_Lay_3 : AC :=
 (.seq (.seq (.seq (.reg [⟨(some 60), none, .mv (.t 15)⟩, ⟨(some 61), none, .mv (.t 12)⟩, ⟨(some 62), none, .bin .lss (.t 60) (.t 61)⟩]) (.drop [16, 61]))
  (.cond (.t 62) .skip
   (.exit 4)))
 (.seq (.block 5 (.seq (.seq (.regq [⟨(some 65), none, .mv (.t 1)⟩, ⟨(some 66), none, .mv (.t 15)⟩, ⟨(some 67), none, .ixs 2 (.t 65) (.t 66)⟩, ⟨(some 68), none, .fad 0 (.t 67)⟩, ⟨(some 69), none, .load none (.t 68)⟩, ⟨(some 70), none, .mv (.t 1)⟩, ⟨(some 71), none, .mv (.t 12)⟩, ⟨(some 72), none, .ixs 2 (.t 70) (.t 71)⟩, ⟨(some 73), none, .fad 0 (.t 72)⟩, ⟨(some 74), none, .load none (.t 73)⟩, ⟨(some 75), none, .bin .eql (.t 69) (.t 74)⟩]) (.drop [16, 74]))
    (.cond (.t 75) (.seq (.seq (.reg [⟨(some 76), none, .mv (.t 12)⟩, ⟨(some 8), none, .mv (.c (.v (.int .i64 14)))⟩, ⟨(some 9), none, .mv (.t 76)⟩]) (.drop [10, 76]))
      .ret)
     .skip)))
  (.seq (.reg [⟨(some 63), none, .mv (.t 15)⟩, ⟨(some 64), none, .bin .add (.t 63) (.c (.v (.int .i64 1)))⟩, ⟨(some 15), none, .mv (.t 64)⟩]) (.drop [16, 64]))))
def l_fuglemanref19_Lay_2 : AC :=
 (.seq (.seq (.seq (.reg [⟨(some 41), none, .mv (.t 12)⟩, ⟨(some 42), none, .mv (.t 1)⟩, ⟨(some 43), none, .len (.t 42)⟩, ⟨(some 44), none, .bin .lss (.t 41) (.t 43)⟩]) (.drop [13, 43]))
  (.cond (.t 44) .skip
   (.exit 2)))
 (.seq (.block 3 (.seq (.seq (.reg [⟨(some 48), none, .mv (.t 2)⟩, ⟨(some 49), none, .mv (.t 1)⟩, ⟨(some 50), none, .mv (.t 12)⟩, ⟨(some 51), none, .ixs 2 (.t 49) (.t 50)⟩, ⟨(some 52), none, .fad 0 (.t 51)⟩, ⟨(some 53), none, .load none (.t 52)⟩, ⟨(some 54), none, .call (.c (.fn 34 [])) [(.t 48), (.t 53)]⟩, ⟨(some 47), none, .mv (.t 54)⟩, ⟨(some 55), none, .ext 0 (.t 47)⟩, ⟨(some 56), none, .ext 1 (.t 47)⟩, ⟨(some 13), none, .alloc [(.v (.int .i64 0)), (.v (.int .i64 0)), (.v (.int .i64 0)), (.v (.bool false))]⟩, ⟨none, none, .store 4 (.t 13) (.t 55)⟩, ⟨(some 14), none, .mv (.t 56)⟩]) (.drop [15, 56]))
    (.seq (.seq (.seq (.reg [⟨(some 57), none, .mv (.t 14)⟩, ⟨(some 58), none, .un .not (.t 57)⟩]) (.drop [14, 57]))
      (.cond (.t 58) (.seq (.seq (.reg [⟨(some 59), none, .mv (.t 12)⟩, ⟨(some 8), none, .mv (.c (.v (.int .i64 5)))⟩, ⟨(some 9), none, .mv (.t 59)⟩]) (.drop [10, 59]))
        .ret)
       .skip))
     (.seq (.seq (.seq (.reg [⟨(some 15), none, .mv (.c (.v (.int .i64 0)))⟩]) (.drop []))
       (.block 4 (.loop [1, 2, 3, 10, 12, 13, 15] l_fuglemanref19_Lay_3)))
      l_fuglemanref19_Lay_4))))
  l_fuglemanref19_Lay_6))
def l_fuglemanref19_Lay_1 : AC :=
 (.seq (.seq (.seq (.reg [⟨(some 12), none, .mv (.c (.v (.int .i64 0)))⟩]) (.drop []))
  (.block 2 (.loop [1, 2, 3, 10, 12] l_fuglemanref19_Lay_2)))
 l_fuglemanref19_Lay_7)
/-! fugleman/fuglemanlaw20.ConfigParts: 4 -/
def b_fuglemanlaw20_ConfigParts : AC :=
 (.seq (.seq (.reg [⟨(some 3), none, .box (.t 0)⟩, ⟨(some 6), none, .mv (.c (.v (.bool false)))⟩]) (.drop [4, 6]))
 (.seq (.seq (.seq (.reg [⟨(some 15), none, .call (.c (.fn 6 [])) []⟩, ⟨(some 16), none, .un .not (.t 15)⟩]) (.drop [4, 15]))
   (.cond (.t 16) (.seq (.seq (.reg [⟨(some 6), none, .mv (.c (.v (.bool false)))⟩]) (.drop []))
     .ret)
    .skip))
  (.seq (.seq (.seq (.reg [⟨(some 17), none, .load (some 8) (.t 3)⟩, ⟨(some 18), none, .call (.c (.fn 7 [])) [(.t 17)]⟩, ⟨(some 19), none, .un .not (.t 18)⟩]) (.drop [4, 18]))
    (.cond (.t 19) (.seq (.seq (.reg [⟨(some 6), none, .mv (.c (.v (.bool true)))⟩]) (.drop []))
      .ret)
     .skip))
   (.seq (.seq (.seq (.reg [⟨(some 21), none, .load (some 8) (.t 3)⟩, ⟨(some 22), none, .call (.c (.fn 8 [])) [(.t 21)]⟩, ⟨(some 20), none, .mv (.t 22)⟩, ⟨(some 23), none, .ext 0 (.t 20)⟩, ⟨(some 24), none, .ext 1 (.t 20)⟩, ⟨(some 7), none, .mv (.t 23)⟩, ⟨(some 8), none, .mv (.t 24)⟩]) (.drop [8, 24]))
     (.seq (.seq (.reg [⟨(some 25), none, .mv (.t 7)⟩, ⟨(some 26), none, .bin .neq (.t 25) (.c (.v (.int .i64 0)))⟩]) (.drop [4, 25]))
      (.cond (.t 26) (.seq (.seq (.reg [⟨(some 6), none, .mv (.c (.v (.bool true)))⟩]) (.drop []))
        .ret)
       .skip)))
    (.seq (.seq (.reg [⟨(some 27), none, .load (some 8) (.t 3)⟩, ⟨(some 9), none, .alloc [(.v (.int .i64 0)), (.v (.int .i64 0)), (.v (.int .i64 0)), (.v (.int .i64 0)), (.v (.int .i64 0)), (.v (.int .i64 0)), (.v (.slice none 0 0)), (.v (.slice none 0 0))]⟩, ⟨none, none, .store 8 (.t 9) (.t 27)⟩]) (.drop [10, 27]))
     (.seq (.seq (.reg [⟨(some 28), none, .mv (.t 2)⟩, ⟨(some 29), none, .cvi .i64 (.t 28)⟩, ⟨(some 30), none, .bin .rem (.t 29) (.c (.v (.int .i64 47)))⟩, ⟨(some 31), none, .bin .add (.c (.v (.int .i64 4))) (.t 30)⟩, ⟨(some 32), none, .mv (.t 2)⟩, ⟨(some 33), none, .cvi .i64 (.t 32)⟩, ⟨(some 34), none, .bin .add (.c (.v (.int .i64 1))) (.t 33)⟩, ⟨(some 35), none, .mv (.t 2)⟩, ⟨(some 36), none, .cvi .i64 (.t 35)⟩, ⟨(some 37), none, .bin .rem (.t 36) (.c (.v (.int .i64 50)))⟩, ⟨(some 38), none, .bin .add (.c (.v (.int .i64 1))) (.t 37)⟩, ⟨(some 39), none, .mv (.t 2)⟩, ⟨(some 40), none, .cvi .i64 (.t 39)⟩, ⟨(some 41), none, .bin .rem (.t 40) (.c (.v (.int .i64 4)))⟩, ⟨(some 42), none, .mv (.t 2)⟩, ⟨(some 43), none, .cvi .i64 (.t 42)⟩, ⟨(some 44), none, .bin .add (.c (.v (.int .i64 1))) (.t 43)⟩, ⟨(some 45), none, .fad 0 (.t 9)⟩, ⟨none, none, .store 1 (.t 45) (.t 31)⟩, ⟨(some 46), none, .fad 1 (.t 9)⟩, ⟨none, none, .store 1 (.t 46) (.t 34)⟩, ⟨(some 47), none, .fad 2 (.t 9)⟩, ⟨none, none, .store 1 (.t 47) (.t 38)⟩, ⟨(some 48), none, .fad 3 (.t 9)⟩, ⟨none, none, .store 1 (.t 48) (.t 41)⟩, ⟨(some 49), none, .fad 4 (.t 9)⟩, ⟨none, none, .store 1 (.t 49) (.t 44)⟩, ⟨(some 50), none, .fad 5 (.t 9)⟩, ⟨none, none, .store 1 (.t 50) (.c (.v (.int .i64 31)))⟩]) (.drop [10, 50]))
      (.seq (.seq (.seq (.reg [⟨(some 52), none, .load (some 8) (.t 9)⟩, ⟨(some 53), none, .call (.c (.fn 8 [])) [(.t 52)]⟩, ⟨(some 51), none, .mv (.t 53)⟩, ⟨(some 54), none, .ext 0 (.t 51)⟩, ⟨(some 55), none, .ext 1 (.t 51)⟩, ⟨(some 10), none, .mv (.t 54)⟩, ⟨(some 11), none, .mv (.t 55)⟩]) (.drop [12, 55]))
        (.seq (.seq (.reg [⟨(some 56), none, .mv (.t 10)⟩, ⟨(some 57), none, .bin .neq (.t 56) (.c (.v (.int .i64 0)))⟩, ⟨(some 58), none, .mv (.t 57)⟩, ⟨(some 59), (some (58, false)), .mv (.t 11)⟩, ⟨(some 60), (some (58, false)), .bin .neq (.t 59) (.c (.v (.int .i64 0)))⟩, ⟨(some 61), none, .pick (.t 58) (.c (.v (.bool true))) (.t 60)⟩]) (.drop [10, 60]))
         (.cond (.t 61) (.seq (.seq (.reg [⟨(some 6), none, .mv (.c (.v (.bool false)))⟩]) (.drop []))
           .ret)
          .skip)))
       (.seq (.seq (.seq (.reg [⟨(some 62), none, .fad 7 (.t 3)⟩, ⟨(some 63), none, .load none (.t 62)⟩, ⟨(some 64), none, .len (.t 63)⟩, ⟨(some 65), none, .bin .lss (.t 64) (.c (.v (.int .i64 2)))⟩]) (.drop [10, 64]))
         (.cond (.t 65) (.seq (.seq (.reg [⟨(some 6), none, .mv (.c (.v (.bool true)))⟩]) (.drop []))
           .ret)
          .skip))
        (.seq (.seq (.reg [⟨(some 66), none, .mv (.t 1)⟩, ⟨(some 67), none, .cvi .i64 (.t 66)⟩, ⟨(some 68), none, .fad 7 (.t 3)⟩, ⟨(some 69), none, .load none (.t 68)⟩, ⟨(some 70), none, .len (.t 69)⟩, ⟨(some 71), none, .bin .rem (.t 67) (.t 70)⟩, ⟨(some 12), none, .mv (.t 71)⟩]) (.drop [13, 71]))
         (.seq (.seq (.regx (.op .o ⟨(some 73), none, .fad 7 (.t 3)⟩
             (.op .o ⟨(some 74), none, .load none (.t 73)⟩
              (.op .o ⟨(some 75), none, .mv (.t 12)⟩
               (.op .o ⟨(some 76), none, .sls 6 (.t 74) none (some (.t 75)) none⟩
                (.op .o ⟨(some 78), none, .fad 7 (.t 3)⟩
                 (.op .o ⟨(some 80), none, .mv (.t 12)⟩
                  (.op .o ⟨(some 81), none, .bin .add (.t 80) (.c (.v (.int .i64 1)))⟩
                   (.alt (.op .o ⟨(some 72), none, .row 6 0 [(.v (.int .i64 0)), (.v (.int .i64 0)), (.v (.int .i64 0)), (.v (.slice none 0 0)), (.v (.slice none 0 0)), (.v (.slice none 0 0))] []⟩
                     (.alt (.op .o ⟨(some 77), none, .app 6 96 (.t 72) (.t 76)⟩
                       (.op .o ⟨(some 79), none, .load none (.t 78)⟩
                        (.op .o ⟨(some 82), none, .sls 6 (.t 79) (some (.t 81)) none none⟩
                         (.op .o ⟨(some 83), none, .app 6 96 (.t 77) (.t 82)⟩
                          (.op .o ⟨(some 84), none, .fad 7 (.t 9)⟩
                           (.op .o ⟨none, none, .store 1 (.t 84) (.t 83)⟩
                            .nil))))))
                      (.op .o ⟨(some 79), none, .load none (.t 78)⟩
                       (.op .o ⟨(some 82), none, .sls 6 (.t 79) (some (.t 81)) none none⟩
                        (.op .o ⟨(some 77), none, .app 6 96 (.t 72) (.t 76)⟩
                         (.op .o ⟨(some 83), none, .app 6 96 (.t 77) (.t 82)⟩
                          (.op .o ⟨(some 84), none, .fad 7 (.t 9)⟩
                           (.op .o ⟨none, none, .store 1 (.t 84) (.t 83)⟩
                            .nil))))))))
                    (.op .o ⟨(some 79), none, .load none (.t 78)⟩
                     (.op .o ⟨(some 82), none, .sls 6 (.t 79) (some (.t 81)) none none⟩
                      (.op .o ⟨(some 72), none, .row 6 0 [(.v (.int .i64 0)), (.v (.int .i64 0)), (.v (.int .i64 0)), (.v (.slice none 0 0)), (.v (.slice none 0 0)), (.v (.slice none 0 0))] []⟩
                       (.op .o ⟨(some 77), none, .app 6 96 (.t 72) (.t 76)⟩
                        (.op .o ⟨(some 83), none, .app 6 96 (.t 77) (.t 82)⟩
                         (.op .o ⟨(some 84), none, .fad 7 (.t 9)⟩
                          (.op .o ⟨none, none, .store 1 (.t 84) (.t 83)⟩
                           .nil)))))))))))))))) (.drop [10, 84, 800009]))
          (.seq (.seq (.reg [⟨(some 86), none, .load (some 8) (.t 9)⟩, ⟨(some 87), none, .call (.c (.fn 8 [])) [(.t 86)]⟩, ⟨(some 85), none, .mv (.t 87)⟩, ⟨(some 88), none, .ext 0 (.t 85)⟩, ⟨(some 89), none, .ext 1 (.t 85)⟩, ⟨(some 13), none, .mv (.t 88)⟩, ⟨(some 14), none, .mv (.t 89)⟩]) (.drop [15, 89]))
           (.seq (.seq (.reg [⟨(some 90), none, .mv (.t 13)⟩, ⟨(some 91), none, .bin .eql (.t 90) (.c (.v (.int .i64 0)))⟩, ⟨(some 92), none, .mv (.t 91)⟩, ⟨(some 93), (some (92, true)), .mv (.t 14)⟩, ⟨(some 94), (some (92, true)), .bin .eql (.t 93) (.c (.v (.int .i64 0)))⟩, ⟨(some 95), none, .pick (.t 92) (.t 94) (.c (.v (.bool false)))⟩, ⟨(some 6), none, .mv (.t 95)⟩]) (.drop [7, 95]))
            .ret))))))))))))
def a_fuglemanlaw20_ConfigParts : AFn := ⟨3, b_fuglemanlaw20_ConfigParts, [.t 6], false, false⟩
theorem a_fuglemanlaw20_ConfigParts_ok : compF Try.prog Try.f4 [[4, 6], [4, 15], [], [4, 18], [], [8, 24], [4, 25], [], [10, 27], [10, 50], [12, 55], [10, 60], [], [10, 64], [], [13, 71], [10, 84, 800009], [15, 89], [7, 95]] false false hv = some a_fuglemanlaw20_ConfigParts := by kernel_rfl

/-! fugleman/config.Addrs$1: 28 -/
def b_config_Addrs_1 : AC :=
 (.seq (.seq (.reg [⟨(some 1), none, .box (.t 0)⟩, ⟨(some 2), none, .mv (.c (.v (.bool false)))⟩]) (.drop [0, 2]))
 (.seq (.seq (.reg [⟨(some 2), none, .mv (.c (.v (.bool true)))⟩]) (.drop []))
  .ret))
def a_config_Addrs_1 : AFn := ⟨1, b_config_Addrs_1, [.t 2], false, false⟩
theorem a_config_Addrs_1_ok : compF Try.prog Try.f28 [[0, 2], []] false false hv = some a_config_Addrs_1 := by kernel_rfl

/-! fugleman/config.place$1: 44 -/
def b_config_place_1 : AC :=
 (.seq (.seq (.reg [⟨(some 2), none, .box (.t 0)⟩, ⟨(some 3), none, .mv (.c (.v (.bool false)))⟩]) (.drop [3, 3]))
 (.seq (.seq (.reg [⟨(some 4), none, .fad 0 (.t 2)⟩, ⟨(some 5), none, .load none (.t 4)⟩, ⟨(some 6), none, .load none (.t 1)⟩, ⟨(some 7), none, .bin .eql (.t 5) (.t 6)⟩, ⟨(some 3), none, .mv (.t 7)⟩]) (.drop [4, 7]))
  .ret))
def a_config_place_1 : AFn := ⟨2, b_config_place_1, [.t 3], false, false⟩
theorem a_config_place_1_ok : compF Try.prog Try.f44 [[3, 3], [4, 7]] false false hv = some a_config_place_1 := by kernel_rfl

/-! fugleman/blocks.place$1: 50 -/
def b_blocks_place_1 : AC :=
 (.seq (.seq (.reg [⟨(some 2), none, .box (.t 0)⟩, ⟨(some 3), none, .mv (.c (.v (.bool false)))⟩]) (.drop [3, 3]))
 (.seq (.seq (.reg [⟨(some 4), none, .fad 0 (.t 2)⟩, ⟨(some 5), none, .load none (.t 4)⟩, ⟨(some 6), none, .load none (.t 1)⟩, ⟨(some 7), none, .bin .eql (.t 5) (.t 6)⟩, ⟨(some 3), none, .mv (.t 7)⟩]) (.drop [4, 7]))
  .ret))
def a_blocks_place_1 : AFn := ⟨2, b_blocks_place_1, [.t 3], false, false⟩
theorem a_blocks_place_1_ok : compF Try.prog Try.f50 [[3, 3], [4, 7]] false false hv = some a_blocks_place_1 := by kernel_rfl

/-! fugleman/config.owns$1: 54 -/
def b_config_owns_1 : AC :=
 (.seq (.seq (.reg [⟨(some 3), none, .box (.t 0)⟩, ⟨(some 4), none, .mv (.c (.v (.bool false)))⟩]) (.drop [4, 4]))
 (.seq (.seq (.reg [⟨(some 8), none, .fad 6 (.t 1)⟩, ⟨(some 9), none, .load none (.t 8)⟩, ⟨(some 10), none, .fad 0 (.t 3)⟩, ⟨(some 11), none, .load none (.t 10)⟩, ⟨(some 12), none, .call (.c (.fn 33 [])) [(.t 9), (.t 11)]⟩, ⟨(some 7), none, .mv (.t 12)⟩, ⟨(some 13), none, .ext 0 (.t 7)⟩, ⟨(some 14), none, .ext 1 (.t 7)⟩, ⟨(some 5), none, .alloc [(.v (.int .i64 0)), (.v (.int .i64 0)), (.v (.int .i64 0)), (.v (.bool false))]⟩, ⟨none, none, .store 4 (.t 5) (.t 13)⟩, ⟨(some 6), none, .mv (.t 14)⟩]) (.drop [6, 14]))
  (.seq (.seq (.reg [⟨(some 15), none, .fad 1 (.t 5)⟩, ⟨(some 16), none, .load none (.t 15)⟩, ⟨(some 17), none, .fad 0 (.t 2)⟩, ⟨(some 18), none, .load none (.t 17)⟩, ⟨(some 19), none, .bin .neq (.t 16) (.t 18)⟩, ⟨(some 4), none, .mv (.t 19)⟩]) (.drop [5, 19]))
   .ret)))
def a_config_owns_1 : AFn := ⟨3, b_config_owns_1, [.t 4], false, false⟩
theorem a_config_owns_1_ok : compF Try.prog Try.f54 [[4, 4], [6, 14], [5, 19]] false false hv = some a_config_owns_1 := by kernel_rfl

/-! fugleman/image.spot$1: 73 -/
def b_image_spot_1 : AC :=
 (.seq (.seq (.reg [⟨(some 2), none, .box (.t 0)⟩, ⟨(some 3), none, .mv (.c (.v (.bool false)))⟩]) (.drop [3, 3]))
 (.seq (.seq (.reg [⟨(some 4), none, .fad 0 (.t 2)⟩, ⟨(some 5), none, .load none (.t 4)⟩, ⟨(some 6), none, .fad 0 (.t 1)⟩, ⟨(some 7), none, .load none (.t 6)⟩, ⟨(some 8), none, .bin .eql (.t 5) (.t 7)⟩, ⟨(some 3), none, .mv (.t 8)⟩]) (.drop [4, 8]))
  .ret))
def a_image_spot_1 : AFn := ⟨2, b_image_spot_1, [.t 3], false, false⟩
theorem a_image_spot_1_ok : compF Try.prog Try.f73 [[3, 3], [4, 8]] false false hv = some a_image_spot_1 := by kernel_rfl

def tab : Nat → Option AFn
  | 21 => some a_config_in
  | 19 => some a_config_numbers
  | 48 => some a_blocks_Parts
  | 35 => some a_blocks_right
  | 49 => some a_api_Block
  | 36 => some a_blocks_place
  | 20 => some a_blocks_Check
  | 43 => some a_api_Station
  | 26 => some a_config_place
  | 52 => some a_image_mask
  | 47 => some a_api_Spot_47
  | 31 => some a_api_Spot_31
  | 33 => some a_blocks_Find
  | 59 => some a_image_spot
  | 51 => some a_image_lay
  | 37 => some a_image_Lay
  | 91 => some a_il_ops
  | 74 => some a_il_of
  | 95 => some a_iec_kinds
  | 92 => some a_iec_of
  | 93 => some a_iec_Wrap
  | 75 => some a_iec_Is
  | 77 => some a_iec_Size
  | 76 => some a_il_stands
  | 78 => some a_il_within
  | 79 => some a_il_keeps
  | 60 => some a_il_Right
  | 61 => some a_verify_jumps
  | 80 => some a_verify_ahead_with
  | 81 => some a_verify_must
  | 87 => some a_iec_May
  | 82 => some a_verify_logic
  | 83 => some a_verify_ahead_ret
  | 94 => some a_verify_bracket_94
  | 84 => some a_verify_ahead_push
  | 86 => some a_verify_made
  | 85 => some a_verify_ahead_pop
  | 62 => some a_verify_ahead_behind
  | 63 => some a_verify_on
  | 88 => some a_verify_bracket_88
  | 64 => some a_verify_table_lead
  | 53 => some a_verify_all
  | 38 => some a_verify_Check
  | 39 => some a_image_Reach
  | 40 => some a_config_owns
  | 22 => some a_config_station
  | 8 => some a_config_Check
  | 10 => some a_config_Find
  | 72 => some a_members_is
  | 58 => some a_members_one
  | 45 => some a_members_With
  | 27 => some a_config_set
  | 13 => some a_config_Addrs
  | 6 => some a_fuglemanlaw20_awake
  | 7 => some a_fuglemanlaw20_Small
  | 4 => some a_fuglemanlaw20_ConfigParts
  | 28 => some a_config_Addrs_1
  | 44 => some a_config_place_1
  | 50 => some a_blocks_place_1
  | 54 => some a_config_owns_1
  | 73 => some a_image_spot_1
  | _ => none
def T : Tb := ⟨tab, fun _ _ _ _ => none⟩
theorem tableOK : TableOK Try.prog T := by
  refine ⟨fun f fn h => ?_, fun _ _ _ _ _ h => nomatch (show (none : Option Res) = some _ from h)⟩
  change tab f = some fn at h
  unfold tab at h
  split at h
  · cases h; exact ⟨_, _, _, _, _, Try.func21, a_config_in_ok⟩
  · cases h; exact ⟨_, _, _, _, _, Try.func19, a_config_numbers_ok⟩
  · cases h; exact ⟨_, _, _, _, _, Try.func48, a_blocks_Parts_ok⟩
  · cases h; exact ⟨_, _, _, _, _, Try.func35, a_blocks_right_ok⟩
  · cases h; exact ⟨_, _, _, _, _, Try.func49, a_api_Block_ok⟩
  · cases h; exact ⟨_, _, _, _, _, Try.func36, a_blocks_place_ok⟩
  · cases h; exact ⟨_, _, _, _, _, Try.func20, a_blocks_Check_ok⟩
  · cases h; exact ⟨_, _, _, _, _, Try.func43, a_api_Station_ok⟩
  · cases h; exact ⟨_, _, _, _, _, Try.func26, a_config_place_ok⟩
  · cases h; exact ⟨_, _, _, _, _, Try.func52, a_image_mask_ok⟩
  · cases h; exact ⟨_, _, _, _, _, Try.func47, a_api_Spot_47_ok⟩
  · cases h; exact ⟨_, _, _, _, _, Try.func31, a_api_Spot_31_ok⟩
  · cases h; exact ⟨_, _, _, _, _, Try.func33, a_blocks_Find_ok⟩
  · cases h; exact ⟨_, _, _, _, _, Try.func59, a_image_spot_ok⟩
  · cases h; exact ⟨_, _, _, _, _, Try.func51, a_image_lay_ok⟩
  · cases h; exact ⟨_, _, _, _, _, Try.func37, a_image_Lay_ok⟩
  · cases h; exact ⟨_, _, _, _, _, Try.func91, a_il_ops_ok⟩
  · cases h; exact ⟨_, _, _, _, _, Try.func74, a_il_of_ok⟩
  · cases h; exact ⟨_, _, _, _, _, Try.func95, a_iec_kinds_ok⟩
  · cases h; exact ⟨_, _, _, _, _, Try.func92, a_iec_of_ok⟩
  · cases h; exact ⟨_, _, _, _, _, Try.func93, a_iec_Wrap_ok⟩
  · cases h; exact ⟨_, _, _, _, _, Try.func75, a_iec_Is_ok⟩
  · cases h; exact ⟨_, _, _, _, _, Try.func77, a_iec_Size_ok⟩
  · cases h; exact ⟨_, _, _, _, _, Try.func76, a_il_stands_ok⟩
  · cases h; exact ⟨_, _, _, _, _, Try.func78, a_il_within_ok⟩
  · cases h; exact ⟨_, _, _, _, _, Try.func79, a_il_keeps_ok⟩
  · cases h; exact ⟨_, _, _, _, _, Try.func60, a_il_Right_ok⟩
  · cases h; exact ⟨_, _, _, _, _, Try.func61, a_verify_jumps_ok⟩
  · cases h; exact ⟨_, _, _, _, _, Try.func80, a_verify_ahead_with_ok⟩
  · cases h; exact ⟨_, _, _, _, _, Try.func81, a_verify_must_ok⟩
  · cases h; exact ⟨_, _, _, _, _, Try.func87, a_iec_May_ok⟩
  · cases h; exact ⟨_, _, _, _, _, Try.func82, a_verify_logic_ok⟩
  · cases h; exact ⟨_, _, _, _, _, Try.func83, a_verify_ahead_ret_ok⟩
  · cases h; exact ⟨_, _, _, _, _, Try.func94, a_verify_bracket_94_ok⟩
  · cases h; exact ⟨_, _, _, _, _, Try.func84, a_verify_ahead_push_ok⟩
  · cases h; exact ⟨_, _, _, _, _, Try.func86, a_verify_made_ok⟩
  · cases h; exact ⟨_, _, _, _, _, Try.func85, a_verify_ahead_pop_ok⟩
  · cases h; exact ⟨_, _, _, _, _, Try.func62, a_verify_ahead_behind_ok⟩
  · cases h; exact ⟨_, _, _, _, _, Try.func63, a_verify_on_ok⟩
  · cases h; exact ⟨_, _, _, _, _, Try.func88, a_verify_bracket_88_ok⟩
  · cases h; exact ⟨_, _, _, _, _, Try.func64, a_verify_table_lead_ok⟩
  · cases h; exact ⟨_, _, _, _, _, Try.func53, a_verify_all_ok⟩
  · cases h; exact ⟨_, _, _, _, _, Try.func38, a_verify_Check_ok⟩
  · cases h; exact ⟨_, _, _, _, _, Try.func39, a_image_Reach_ok⟩
  · cases h; exact ⟨_, _, _, _, _, Try.func40, a_config_owns_ok⟩
  · cases h; exact ⟨_, _, _, _, _, Try.func22, a_config_station_ok⟩
  · cases h; exact ⟨_, _, _, _, _, Try.func8, a_config_Check_ok⟩
  · cases h; exact ⟨_, _, _, _, _, Try.func10, a_config_Find_ok⟩
  · cases h; exact ⟨_, _, _, _, _, Try.func72, a_members_is_ok⟩
  · cases h; exact ⟨_, _, _, _, _, Try.func58, a_members_one_ok⟩
  · cases h; exact ⟨_, _, _, _, _, Try.func45, a_members_With_ok⟩
  · cases h; exact ⟨_, _, _, _, _, Try.func27, a_config_set_ok⟩
  · cases h; exact ⟨_, _, _, _, _, Try.func13, a_config_Addrs_ok⟩
  · cases h; exact ⟨_, _, _, _, _, Try.func6, a_fuglemanlaw20_awake_ok⟩
  · cases h; exact ⟨_, _, _, _, _, Try.func7, a_fuglemanlaw20_Small_ok⟩
  · cases h; exact ⟨_, _, _, _, _, Try.func4, a_fuglemanlaw20_ConfigParts_ok⟩
  · cases h; exact ⟨_, _, _, _, _, Try.func28, a_config_Addrs_1_ok⟩
  · cases h; exact ⟨_, _, _, _, _, Try.func44, a_config_place_1_ok⟩
  · cases h; exact ⟨_, _, _, _, _, Try.func50, a_blocks_place_1_ok⟩
  · cases h; exact ⟨_, _, _, _, _, Try.func54, a_config_owns_1_ok⟩
  · cases h; exact ⟨_, _, _, _, _, Try.func73, a_image_spot_1_ok⟩
  · cases h
theorem mixed : Try.prog.follows .mixedOrders = true := by kernel_rfl
theorem calls (k : Nat) : CallsOK Try.prog (acall T k) := acall_ok mixed tableOK k
end Go.Proofs.Ytcfokbhmchcgbaa.Tab

/- What the laws are given. Written by a program for this claim. -/
namespace Go.Proofs.Ytcfokbhmchcgbaa.Args
open Go Go.Proofs.Ytcfokbhmchcgbaa.Sym
set_option linter.unusedVariables false
/-- api.Block = fugleman/api.Block -/
structure S63 where
  f0 : Int
  f1 : Int
  f2 : Int
  f3 : Bool
def S63.av (v : S63) : List AV := [.v (.int .i64 v.f0), .v (.int .i64 v.f1), .v (.int .i64 v.f2), .v (.bool v.f3)]
structure S63.In (v : S63) : Prop where
  f0 : (-9223372036854775808 ≤ v.f0 ∧ v.f0 ≤ 9223372036854775807)
  f1 : (-9223372036854775808 ≤ v.f1 ∧ v.f1 ≤ 9223372036854775807)
  f2 : (-9223372036854775808 ≤ v.f2 ∧ v.f2 ≤ 9223372036854775807)
  f3 : True
theorem rd63 : Rd Try.prog 63 4 S63.av S63.In := rd_struct (rdF_cons 3 0 (rd_imp (rd_int Try.underlying3) fun v h => rng_i64 h) (by kernel_rfl) (rdF_cons 3 1 (rd_imp (rd_int Try.underlying3) fun v h => rng_i64 h) (by kernel_rfl) (rdF_cons 3 2 (rd_imp (rd_int Try.underlying3) fun v h => rng_i64 h) (by kernel_rfl) (rdF_one 4 3 (rd_bool Try.underlying4) (by kernel_rfl))))) Try.underlying63 rfl (fun v => ⟨v.1, v.2.1, v.2.2.1, v.2.2.2⟩) (fun _ => rfl) (fun _ => rfl) (fun v h => ⟨h.1, h.2.1, h.2.2.1, h.2.2.2⟩) (by kernel_rfl)
/-- api.Instr = fugleman/api.Instr -/
structure S54 where
  f0 : Int
  f1 : Int
  f2 : Int
  f3 : Int
  f4 : Int
def S54.av (v : S54) : List AV := [.v (.int .i64 v.f0), .v (.int .i64 v.f1), .v (.int .i64 v.f2), .v (.int .i64 v.f3), .v (.int .i64 v.f4)]
structure S54.In (v : S54) : Prop where
  f0 : (-9223372036854775808 ≤ v.f0 ∧ v.f0 ≤ 9223372036854775807)
  f1 : (-9223372036854775808 ≤ v.f1 ∧ v.f1 ≤ 9223372036854775807)
  f2 : (-9223372036854775808 ≤ v.f2 ∧ v.f2 ≤ 9223372036854775807)
  f3 : (-9223372036854775808 ≤ v.f3 ∧ v.f3 ≤ 9223372036854775807)
  f4 : (-9223372036854775808 ≤ v.f4 ∧ v.f4 ≤ 9223372036854775807)
theorem rd54 : Rd Try.prog 54 5 S54.av S54.In := rd_struct (rdF_cons 3 0 (rd_imp (rd_int Try.underlying3) fun v h => rng_i64 h) (by kernel_rfl) (rdF_cons 3 1 (rd_imp (rd_int Try.underlying3) fun v h => rng_i64 h) (by kernel_rfl) (rdF_cons 3 2 (rd_imp (rd_int Try.underlying3) fun v h => rng_i64 h) (by kernel_rfl) (rdF_cons 3 3 (rd_imp (rd_int Try.underlying3) fun v h => rng_i64 h) (by kernel_rfl) (rdF_one 2 4 (rd_imp (rd_int Try.underlying2) fun v h => rng_i64 h) (by kernel_rfl)))))) Try.underlying54 rfl (fun v => ⟨v.1, v.2.1, v.2.2.1, v.2.2.2.1, v.2.2.2.2⟩) (fun _ => rfl) (fun _ => rfl) (fun v h => ⟨h.1, h.2.1, h.2.2.1, h.2.2.2.1, h.2.2.2.2⟩) (by kernel_rfl)
/-- api.Spot = fugleman/api.Spot -/
structure S56 where
  f0 : Int
  f1 : Int
def S56.av (v : S56) : List AV := [.v (.int .i64 v.f0), .v (.int .i64 v.f1)]
structure S56.In (v : S56) : Prop where
  f0 : (-9223372036854775808 ≤ v.f0 ∧ v.f0 ≤ 9223372036854775807)
  f1 : (-9223372036854775808 ≤ v.f1 ∧ v.f1 ≤ 9223372036854775807)
theorem rd56 : Rd Try.prog 56 2 S56.av S56.In := rd_struct (rdF_cons 3 0 (rd_imp (rd_int Try.underlying3) fun v h => rng_i64 h) (by kernel_rfl) (rdF_one 3 1 (rd_imp (rd_int Try.underlying3) fun v h => rng_i64 h) (by kernel_rfl))) Try.underlying56 rfl (fun v => ⟨v.1, v.2⟩) (fun _ => rfl) (fun _ => rfl) (fun v h => ⟨h.1, h.2⟩) (by kernel_rfl)
/-- api.Station = fugleman/api.Station -/
structure S37 where
  f0 : Int
  f1 : Int
  f2 : Int
  f3 : List (S54)
  f4 : List (S56)
  f5 : List (S56)
def S37.av (v : S37) : List AV := [.v (.int .i64 v.f0), .v (.int .i64 v.f1), .v (.int .i64 v.f2), .shr v.f3.length false (v.f3.flatMap S54.av), .shr v.f4.length false (v.f4.flatMap S56.av), .shr v.f5.length false (v.f5.flatMap S56.av)]
structure S37.In (v : S37) : Prop where
  f0 : (-9223372036854775808 ≤ v.f0 ∧ v.f0 ≤ 9223372036854775807)
  f1 : (-9223372036854775808 ≤ v.f1 ∧ v.f1 ≤ 9223372036854775807)
  f2 : (-9223372036854775808 ≤ v.f2 ∧ v.f2 ≤ 9223372036854775807)
  f3 : (v.f3.length ≤ 140737488351232 ∧ ∀ (i0 : Nat) x0, v.f3[i0]? = some x0 → S54.In x0)
  f4 : (v.f4.length ≤ 140737488351232 ∧ ∀ (i0 : Nat) x0, v.f4[i0]? = some x0 → S56.In x0)
  f5 : (v.f5.length ≤ 140737488351232 ∧ ∀ (i0 : Nat) x0, v.f5[i0]? = some x0 → S56.In x0)
theorem rd37 : Rd Try.prog 37 6 S37.av S37.In := rd_struct (rdF_cons 3 0 (rd_imp (rd_int Try.underlying3) fun v h => rng_i64 h) (by kernel_rfl) (rdF_cons 3 1 (rd_imp (rd_int Try.underlying3) fun v h => rng_i64 h) (by kernel_rfl) (rdF_cons 3 2 (rd_imp (rd_int Try.underlying3) fun v h => rng_i64 h) (by kernel_rfl) (rdF_cons 34 3 (rd_slice Try.underlying34 rd54 (by kernel_rfl) (by kernel_rfl)) (by kernel_rfl) (rdF_cons 35 4 (rd_slice Try.underlying35 rd56 (by kernel_rfl) (by kernel_rfl)) (by kernel_rfl) (rdF_one 35 5 (rd_slice Try.underlying35 rd56 (by kernel_rfl) (by kernel_rfl)) (by kernel_rfl))))))) Try.underlying37 rfl (fun v => ⟨v.1, v.2.1, v.2.2.1, v.2.2.2.1, v.2.2.2.2.1, v.2.2.2.2.2⟩) (fun _ => rfl) (fun _ => rfl) (fun v h => ⟨h.1, h.2.1, h.2.2.1, h.2.2.2.1, h.2.2.2.2.1, h.2.2.2.2.2⟩) (by kernel_rfl)
/-- api.Cluster = fugleman/api.Cluster -/
structure S25 where
  f0 : Int
  f1 : Int
  f2 : Int
  f3 : Int
  f4 : Int
  f5 : Int
  f6 : List (S63)
  f7 : List (S37)
def S25.av (v : S25) : List AV := [.v (.int .i64 v.f0), .v (.int .i64 v.f1), .v (.int .i64 v.f2), .v (.int .i64 v.f3), .v (.int .i64 v.f4), .v (.int .i64 v.f5), .shr v.f6.length false (v.f6.flatMap S63.av), .shr v.f7.length false (v.f7.flatMap S37.av)]
structure S25.In (v : S25) : Prop where
  f0 : (-9223372036854775808 ≤ v.f0 ∧ v.f0 ≤ 9223372036854775807)
  f1 : (-9223372036854775808 ≤ v.f1 ∧ v.f1 ≤ 9223372036854775807)
  f2 : (-9223372036854775808 ≤ v.f2 ∧ v.f2 ≤ 9223372036854775807)
  f3 : (-9223372036854775808 ≤ v.f3 ∧ v.f3 ≤ 9223372036854775807)
  f4 : (-9223372036854775808 ≤ v.f4 ∧ v.f4 ≤ 9223372036854775807)
  f5 : (-9223372036854775808 ≤ v.f5 ∧ v.f5 ≤ 9223372036854775807)
  f6 : (v.f6.length ≤ 140737488351232 ∧ ∀ (i0 : Nat) x0, v.f6[i0]? = some x0 → S63.In x0)
  f7 : (v.f7.length ≤ 140737488351232 ∧ ∀ (i0 : Nat) x0, v.f7[i0]? = some x0 → S37.In x0)
theorem rd25 : Rd Try.prog 25 8 S25.av S25.In := rd_struct (rdF_cons 3 0 (rd_imp (rd_int Try.underlying3) fun v h => rng_i64 h) (by kernel_rfl) (rdF_cons 3 1 (rd_imp (rd_int Try.underlying3) fun v h => rng_i64 h) (by kernel_rfl) (rdF_cons 3 2 (rd_imp (rd_int Try.underlying3) fun v h => rng_i64 h) (by kernel_rfl) (rdF_cons 3 3 (rd_imp (rd_int Try.underlying3) fun v h => rng_i64 h) (by kernel_rfl) (rdF_cons 3 4 (rd_imp (rd_int Try.underlying3) fun v h => rng_i64 h) (by kernel_rfl) (rdF_cons 3 5 (rd_imp (rd_int Try.underlying3) fun v h => rng_i64 h) (by kernel_rfl) (rdF_cons 22 6 (rd_slice Try.underlying22 rd63 (by kernel_rfl) (by kernel_rfl)) (by kernel_rfl) (rdF_one 23 7 (rd_slice Try.underlying23 rd37 (by kernel_rfl) (by kernel_rfl)) (by kernel_rfl))))))))) Try.underlying25 rfl (fun v => ⟨v.1, v.2.1, v.2.2.1, v.2.2.2.1, v.2.2.2.2.1, v.2.2.2.2.2.1, v.2.2.2.2.2.2.1, v.2.2.2.2.2.2.2⟩) (fun _ => rfl) (fun _ => rfl) (fun v h => ⟨h.1, h.2.1, h.2.2.1, h.2.2.2.1, h.2.2.2.2.1, h.2.2.2.2.2.1, h.2.2.2.2.2.2.1, h.2.2.2.2.2.2.2⟩) (by kernel_rfl)
theorem rConfigParts0 : Rd Try.prog 25 8 S25.av (fun v : S25 => S25.In v) := rd25
end Go.Proofs.Ytcfokbhmchcgbaa.Args

/- Rows of structs; the first of those that have a number. -/
namespace Go.Proofs.Ytcfokbhmchcgbaa.Cfg
open Go Go.Proofs.Ytcfokbhmchcgbaa.Sym Go.Proofs.Ytcfokbhmchcgbaa.Tab Go.Proofs.Ytcfokbhmchcgbaa.Args
set_option linter.unusedVariables false
set_option linter.unusedSimpArgs false
set_option maxHeartbeats 4000000
set_option maxRecDepth 20000
abbrev Sta := S37
abbrev Blk := S63
abbrev Spt := S56
abbrev Ins := S54
abbrev Clu := S25
theorem chunk {α : Type} (f : α → List AV) (w : Nat) (hw : ∀ x, (f x).length = w) : ∀ (L : List α) (i : Nat) (h : i < L.length), ((L.flatMap f).drop (i * w)).take w = f L[i]
  | [], i, h => by simp at h
  | x :: L, 0, h => by
    rw [Nat.zero_mul, List.drop_zero, List.flatMap_cons, List.take_append_of_le_length (by rw [hw]; exact Nat.le_refl _), ← hw x, List.take_length]
    rfl
  | x :: L, i + 1, h => by
    have hl : (f x).length ≤ (i + 1) * w := by rw [hw, Nat.add_mul]; omega
    rw [List.flatMap_cons, List.drop_append, List.drop_of_length_le hl, List.nil_append, show (i + 1) * w - (f x).length = i * w by rw [hw, Nat.add_mul]; omega]
    exact chunk f w hw L i (by simpa using h)
theorem chunk_len {α : Type} (f : α → List AV) (w : Nat) (hw : ∀ x, (f x).length = w) (L : List α) : (L.flatMap f).length = L.length * w := by
  induction L with
  | nil => simp
  | cons x L ih => rw [List.flatMap_cons, List.length_append, ih, hw, List.length_cons, Nat.add_mul]; omega
/-- The first of those that have a number, -1: there is none. -/
def idx {α : Type} (key : α → Int) (x : Int) (L : List α) : Nat → Nat → Int
  | 0, _ => -1
  | m + 1, i => if h : i < L.length then (if key L[i] = x then i else idx key x L m (i + 1)) else -1
abbrev xo (x : Int) : Sym.Obj := ⟨true, false, true, [.v (.int .i64 x)]⟩
theorem sta_len (x : Sta) : x.av.length = 6 := rfl
theorem blk_len (x : Blk) : x.av.length = 4 := rfl
theorem spt_len (x : Spt) : x.av.length = 2 := rfl
theorem ins_len (x : Ins) : x.av.length = 5 := rfl
/-! Sta -/
theorem clo_Sta (k : Nat) (y : Sta) (x : Int) : acall T (k + 1) 44 1 [.agg y.av, .ptr 0 0] [xo x] = some ⟨.v (.bool (y.f0 == x)), [xo x], 1⟩ := by
  rw [acall_go (body := b_config_place_1) rfl rfl (Nat.le_refl 1)]
  simp -implicitDefEqProofs only [eqs, eqd, eqe, lh_some, ↓reduceIte, reduceCtorEq, Nat.reduceEqDiff, Nat.reduceAdd, Nat.reduceSub, Nat.reduceMul, Nat.reduceLT, Nat.reduceLeDiff, Nat.reduceBEq, Nat.reduceBNe, Nat.reduceGT, Int.reduceEq, Int.reduceLT, Int.reduceLE, Int.reduceToNat, Int.reduceAdd, Int.reduceSub, Int.reduceMul, Int.reduceNeg, Int.reduceBEq, Int.reduceBNe, b_config_place_1, S37.av, xo]
def ist_Sta (L : List Sta) (x : Int) (i d : Nat) : St := ⟨[(0, .shr L.length false (L.flatMap S37.av)), (1, .fn 44 [.ptr 0 0]), (7, .v (.int .i64 L.length)), (8, .v (.int .i64 i))], [xo x], d, [0]⟩
noncomputable abbrev ifin_Sta (k lf : Nat) (s : St) (N : Nat) : Option Res := FnR [.t 4] false false (Lh (acall T (k + 1)) lf (some s) [0, 1, 7, 8] l_api_Station_0 N [.b 0, .c l_api_Station_1])
theorem idx_one_Sta (k lf : Nat) (L : List Sta) (hL : L.length ≤ 250) (x : Int) (i : Nat) (hi : i < L.length) (d : Nat) (hd : d ≤ 1) (N : Nat) : ifin_Sta k lf (ist_Sta L x i d) (N + 1) = if L[i].f0 = x then some ⟨.v (.int .i64 i), [xo x], 1⟩ else ifin_Sta k lf (ist_Sta L x (i + 1) 1) N := by
  have c1 : (i : Int) < L.length := by omega
  have c0 : (0 : Int) ≤ i := by omega
  have w1 : IntKind.i64.wrap ((i : Int) + 1) = i + 1 := w64 (by omega) (by omega)
  have h5 := chunk S37.av 6 sta_len L i hi
  have l5 : i * 6 + 6 ≤ L.length * 6 := by omega
  have hl := chunk_len S37.av 6 sta_len L
  have hc := clo_Sta k L[i] x
  have hdd : d = 0 ∨ d = 1 := by omega
  unfold ifin_Sta ist_Sta
  rw [lh_as l_api_Station_0.eq_1]
  generalize L[i] = y at *
  generalize L.flatMap S37.av = cs at *
  generalize L.length = n at *
  by_cases e : y.f0 = x
  · have e' : (y.f0 == x) = true := by simpa using e
    rw [e'] at hc
    rw [if_pos e]
    simp only [S37.av, xo] at hc
    rcases hdd with rfl | rfl
    · simp -implicitDefEqProofs only [eqs, eqd, eqe, ↓reduceIte, reduceCtorEq, Nat.reduceEqDiff, Nat.reduceAdd, Nat.reduceSub, Nat.reduceMul, Nat.reduceLT, Nat.reduceLeDiff, Nat.reduceBEq, Nat.reduceBNe, Nat.reduceGT, Int.reduceEq, Int.reduceLT, Int.reduceLE, Int.reduceToNat, Int.reduceAdd, Int.reduceSub, Int.reduceMul, Int.reduceNeg, Int.reduceBEq, Int.reduceBNe, nx_nil, S37.av, xo, c0, c1, w1, h5, l5, hl, hc, Int.toNat_natCast, Int.natCast_add]
    · simp -implicitDefEqProofs only [eqs, eqd, eqe, ↓reduceIte, reduceCtorEq, Nat.reduceEqDiff, Nat.reduceAdd, Nat.reduceSub, Nat.reduceMul, Nat.reduceLT, Nat.reduceLeDiff, Nat.reduceBEq, Nat.reduceBNe, Nat.reduceGT, Int.reduceEq, Int.reduceLT, Int.reduceLE, Int.reduceToNat, Int.reduceAdd, Int.reduceSub, Int.reduceMul, Int.reduceNeg, Int.reduceBEq, Int.reduceBNe, nx_nil, S37.av, xo, c0, c1, w1, h5, l5, hl, hc, Int.toNat_natCast, Int.natCast_add]
  · have e' : (y.f0 == x) = false := by simpa using e
    rw [e'] at hc
    rw [if_neg e]
    simp only [S37.av, xo] at hc
    rcases hdd with rfl | rfl
    · simp -implicitDefEqProofs only [eqs, eqd, eqe, ↓reduceIte, reduceCtorEq, Nat.reduceEqDiff, Nat.reduceAdd, Nat.reduceSub, Nat.reduceMul, Nat.reduceLT, Nat.reduceLeDiff, Nat.reduceBEq, Nat.reduceBNe, Nat.reduceGT, Int.reduceEq, Int.reduceLT, Int.reduceLE, Int.reduceToNat, Int.reduceAdd, Int.reduceSub, Int.reduceMul, Int.reduceNeg, Int.reduceBEq, Int.reduceBNe, nx_nil, S37.av, xo, c0, c1, w1, h5, l5, hl, hc, Int.toNat_natCast, Int.natCast_add]
    · simp -implicitDefEqProofs only [eqs, eqd, eqe, ↓reduceIte, reduceCtorEq, Nat.reduceEqDiff, Nat.reduceAdd, Nat.reduceSub, Nat.reduceMul, Nat.reduceLT, Nat.reduceLeDiff, Nat.reduceBEq, Nat.reduceBNe, Nat.reduceGT, Int.reduceEq, Int.reduceLT, Int.reduceLE, Int.reduceToNat, Int.reduceAdd, Int.reduceSub, Int.reduceMul, Int.reduceNeg, Int.reduceBEq, Int.reduceBNe, nx_nil, S37.av, xo, c0, c1, w1, h5, l5, hl, hc, Int.toNat_natCast, Int.natCast_add]
theorem idx_end_Sta (k lf : Nat) (L : List Sta) (x : Int) (d : Nat) (hd : d ≤ 1) (N : Nat) : ifin_Sta k lf (ist_Sta L x L.length d) N = some ⟨.v (.int .i64 (-1)), [xo x], d⟩ := by
  have c1 : ¬ (L.length : Int) < L.length := by omega
  have hdd : d = 0 ∨ d = 1 := by omega
  unfold ifin_Sta ist_Sta
  rw [lh_as l_api_Station_0.eq_1]
  generalize L.flatMap S37.av = cs at *
  rcases hdd with rfl | rfl
  · simp -implicitDefEqProofs only [eqs, eqd, eqe, ↓reduceIte, reduceCtorEq, Nat.reduceEqDiff, Nat.reduceAdd, Nat.reduceSub, Nat.reduceMul, Nat.reduceLT, Nat.reduceLeDiff, Nat.reduceBEq, Nat.reduceBNe, Nat.reduceGT, Int.reduceEq, Int.reduceLT, Int.reduceLE, Int.reduceToNat, Int.reduceAdd, Int.reduceSub, Int.reduceMul, Int.reduceNeg, Int.reduceBEq, Int.reduceBNe, nx_nil, l_api_Station_1, xo, c1]
  · simp -implicitDefEqProofs only [eqs, eqd, eqe, ↓reduceIte, reduceCtorEq, Nat.reduceEqDiff, Nat.reduceAdd, Nat.reduceSub, Nat.reduceMul, Nat.reduceLT, Nat.reduceLeDiff, Nat.reduceBEq, Nat.reduceBNe, Nat.reduceGT, Int.reduceEq, Int.reduceLT, Int.reduceLE, Int.reduceToNat, Int.reduceAdd, Int.reduceSub, Int.reduceMul, Int.reduceNeg, Int.reduceBEq, Int.reduceBNe, nx_nil, l_api_Station_1, xo, c1]
theorem idx_run_Sta (k lf : Nat) (L : List Sta) (hL : L.length ≤ 250) (x : Int) : ∀ (m i d N : Nat), i + m = L.length → m ≤ N → d ≤ 1 → ∃ d', d' ≤ 1 ∧ ifin_Sta k lf (ist_Sta L x i d) N = some ⟨.v (.int .i64 (idx (fun y => y.f0) x L m i)), [xo x], d'⟩
  | 0, i, d, N, hi, hN, hd => by
    obtain rfl : i = L.length := by omega
    exact ⟨d, hd, idx_end_Sta k lf L x d hd N⟩
  | m + 1, i, d, N, hi, hN, hd => by
    obtain ⟨N, rfl⟩ : ∃ M, N = M + 1 := ⟨N - 1, by omega⟩
    have h : i < L.length := by omega
    rw [idx_one_Sta k lf L hL x i h d hd N, idx, dif_pos h]
    by_cases e : L[i].f0 = x
    · rw [if_pos e, if_pos e]
      exact ⟨1, Nat.le_refl _, rfl⟩
    · rw [if_neg e, if_neg e]
      exact idx_run_Sta k lf L hL x m (i + 1) 1 N (by omega) (by omega) (Nat.le_refl _)
theorem idx_Sta (k : Nat) (hk : 250 ≤ k) (L : List Sta) (hL : L.length ≤ 250) (x : Int) : ∃ d, d ≤ 1 ∧ acall T (k + 2) 43 1 [.shr L.length false (L.flatMap S37.av), .fn 44 [.ptr 0 0]] [xo x] = some ⟨.v (.int .i64 (idx (fun y => y.f0) x L L.length 0)), [xo x], d⟩ := by
  obtain ⟨d, h1, h2⟩ := idx_run_Sta k (k + 1) L hL x L.length 0 0 k (by omega) (by omega) (by omega)
  refine ⟨d, h1, ?_⟩
  rw [acall_go (body := b_api_Station) rfl rfl (Nat.le_refl 1), ← h2]
  clear h2
  have lp : ∀ (ks : List It) (s : St), Lp (acall T (k + 1)) (k + 1) [0, 1, 7, 8] l_api_Station_0 (k + 1) ks s = Lh (acall T (k + 1)) (k + 1) (canon [0, 1, 7, 8] s) [0, 1, 7, 8] l_api_Station_0 k ks := fun ks s => lp_succ (n := k)
  unfold ifin_Sta ist_Sta
  generalize L.flatMap S37.av = cs at *
  generalize L.length = n at *
  simp -implicitDefEqProofs only [eqs, eqd, eqe, ↓reduceIte, reduceCtorEq, Nat.reduceEqDiff, Nat.reduceAdd, Nat.reduceSub, Nat.reduceMul, Nat.reduceLT, Nat.reduceLeDiff, Nat.reduceBEq, Nat.reduceBNe, Nat.reduceGT, Int.reduceEq, Int.reduceLT, Int.reduceLE, Int.reduceToNat, Int.reduceAdd, Int.reduceSub, Int.reduceMul, Int.reduceNeg, Int.reduceBEq, Int.reduceBNe, b_api_Station, xo, lp, Int.natCast_zero]
/-! Blk -/
theorem clo_Blk (k : Nat) (y : Blk) (x : Int) : acall T (k + 1) 50 1 [.agg y.av, .ptr 0 0] [xo x] = some ⟨.v (.bool (y.f0 == x)), [xo x], 1⟩ := by
  rw [acall_go (body := b_blocks_place_1) rfl rfl (Nat.le_refl 1)]
  simp -implicitDefEqProofs only [eqs, eqd, eqe, lh_some, ↓reduceIte, reduceCtorEq, Nat.reduceEqDiff, Nat.reduceAdd, Nat.reduceSub, Nat.reduceMul, Nat.reduceLT, Nat.reduceLeDiff, Nat.reduceBEq, Nat.reduceBNe, Nat.reduceGT, Int.reduceEq, Int.reduceLT, Int.reduceLE, Int.reduceToNat, Int.reduceAdd, Int.reduceSub, Int.reduceMul, Int.reduceNeg, Int.reduceBEq, Int.reduceBNe, b_blocks_place_1, S63.av, xo]
def ist_Blk (L : List Blk) (x : Int) (i d : Nat) : St := ⟨[(0, .shr L.length false (L.flatMap S63.av)), (1, .fn 50 [.ptr 0 0]), (7, .v (.int .i64 L.length)), (8, .v (.int .i64 i))], [xo x], d, [0]⟩
noncomputable abbrev ifin_Blk (k lf : Nat) (s : St) (N : Nat) : Option Res := FnR [.t 4] false false (Lh (acall T (k + 1)) lf (some s) [0, 1, 7, 8] l_api_Block_0 N [.b 0, .c l_api_Block_1])
theorem idx_one_Blk (k lf : Nat) (L : List Blk) (hL : L.length ≤ 250) (x : Int) (i : Nat) (hi : i < L.length) (d : Nat) (hd : d ≤ 1) (N : Nat) : ifin_Blk k lf (ist_Blk L x i d) (N + 1) = if L[i].f0 = x then some ⟨.v (.int .i64 i), [xo x], 1⟩ else ifin_Blk k lf (ist_Blk L x (i + 1) 1) N := by
  have c1 : (i : Int) < L.length := by omega
  have c0 : (0 : Int) ≤ i := by omega
  have w1 : IntKind.i64.wrap ((i : Int) + 1) = i + 1 := w64 (by omega) (by omega)
  have h5 := chunk S63.av 4 blk_len L i hi
  have l5 : i * 4 + 4 ≤ L.length * 4 := by omega
  have hl := chunk_len S63.av 4 blk_len L
  have hc := clo_Blk k L[i] x
  have hdd : d = 0 ∨ d = 1 := by omega
  unfold ifin_Blk ist_Blk
  rw [lh_as l_api_Block_0.eq_1]
  generalize L[i] = y at *
  generalize L.flatMap S63.av = cs at *
  generalize L.length = n at *
  by_cases e : y.f0 = x
  · have e' : (y.f0 == x) = true := by simpa using e
    rw [e'] at hc
    rw [if_pos e]
    simp only [S63.av, xo] at hc
    rcases hdd with rfl | rfl
    · simp -implicitDefEqProofs only [eqs, eqd, eqe, ↓reduceIte, reduceCtorEq, Nat.reduceEqDiff, Nat.reduceAdd, Nat.reduceSub, Nat.reduceMul, Nat.reduceLT, Nat.reduceLeDiff, Nat.reduceBEq, Nat.reduceBNe, Nat.reduceGT, Int.reduceEq, Int.reduceLT, Int.reduceLE, Int.reduceToNat, Int.reduceAdd, Int.reduceSub, Int.reduceMul, Int.reduceNeg, Int.reduceBEq, Int.reduceBNe, nx_nil, S63.av, xo, c0, c1, w1, h5, l5, hl, hc, Int.toNat_natCast, Int.natCast_add]
    · simp -implicitDefEqProofs only [eqs, eqd, eqe, ↓reduceIte, reduceCtorEq, Nat.reduceEqDiff, Nat.reduceAdd, Nat.reduceSub, Nat.reduceMul, Nat.reduceLT, Nat.reduceLeDiff, Nat.reduceBEq, Nat.reduceBNe, Nat.reduceGT, Int.reduceEq, Int.reduceLT, Int.reduceLE, Int.reduceToNat, Int.reduceAdd, Int.reduceSub, Int.reduceMul, Int.reduceNeg, Int.reduceBEq, Int.reduceBNe, nx_nil, S63.av, xo, c0, c1, w1, h5, l5, hl, hc, Int.toNat_natCast, Int.natCast_add]
  · have e' : (y.f0 == x) = false := by simpa using e
    rw [e'] at hc
    rw [if_neg e]
    simp only [S63.av, xo] at hc
    rcases hdd with rfl | rfl
    · simp -implicitDefEqProofs only [eqs, eqd, eqe, ↓reduceIte, reduceCtorEq, Nat.reduceEqDiff, Nat.reduceAdd, Nat.reduceSub, Nat.reduceMul, Nat.reduceLT, Nat.reduceLeDiff, Nat.reduceBEq, Nat.reduceBNe, Nat.reduceGT, Int.reduceEq, Int.reduceLT, Int.reduceLE, Int.reduceToNat, Int.reduceAdd, Int.reduceSub, Int.reduceMul, Int.reduceNeg, Int.reduceBEq, Int.reduceBNe, nx_nil, S63.av, xo, c0, c1, w1, h5, l5, hl, hc, Int.toNat_natCast, Int.natCast_add]
    · simp -implicitDefEqProofs only [eqs, eqd, eqe, ↓reduceIte, reduceCtorEq, Nat.reduceEqDiff, Nat.reduceAdd, Nat.reduceSub, Nat.reduceMul, Nat.reduceLT, Nat.reduceLeDiff, Nat.reduceBEq, Nat.reduceBNe, Nat.reduceGT, Int.reduceEq, Int.reduceLT, Int.reduceLE, Int.reduceToNat, Int.reduceAdd, Int.reduceSub, Int.reduceMul, Int.reduceNeg, Int.reduceBEq, Int.reduceBNe, nx_nil, S63.av, xo, c0, c1, w1, h5, l5, hl, hc, Int.toNat_natCast, Int.natCast_add]
theorem idx_end_Blk (k lf : Nat) (L : List Blk) (x : Int) (d : Nat) (hd : d ≤ 1) (N : Nat) : ifin_Blk k lf (ist_Blk L x L.length d) N = some ⟨.v (.int .i64 (-1)), [xo x], d⟩ := by
  have c1 : ¬ (L.length : Int) < L.length := by omega
  have hdd : d = 0 ∨ d = 1 := by omega
  unfold ifin_Blk ist_Blk
  rw [lh_as l_api_Block_0.eq_1]
  generalize L.flatMap S63.av = cs at *
  rcases hdd with rfl | rfl
  · simp -implicitDefEqProofs only [eqs, eqd, eqe, ↓reduceIte, reduceCtorEq, Nat.reduceEqDiff, Nat.reduceAdd, Nat.reduceSub, Nat.reduceMul, Nat.reduceLT, Nat.reduceLeDiff, Nat.reduceBEq, Nat.reduceBNe, Nat.reduceGT, Int.reduceEq, Int.reduceLT, Int.reduceLE, Int.reduceToNat, Int.reduceAdd, Int.reduceSub, Int.reduceMul, Int.reduceNeg, Int.reduceBEq, Int.reduceBNe, nx_nil, l_api_Block_1, xo, c1]
  · simp -implicitDefEqProofs only [eqs, eqd, eqe, ↓reduceIte, reduceCtorEq, Nat.reduceEqDiff, Nat.reduceAdd, Nat.reduceSub, Nat.reduceMul, Nat.reduceLT, Nat.reduceLeDiff, Nat.reduceBEq, Nat.reduceBNe, Nat.reduceGT, Int.reduceEq, Int.reduceLT, Int.reduceLE, Int.reduceToNat, Int.reduceAdd, Int.reduceSub, Int.reduceMul, Int.reduceNeg, Int.reduceBEq, Int.reduceBNe, nx_nil, l_api_Block_1, xo, c1]
theorem idx_run_Blk (k lf : Nat) (L : List Blk) (hL : L.length ≤ 250) (x : Int) : ∀ (m i d N : Nat), i + m = L.length → m ≤ N → d ≤ 1 → ∃ d', d' ≤ 1 ∧ ifin_Blk k lf (ist_Blk L x i d) N = some ⟨.v (.int .i64 (idx (fun y => y.f0) x L m i)), [xo x], d'⟩
  | 0, i, d, N, hi, hN, hd => by
    obtain rfl : i = L.length := by omega
    exact ⟨d, hd, idx_end_Blk k lf L x d hd N⟩
  | m + 1, i, d, N, hi, hN, hd => by
    obtain ⟨N, rfl⟩ : ∃ M, N = M + 1 := ⟨N - 1, by omega⟩
    have h : i < L.length := by omega
    rw [idx_one_Blk k lf L hL x i h d hd N, idx, dif_pos h]
    by_cases e : L[i].f0 = x
    · rw [if_pos e, if_pos e]
      exact ⟨1, Nat.le_refl _, rfl⟩
    · rw [if_neg e, if_neg e]
      exact idx_run_Blk k lf L hL x m (i + 1) 1 N (by omega) (by omega) (Nat.le_refl _)
theorem idx_Blk (k : Nat) (hk : 250 ≤ k) (L : List Blk) (hL : L.length ≤ 250) (x : Int) : ∃ d, d ≤ 1 ∧ acall T (k + 2) 49 1 [.shr L.length false (L.flatMap S63.av), .fn 50 [.ptr 0 0]] [xo x] = some ⟨.v (.int .i64 (idx (fun y => y.f0) x L L.length 0)), [xo x], d⟩ := by
  obtain ⟨d, h1, h2⟩ := idx_run_Blk k (k + 1) L hL x L.length 0 0 k (by omega) (by omega) (by omega)
  refine ⟨d, h1, ?_⟩
  rw [acall_go (body := b_api_Block) rfl rfl (Nat.le_refl 1), ← h2]
  clear h2
  have lp : ∀ (ks : List It) (s : St), Lp (acall T (k + 1)) (k + 1) [0, 1, 7, 8] l_api_Block_0 (k + 1) ks s = Lh (acall T (k + 1)) (k + 1) (canon [0, 1, 7, 8] s) [0, 1, 7, 8] l_api_Block_0 k ks := fun ks s => lp_succ (n := k)
  unfold ifin_Blk ist_Blk
  generalize L.flatMap S63.av = cs at *
  generalize L.length = n at *
  simp -implicitDefEqProofs only [eqs, eqd, eqe, ↓reduceIte, reduceCtorEq, Nat.reduceEqDiff, Nat.reduceAdd, Nat.reduceSub, Nat.reduceMul, Nat.reduceLT, Nat.reduceLeDiff, Nat.reduceBEq, Nat.reduceBNe, Nat.reduceGT, Int.reduceEq, Int.reduceLT, Int.reduceLE, Int.reduceToNat, Int.reduceAdd, Int.reduceSub, Int.reduceMul, Int.reduceNeg, Int.reduceBEq, Int.reduceBNe, b_api_Block, xo, lp, Int.natCast_zero]
/-! Spt -/
end Go.Proofs.Ytcfokbhmchcgbaa.Cfg

/- Find, of stations and of blocks; the document's. -/
namespace Go.Proofs.Ytcfokbhmchcgbaa.Cfg
open Go Go.Proofs.Ytcfokbhmchcgbaa.Sym Go.Proofs.Ytcfokbhmchcgbaa.Tab Go.Proofs.Ytcfokbhmchcgbaa.Args
set_option linter.unusedVariables false
set_option linter.unusedSimpArgs false
set_option maxHeartbeats 4000000
set_option maxRecDepth 20000
/-- The first one itself. -/
def fnd {α : Type} (key : α → Int) (x : Int) (L : List α) : Nat → Nat → Option α
  | 0, _ => none
  | m + 1, i => if h : i < L.length then (if key L[i] = x then some L[i] else fnd key x L m (i + 1)) else none
theorem idx_fnd {α : Type} (key : α → Int) (x : Int) (L : List α) : ∀ m i, i + m = L.length → (idx key x L m i = -1 ∧ fnd key x L m i = none) ∨ ∃ (j : Nat) (h : j < L.length), idx key x L m i = j ∧ fnd key x L m i = some L[j]
  | 0, i, hi => Or.inl ⟨rfl, rfl⟩
  | m + 1, i, hi => by
    rw [idx, fnd, dif_pos (by omega), dif_pos (by omega)]
    split
    · exact Or.inr ⟨i, by omega, rfl, rfl⟩
    · exact idx_fnd key x L m (i + 1) (by omega)
def blkO : Option Blk → List AV
  | none => [.v (.int .i64 0), .v (.int .i64 0), .v (.int .i64 0), .v (.bool false)]
  | some b => b.av
theorem place_a (k : Nat) (hk : 250 ≤ k) (c : Clu) (hL : c.f7.length ≤ 250) (x : Int) : acall T (k + 3) 26 0 [.agg c.av, .v (.int .i64 x)] [] = some ⟨.v (.int .i64 (idx (fun y => y.f0) x c.f7 c.f7.length 0)), [], 1⟩ := by
  obtain ⟨d, h1, h2⟩ := idx_Sta k hk c.f7 hL x
  rw [acall_go (body := b_config_place) rfl rfl (Nat.zero_le _)]
  have hdd : d = 0 ∨ d = 1 := by omega
  simp only [xo] at h2
  rcases hdd with rfl | rfl
  · simp -implicitDefEqProofs only [eqs, eqd, eqe, lh_some, ↓reduceIte, reduceCtorEq, Nat.reduceEqDiff, Nat.reduceAdd, Nat.reduceSub, Nat.reduceMul, Nat.reduceLT, Nat.reduceLeDiff, Nat.reduceBEq, Nat.reduceBNe, Nat.reduceGT, Int.reduceEq, Int.reduceLT, Int.reduceLE, Int.reduceToNat, Int.reduceAdd, Int.reduceSub, Int.reduceMul, Int.reduceNeg, Int.reduceBEq, Int.reduceBNe, b_config_place, S25.av, h2]
  · simp -implicitDefEqProofs only [eqs, eqd, eqe, lh_some, ↓reduceIte, reduceCtorEq, Nat.reduceEqDiff, Nat.reduceAdd, Nat.reduceSub, Nat.reduceMul, Nat.reduceLT, Nat.reduceLeDiff, Nat.reduceBEq, Nat.reduceBNe, Nat.reduceGT, Int.reduceEq, Int.reduceLT, Int.reduceLE, Int.reduceToNat, Int.reduceAdd, Int.reduceSub, Int.reduceMul, Int.reduceNeg, Int.reduceBEq, Int.reduceBNe, b_config_place, S25.av, h2]
theorem bplace_a (k : Nat) (hk : 250 ≤ k) (L : List Blk) (hL : L.length ≤ 250) (x : Int) : acall T (k + 3) 36 0 [.shr L.length false (L.flatMap S63.av), .v (.int .i64 x)] [] = some ⟨.v (.int .i64 (idx (fun y => y.f0) x L L.length 0)), [], 1⟩ := by
  obtain ⟨d, h1, h2⟩ := idx_Blk k hk L hL x
  rw [acall_go (body := b_blocks_place) rfl rfl (Nat.zero_le _)]
  have hdd : d = 0 ∨ d = 1 := by omega
  simp only [xo] at h2
  rcases hdd with rfl | rfl
  · simp -implicitDefEqProofs only [eqs, eqd, eqe, lh_some, ↓reduceIte, reduceCtorEq, Nat.reduceEqDiff, Nat.reduceAdd, Nat.reduceSub, Nat.reduceMul, Nat.reduceLT, Nat.reduceLeDiff, Nat.reduceBEq, Nat.reduceBNe, Nat.reduceGT, Int.reduceEq, Int.reduceLT, Int.reduceLE, Int.reduceToNat, Int.reduceAdd, Int.reduceSub, Int.reduceMul, Int.reduceNeg, Int.reduceBEq, Int.reduceBNe, b_blocks_place, h2]
  · simp -implicitDefEqProofs only [eqs, eqd, eqe, lh_some, ↓reduceIte, reduceCtorEq, Nat.reduceEqDiff, Nat.reduceAdd, Nat.reduceSub, Nat.reduceMul, Nat.reduceLT, Nat.reduceLeDiff, Nat.reduceBEq, Nat.reduceBNe, Nat.reduceGT, Int.reduceEq, Int.reduceLT, Int.reduceLE, Int.reduceToNat, Int.reduceAdd, Int.reduceSub, Int.reduceMul, Int.reduceNeg, Int.reduceBEq, Int.reduceBNe, b_blocks_place, h2]
theorem bfind_a (k : Nat) (hk : 250 ≤ k) (L : List Blk) (hL : L.length ≤ 250) (x : Int) : acall T (k + 4) 33 0 [.shr L.length false (L.flatMap S63.av), .v (.int .i64 x)] [] = some ⟨.tup [.agg (blkO (fnd (fun y => y.f0) x L L.length 0)), .v (.bool (fnd (fun y => y.f0) x L L.length 0).isSome)], [], 1⟩ := by
  have h := bplace_a k hk L hL x
  rw [acall_go (body := b_blocks_Find) rfl rfl (Nat.zero_le _)]
  rcases idx_fnd (fun y : Blk => y.f0) x L L.length 0 (by omega) with ⟨e1, e2⟩ | ⟨j, hj, e1, e2⟩
  · rw [e1] at h
    rw [e2]
    simp -implicitDefEqProofs only [eqs, eqd, eqe, lh_some, ↓reduceIte, reduceCtorEq, Nat.reduceEqDiff, Nat.reduceAdd, Nat.reduceSub, Nat.reduceMul, Nat.reduceLT, Nat.reduceLeDiff, Nat.reduceBEq, Nat.reduceBNe, Nat.reduceGT, Int.reduceEq, Int.reduceLT, Int.reduceLE, Int.reduceToNat, Int.reduceAdd, Int.reduceSub, Int.reduceMul, Int.reduceNeg, Int.reduceBEq, Int.reduceBNe, b_blocks_Find, h, blkO, Option.isSome_none]
  · rw [e1] at h
    rw [e2]
    have c1 : ¬ (j : Int) < 0 := by omega
    have c2 : (j : Int) < L.length := by omega
    have c0 : (0 : Int) ≤ j := by omega
    have h5 := chunk S63.av 4 blk_len L j hj
    have l5 : j * 4 + 4 ≤ L.length * 4 := by omega
    have hl := chunk_len S63.av 4 blk_len L
    generalize L[j] = y at *
    generalize L.flatMap S63.av = cs at *
    generalize L.length = n at *
    simp -implicitDefEqProofs only [eqs, eqd, eqe, lh_some, ↓reduceIte, reduceCtorEq, Nat.reduceEqDiff, Nat.reduceAdd, Nat.reduceSub, Nat.reduceMul, Nat.reduceLT, Nat.reduceLeDiff, Nat.reduceBEq, Nat.reduceBNe, Nat.reduceGT, Int.reduceEq, Int.reduceLT, Int.reduceLE, Int.reduceToNat, Int.reduceAdd, Int.reduceSub, Int.reduceMul, Int.reduceNeg, Int.reduceBEq, Int.reduceBNe, b_blocks_Find, S63.av, h, c0, c1, c2, h5, l5, hl, blkO, Option.isSome_some, Int.toNat_natCast]
/-! the document's -/
end Go.Proofs.Ytcfokbhmchcgbaa.Cfg

/- Numbers; Check of blocks, of both. -/
namespace Go.Proofs.Ytcfokbhmchcgbaa.Cfg
open Go Go.Proofs.Ytcfokbhmchcgbaa.Sym Go.Proofs.Ytcfokbhmchcgbaa.Tab Go.Proofs.Ytcfokbhmchcgbaa.Args
set_option linter.unusedVariables false
set_option linter.unusedSimpArgs false
set_option maxHeartbeats 4000000
set_option maxRecDepth 20000
def inn (x l h : Int) : Bool := decide (l ≤ x) && decide (x ≤ h)
theorem in_a (k : Nat) (x l h : Int) : acall T (k + 1) 21 0 [.v (.int .i64 x), .v (.int .i64 l), .v (.int .i64 h)] [] = some ⟨.v (.bool (inn x l h)), [], 0⟩ := by
  rw [acall_go (body := b_config_in) rfl rfl (Nat.zero_le _)]
  unfold inn
  by_cases c : l ≤ x
  · by_cases d : x ≤ h
    · simp -implicitDefEqProofs only [eqs, eqd, eqe, lh_some, ↓reduceIte, reduceCtorEq, Nat.reduceEqDiff, Nat.reduceAdd, Nat.reduceSub, Nat.reduceMul, Nat.reduceLT, Nat.reduceLeDiff, Nat.reduceBEq, Nat.reduceBNe, Nat.reduceGT, Int.reduceEq, Int.reduceLT, Int.reduceLE, Int.reduceToNat, Int.reduceAdd, Int.reduceSub, Int.reduceMul, Int.reduceNeg, Int.reduceBEq, Int.reduceBNe, b_config_in, c, d]
    · simp -implicitDefEqProofs only [eqs, eqd, eqe, lh_some, ↓reduceIte, reduceCtorEq, Nat.reduceEqDiff, Nat.reduceAdd, Nat.reduceSub, Nat.reduceMul, Nat.reduceLT, Nat.reduceLeDiff, Nat.reduceBEq, Nat.reduceBNe, Nat.reduceGT, Int.reduceEq, Int.reduceLT, Int.reduceLE, Int.reduceToNat, Int.reduceAdd, Int.reduceSub, Int.reduceMul, Int.reduceNeg, Int.reduceBEq, Int.reduceBNe, b_config_in, c, d]
  · simp -implicitDefEqProofs only [eqs, eqd, eqe, lh_some, ↓reduceIte, reduceCtorEq, Nat.reduceEqDiff, Nat.reduceAdd, Nat.reduceSub, Nat.reduceMul, Nat.reduceLT, Nat.reduceLeDiff, Nat.reduceBEq, Nat.reduceBNe, Nat.reduceGT, Int.reduceEq, Int.reduceLT, Int.reduceLE, Int.reduceToNat, Int.reduceAdd, Int.reduceSub, Int.reduceMul, Int.reduceNeg, Int.reduceBEq, Int.reduceBNe, b_config_in, c]
def num (c : Clu) : Bool := inn c.f0 4 50 && (inn c.f1 1 10000 && (inn c.f2 1 50 && (inn c.f3 0 3 && (inn c.f4 1 65535 && inn c.f5 0 31))))
theorem numbers_a (k : Nat) (c : Clu) : acall T (k + 2) 19 0 [.agg c.av] [] = some ⟨.v (.bool (num c)), [], 1⟩ := by
  rw [acall_go (body := b_config_numbers) rfl rfl (Nat.zero_le _)]
  unfold num
  have h0 := in_a k c.f0 4 50
  have h1 := in_a k c.f1 1 10000
  have h2 := in_a k c.f2 1 50
  have h3 := in_a k c.f3 0 3
  have h4 := in_a k c.f4 1 65535
  have h5 := in_a k c.f5 0 31
  generalize inn c.f0 4 50 = b0 at *
  generalize inn c.f1 1 10000 = b1 at *
  generalize inn c.f2 1 50 = b2 at *
  generalize inn c.f3 0 3 = b3 at *
  generalize inn c.f4 1 65535 = b4 at *
  generalize inn c.f5 0 31 = b5 at *
  cases b0
  · simp -implicitDefEqProofs only [eqs, eqd, eqe, lh_some, ↓reduceIte, reduceCtorEq, Nat.reduceEqDiff, Nat.reduceAdd, Nat.reduceSub, Nat.reduceMul, Nat.reduceLT, Nat.reduceLeDiff, Nat.reduceBEq, Nat.reduceBNe, Nat.reduceGT, Int.reduceEq, Int.reduceLT, Int.reduceLE, Int.reduceToNat, Int.reduceAdd, Int.reduceSub, Int.reduceMul, Int.reduceNeg, Int.reduceBEq, Int.reduceBNe, b_config_numbers, S25.av, h0]
  cases b1
  · simp -implicitDefEqProofs only [eqs, eqd, eqe, lh_some, ↓reduceIte, reduceCtorEq, Nat.reduceEqDiff, Nat.reduceAdd, Nat.reduceSub, Nat.reduceMul, Nat.reduceLT, Nat.reduceLeDiff, Nat.reduceBEq, Nat.reduceBNe, Nat.reduceGT, Int.reduceEq, Int.reduceLT, Int.reduceLE, Int.reduceToNat, Int.reduceAdd, Int.reduceSub, Int.reduceMul, Int.reduceNeg, Int.reduceBEq, Int.reduceBNe, b_config_numbers, S25.av, h0, h1]
  cases b2
  · simp -implicitDefEqProofs only [eqs, eqd, eqe, lh_some, ↓reduceIte, reduceCtorEq, Nat.reduceEqDiff, Nat.reduceAdd, Nat.reduceSub, Nat.reduceMul, Nat.reduceLT, Nat.reduceLeDiff, Nat.reduceBEq, Nat.reduceBNe, Nat.reduceGT, Int.reduceEq, Int.reduceLT, Int.reduceLE, Int.reduceToNat, Int.reduceAdd, Int.reduceSub, Int.reduceMul, Int.reduceNeg, Int.reduceBEq, Int.reduceBNe, b_config_numbers, S25.av, h0, h1, h2]
  cases b3
  · simp -implicitDefEqProofs only [eqs, eqd, eqe, lh_some, ↓reduceIte, reduceCtorEq, Nat.reduceEqDiff, Nat.reduceAdd, Nat.reduceSub, Nat.reduceMul, Nat.reduceLT, Nat.reduceLeDiff, Nat.reduceBEq, Nat.reduceBNe, Nat.reduceGT, Int.reduceEq, Int.reduceLT, Int.reduceLE, Int.reduceToNat, Int.reduceAdd, Int.reduceSub, Int.reduceMul, Int.reduceNeg, Int.reduceBEq, Int.reduceBNe, b_config_numbers, S25.av, h0, h1, h2, h3]
  cases b4
  · simp -implicitDefEqProofs only [eqs, eqd, eqe, lh_some, ↓reduceIte, reduceCtorEq, Nat.reduceEqDiff, Nat.reduceAdd, Nat.reduceSub, Nat.reduceMul, Nat.reduceLT, Nat.reduceLeDiff, Nat.reduceBEq, Nat.reduceBNe, Nat.reduceGT, Int.reduceEq, Int.reduceLT, Int.reduceLE, Int.reduceToNat, Int.reduceAdd, Int.reduceSub, Int.reduceMul, Int.reduceNeg, Int.reduceBEq, Int.reduceBNe, b_config_numbers, S25.av, h0, h1, h2, h3, h4]
  simp -implicitDefEqProofs only [eqs, eqd, eqe, lh_some, ↓reduceIte, reduceCtorEq, Nat.reduceEqDiff, Nat.reduceAdd, Nat.reduceSub, Nat.reduceMul, Nat.reduceLT, Nat.reduceLeDiff, Nat.reduceBEq, Nat.reduceBNe, Nat.reduceGT, Int.reduceEq, Int.reduceLT, Int.reduceLE, Int.reduceToNat, Int.reduceAdd, Int.reduceSub, Int.reduceMul, Int.reduceNeg, Int.reduceBEq, Int.reduceBNe, b_config_numbers, S25.av, h0, h1, h2, h3, h4, h5]
def pts (s : Int) : Int := if s < 1 ∨ 64 < s then 0 else (s + 15).tdiv 16
theorem parts_a (k : Nat) (s : Int) : acall T (k + 1) 48 0 [.v (.int .i64 s)] [] = some ⟨.v (.int .i64 (pts s)), [], 0⟩ := by
  rw [acall_go (body := b_blocks_Parts) rfl rfl (Nat.zero_le _)]
  unfold pts
  by_cases c : s < 1
  · rw [if_pos (Or.inl c)]
    simp -implicitDefEqProofs only [eqs, eqd, eqe, lh_some, ↓reduceIte, reduceCtorEq, Nat.reduceEqDiff, Nat.reduceAdd, Nat.reduceSub, Nat.reduceMul, Nat.reduceLT, Nat.reduceLeDiff, Nat.reduceBEq, Nat.reduceBNe, Nat.reduceGT, Int.reduceEq, Int.reduceLT, Int.reduceLE, Int.reduceToNat, Int.reduceAdd, Int.reduceSub, Int.reduceMul, Int.reduceNeg, Int.reduceBEq, Int.reduceBNe, b_blocks_Parts, c]
  by_cases d : 64 < s
  · rw [if_pos (Or.inr d)]
    simp -implicitDefEqProofs only [eqs, eqd, eqe, lh_some, ↓reduceIte, reduceCtorEq, Nat.reduceEqDiff, Nat.reduceAdd, Nat.reduceSub, Nat.reduceMul, Nat.reduceLT, Nat.reduceLeDiff, Nat.reduceBEq, Nat.reduceBNe, Nat.reduceGT, Int.reduceEq, Int.reduceLT, Int.reduceLE, Int.reduceToNat, Int.reduceAdd, Int.reduceSub, Int.reduceMul, Int.reduceNeg, Int.reduceBEq, Int.reduceBNe, b_blocks_Parts, c, d]
  rw [if_neg (by omega)]
  have w1 : IntKind.i64.wrap (s + 16) = s + 16 := w64 (by omega) (by omega)
  have w2 : IntKind.i64.wrap (s + 16 - 1) = s + 15 := by rw [w64 (by omega) (by omega)]; omega
  have w3 : IntKind.i64.wrap ((s + 15).tdiv 16) = (s + 15).tdiv 16 := by
    rw [Int.tdiv_eq_ediv_of_nonneg (by omega)]
    exact w64 (by omega) (by omega)
  simp -implicitDefEqProofs only [eqs, eqd, eqe, lh_some, ↓reduceIte, reduceCtorEq, Nat.reduceEqDiff, Nat.reduceAdd, Nat.reduceSub, Nat.reduceMul, Nat.reduceLT, Nat.reduceLeDiff, Nat.reduceBEq, Nat.reduceBNe, Nat.reduceGT, Int.reduceEq, Int.reduceLT, Int.reduceLE, Int.reduceToNat, Int.reduceAdd, Int.reduceSub, Int.reduceMul, Int.reduceNeg, Int.reduceBEq, Int.reduceBNe, b_blocks_Parts, c, d, w1, w2, w3]
def rgt (b : Blk) : Bool := decide (0 ≤ b.f0) && (decide (b.f0 < 16) && (decide (0 ≤ b.f1) && (decide (b.f1 < 32) && decide (0 < pts b.f2))))
theorem right_a (k : Nat) (b : Blk) : acall T (k + 2) 35 0 [.agg b.av] [] = some ⟨.v (.bool (rgt b)), [], 1⟩ := by
  rw [acall_go (body := b_blocks_right) rfl rfl (Nat.zero_le _)]
  unfold rgt
  have hp := parts_a k b.f2
  generalize pts b.f2 = p at *
  by_cases d0 : 0 ≤ b.f0
  · by_cases d1 : b.f0 < 16
    · by_cases d2 : 0 ≤ b.f1
      · by_cases d3 : b.f1 < 32
        · by_cases d4 : 0 < p
          · simp -implicitDefEqProofs only [eqs, eqd, eqe, lh_some, ↓reduceIte, reduceCtorEq, Nat.reduceEqDiff, Nat.reduceAdd, Nat.reduceSub, Nat.reduceMul, Nat.reduceLT, Nat.reduceLeDiff, Nat.reduceBEq, Nat.reduceBNe, Nat.reduceGT, Int.reduceEq, Int.reduceLT, Int.reduceLE, Int.reduceToNat, Int.reduceAdd, Int.reduceSub, Int.reduceMul, Int.reduceNeg, Int.reduceBEq, Int.reduceBNe, b_blocks_right, S63.av, hp, d0, d1, d2, d3, d4]
          · simp -implicitDefEqProofs only [eqs, eqd, eqe, lh_some, ↓reduceIte, reduceCtorEq, Nat.reduceEqDiff, Nat.reduceAdd, Nat.reduceSub, Nat.reduceMul, Nat.reduceLT, Nat.reduceLeDiff, Nat.reduceBEq, Nat.reduceBNe, Nat.reduceGT, Int.reduceEq, Int.reduceLT, Int.reduceLE, Int.reduceToNat, Int.reduceAdd, Int.reduceSub, Int.reduceMul, Int.reduceNeg, Int.reduceBEq, Int.reduceBNe, b_blocks_right, S63.av, hp, d0, d1, d2, d3, d4]
        · simp -implicitDefEqProofs only [eqs, eqd, eqe, lh_some, ↓reduceIte, reduceCtorEq, Nat.reduceEqDiff, Nat.reduceAdd, Nat.reduceSub, Nat.reduceMul, Nat.reduceLT, Nat.reduceLeDiff, Nat.reduceBEq, Nat.reduceBNe, Nat.reduceGT, Int.reduceEq, Int.reduceLT, Int.reduceLE, Int.reduceToNat, Int.reduceAdd, Int.reduceSub, Int.reduceMul, Int.reduceNeg, Int.reduceBEq, Int.reduceBNe, b_blocks_right, S63.av, hp, d0, d1, d2, d3]
      · simp -implicitDefEqProofs only [eqs, eqd, eqe, lh_some, ↓reduceIte, reduceCtorEq, Nat.reduceEqDiff, Nat.reduceAdd, Nat.reduceSub, Nat.reduceMul, Nat.reduceLT, Nat.reduceLeDiff, Nat.reduceBEq, Nat.reduceBNe, Nat.reduceGT, Int.reduceEq, Int.reduceLT, Int.reduceLE, Int.reduceToNat, Int.reduceAdd, Int.reduceSub, Int.reduceMul, Int.reduceNeg, Int.reduceBEq, Int.reduceBNe, b_blocks_right, S63.av, hp, d0, d1, d2]
    · simp -implicitDefEqProofs only [eqs, eqd, eqe, lh_some, ↓reduceIte, reduceCtorEq, Nat.reduceEqDiff, Nat.reduceAdd, Nat.reduceSub, Nat.reduceMul, Nat.reduceLT, Nat.reduceLeDiff, Nat.reduceBEq, Nat.reduceBNe, Nat.reduceGT, Int.reduceEq, Int.reduceLT, Int.reduceLE, Int.reduceToNat, Int.reduceAdd, Int.reduceSub, Int.reduceMul, Int.reduceNeg, Int.reduceBEq, Int.reduceBNe, b_blocks_right, S63.av, hp, d0, d1]
  · simp -implicitDefEqProofs only [eqs, eqd, eqe, lh_some, ↓reduceIte, reduceCtorEq, Nat.reduceEqDiff, Nat.reduceAdd, Nat.reduceSub, Nat.reduceMul, Nat.reduceLT, Nat.reduceLeDiff, Nat.reduceBEq, Nat.reduceBNe, Nat.reduceGT, Int.reduceEq, Int.reduceLT, Int.reduceLE, Int.reduceToNat, Int.reduceAdd, Int.reduceSub, Int.reduceMul, Int.reduceNeg, Int.reduceBEq, Int.reduceBNe, b_blocks_right, S63.av, hp, d0]
/-- Is one of so many ahead, from one on, of that number? -/
def dupI {α : Type} (key : α → Int) (x : Int) (L : List α) : Nat → Nat → Bool
  | 0, _ => false
  | m + 1, k => if h : k < L.length then (if key L[k] = x then true else dupI key x L m (k + 1)) else false
theorem idx_dup {α : Type} (key : α → Int) (x : Int) (L : List α) (i : Nat) (hi : i < L.length) (hx : key L[i] = x) : ∀ m k, k + m = L.length → k ≤ i → (idx key x L m k < i ↔ dupI key x L (i - k) k = true) ∧ 0 ≤ idx key x L m k
  | 0, k, hk, hki => by omega
  | m + 1, k, hk, hki => by
    rw [idx, dif_pos (by omega)]
    by_cases e : k = i
    · subst e
      rw [if_pos hx, Nat.sub_self, dupI]
      refine ⟨⟨fun h => by omega, fun h => by cases h⟩, by omega⟩
    · obtain ⟨j, hj⟩ : ∃ j, i - k = j + 1 := ⟨i - k - 1, by omega⟩
      rw [hj, dupI, dif_pos (by omega)]
      by_cases c : key L[k] = x
      · rw [if_pos c, if_pos c]
        exact ⟨⟨fun _ => rfl, fun _ => by omega⟩, by omega⟩
      · rw [if_neg c, if_neg c]
        have := idx_dup key x L i hi hx m (k + 1) (by omega) (by omega)
        rw [show i - (k + 1) = j by omega] at this
        exact this
/-- From one on. -/
def bch (L : List Blk) : Nat → Nat → Int × Int
  | 0, _ => (0, 0)
  | m + 1, i => if h : i < L.length then (if rgt L[i] = false then (3, i) else if dupI (fun y => y.f0) L[i].f0 L i 0 = true then (14, i) else bch L m (i + 1)) else (0, 0)
def rE (r : Int × Int) : AV := .tup [.v (.int .i64 r.1), .v (.int .i64 r.2)]
def bcst (L : List Blk) (i d : Nat) : St := ⟨[(0, .shr L.length false (L.flatMap S63.av)), (9, .shr L.length false (L.flatMap S63.av)), (10, .v (.int .i64 L.length)), (11, .v (.int .i64 i))], [], d, []⟩
noncomputable abbrev bcfin (C : CT) (lf : Nat) (s : St) (N : Nat) : Option Res := FnR [.t 2, .t 3] false false (Lh C lf (some s) [0, 9, 10, 11] l_blocks_Check_0 N [.b 0, .c l_blocks_Check_1])
theorem bc_one (k : Nat) (hk : 250 ≤ k) (lf : Nat) (L : List Blk) (hL : L.length ≤ 250) (i : Nat) (hi : i < L.length) (d : Nat) (hd : d ≤ 1) (N : Nat) : bcfin (acall T (k + 3)) lf (bcst L i d) (N + 1) = if rgt L[i] = false then some ⟨rE (3, i), [], 1⟩ else if dupI (fun y => y.f0) L[i].f0 L i 0 = true then some ⟨rE (14, i), [], 1⟩ else bcfin (acall T (k + 3)) lf (bcst L (i + 1) 1) N := by
  have c1 : (i : Int) < L.length := by omega
  have c0 : (0 : Int) ≤ i := by omega
  have w1 : IntKind.i64.wrap ((i : Int) + 1) = i + 1 := w64 (by omega) (by omega)
  have h5 := chunk S63.av 4 blk_len L i hi
  have l5 : i * 4 + 4 ≤ L.length * 4 := by omega
  have hl := chunk_len S63.av 4 blk_len L
  have hr := right_a (k + 1) L[i]
  have hp := bplace_a k hk L hL L[i].f0
  have hj := (idx_dup (fun y : Blk => y.f0) L[i].f0 L i hi rfl L.length 0 (by omega) (by omega)).1
  rw [Nat.sub_zero] at hj
  generalize dupI (fun y : Blk => y.f0) L[i].f0 L i 0 = du at *
  generalize idx (fun y : Blk => y.f0) L[i].f0 L L.length 0 = j at *
  have hdd : d = 0 ∨ d = 1 := by omega
  unfold bcfin bcst rE
  rw [lh_as l_blocks_Check_0.eq_1]
  generalize L[i] = y at *
  generalize rgt y = ry at *
  generalize L.flatMap S63.av = cs at *
  generalize L.length = n at *
  simp only [S63.av] at hr
  cases ry
  · rw [if_pos rfl]
    rcases hdd with rfl | rfl
    · simp -implicitDefEqProofs only [eqs, eqd, eqe, ↓reduceIte, reduceCtorEq, Nat.reduceEqDiff, Nat.reduceAdd, Nat.reduceSub, Nat.reduceMul, Nat.reduceLT, Nat.reduceLeDiff, Nat.reduceBEq, Nat.reduceBNe, Nat.reduceGT, Int.reduceEq, Int.reduceLT, Int.reduceLE, Int.reduceToNat, Int.reduceAdd, Int.reduceSub, Int.reduceMul, Int.reduceNeg, Int.reduceBEq, Int.reduceBNe, nx_nil, S63.av, c0, c1, w1, h5, l5, hl, hr, hp, Int.toNat_natCast, Int.natCast_add]
    · simp -implicitDefEqProofs only [eqs, eqd, eqe, ↓reduceIte, reduceCtorEq, Nat.reduceEqDiff, Nat.reduceAdd, Nat.reduceSub, Nat.reduceMul, Nat.reduceLT, Nat.reduceLeDiff, Nat.reduceBEq, Nat.reduceBNe, Nat.reduceGT, Int.reduceEq, Int.reduceLT, Int.reduceLE, Int.reduceToNat, Int.reduceAdd, Int.reduceSub, Int.reduceMul, Int.reduceNeg, Int.reduceBEq, Int.reduceBNe, nx_nil, S63.av, c0, c1, w1, h5, l5, hl, hr, hp, Int.toNat_natCast, Int.natCast_add]
  rw [if_neg (by decide)]
  cases du
  · have hjn : ¬ j < (i : Int) := fun h => by simpa using hj.1 h
    rw [if_neg (by decide)]
    rcases hdd with rfl | rfl
    · simp -implicitDefEqProofs only [eqs, eqd, eqe, ↓reduceIte, reduceCtorEq, Nat.reduceEqDiff, Nat.reduceAdd, Nat.reduceSub, Nat.reduceMul, Nat.reduceLT, Nat.reduceLeDiff, Nat.reduceBEq, Nat.reduceBNe, Nat.reduceGT, Int.reduceEq, Int.reduceLT, Int.reduceLE, Int.reduceToNat, Int.reduceAdd, Int.reduceSub, Int.reduceMul, Int.reduceNeg, Int.reduceBEq, Int.reduceBNe, nx_nil, S63.av, c0, c1, w1, h5, l5, hl, hr, hp, Int.toNat_natCast, Int.natCast_add, hjn]
    · simp -implicitDefEqProofs only [eqs, eqd, eqe, ↓reduceIte, reduceCtorEq, Nat.reduceEqDiff, Nat.reduceAdd, Nat.reduceSub, Nat.reduceMul, Nat.reduceLT, Nat.reduceLeDiff, Nat.reduceBEq, Nat.reduceBNe, Nat.reduceGT, Int.reduceEq, Int.reduceLT, Int.reduceLE, Int.reduceToNat, Int.reduceAdd, Int.reduceSub, Int.reduceMul, Int.reduceNeg, Int.reduceBEq, Int.reduceBNe, nx_nil, S63.av, c0, c1, w1, h5, l5, hl, hr, hp, Int.toNat_natCast, Int.natCast_add, hjn]
  · have hjn : j < (i : Int) := hj.2 rfl
    rw [if_pos rfl]
    rcases hdd with rfl | rfl
    · simp -implicitDefEqProofs only [eqs, eqd, eqe, ↓reduceIte, reduceCtorEq, Nat.reduceEqDiff, Nat.reduceAdd, Nat.reduceSub, Nat.reduceMul, Nat.reduceLT, Nat.reduceLeDiff, Nat.reduceBEq, Nat.reduceBNe, Nat.reduceGT, Int.reduceEq, Int.reduceLT, Int.reduceLE, Int.reduceToNat, Int.reduceAdd, Int.reduceSub, Int.reduceMul, Int.reduceNeg, Int.reduceBEq, Int.reduceBNe, nx_nil, S63.av, c0, c1, w1, h5, l5, hl, hr, hp, Int.toNat_natCast, Int.natCast_add, hjn]
    · simp -implicitDefEqProofs only [eqs, eqd, eqe, ↓reduceIte, reduceCtorEq, Nat.reduceEqDiff, Nat.reduceAdd, Nat.reduceSub, Nat.reduceMul, Nat.reduceLT, Nat.reduceLeDiff, Nat.reduceBEq, Nat.reduceBNe, Nat.reduceGT, Int.reduceEq, Int.reduceLT, Int.reduceLE, Int.reduceToNat, Int.reduceAdd, Int.reduceSub, Int.reduceMul, Int.reduceNeg, Int.reduceBEq, Int.reduceBNe, nx_nil, S63.av, c0, c1, w1, h5, l5, hl, hr, hp, Int.toNat_natCast, Int.natCast_add, hjn]
theorem bc_end (C : CT) (lf : Nat) (L : List Blk) (d : Nat) (hd : d ≤ 1) (N : Nat) : bcfin C lf (bcst L L.length d) N = some ⟨rE (0, 0), [], d⟩ := by
  have c1 : ¬ (L.length : Int) < L.length := by omega
  have hdd : d = 0 ∨ d = 1 := by omega
  unfold bcfin bcst rE
  rw [lh_as l_blocks_Check_0.eq_1]
  generalize L.flatMap S63.av = cs at *
  rcases hdd with rfl | rfl
  · simp -implicitDefEqProofs only [eqs, eqd, eqe, ↓reduceIte, reduceCtorEq, Nat.reduceEqDiff, Nat.reduceAdd, Nat.reduceSub, Nat.reduceMul, Nat.reduceLT, Nat.reduceLeDiff, Nat.reduceBEq, Nat.reduceBNe, Nat.reduceGT, Int.reduceEq, Int.reduceLT, Int.reduceLE, Int.reduceToNat, Int.reduceAdd, Int.reduceSub, Int.reduceMul, Int.reduceNeg, Int.reduceBEq, Int.reduceBNe, nx_nil, l_blocks_Check_1, c1]
  · simp -implicitDefEqProofs only [eqs, eqd, eqe, ↓reduceIte, reduceCtorEq, Nat.reduceEqDiff, Nat.reduceAdd, Nat.reduceSub, Nat.reduceMul, Nat.reduceLT, Nat.reduceLeDiff, Nat.reduceBEq, Nat.reduceBNe, Nat.reduceGT, Int.reduceEq, Int.reduceLT, Int.reduceLE, Int.reduceToNat, Int.reduceAdd, Int.reduceSub, Int.reduceMul, Int.reduceNeg, Int.reduceBEq, Int.reduceBNe, nx_nil, l_blocks_Check_1, c1]
theorem bc_run (k : Nat) (hk : 250 ≤ k) (lf : Nat) (L : List Blk) (hL : L.length ≤ 250) : ∀ (m i d N : Nat), i + m = L.length → m ≤ N → d ≤ 1 → ∃ d', d' ≤ 1 ∧ bcfin (acall T (k + 3)) lf (bcst L i d) N = some ⟨rE (bch L m i), [], d'⟩
  | 0, i, d, N, hi, hN, hd => by
    obtain rfl : i = L.length := by omega
    exact ⟨d, hd, bc_end _ lf L d hd N⟩
  | m + 1, i, d, N, hi, hN, hd => by
    obtain ⟨N, rfl⟩ : ∃ M, N = M + 1 := ⟨N - 1, by omega⟩
    have h : i < L.length := by omega
    rw [bc_one k hk lf L hL i h d hd N, bch, dif_pos h]
    by_cases e : rgt L[i] = false
    · rw [if_pos e, if_pos e]
      exact ⟨1, Nat.le_refl _, rfl⟩
    rw [if_neg e, if_neg e]
    by_cases e2 : dupI (fun y => y.f0) L[i].f0 L i 0 = true
    · rw [if_pos e2, if_pos e2]
      exact ⟨1, Nat.le_refl _, rfl⟩
    rw [if_neg e2, if_neg e2]
    exact bc_run k hk lf L hL m (i + 1) 1 N (by omega) (by omega) (Nat.le_refl _)
def bcR (L : List Blk) : Int × Int := if 16 < L.length then (2, 16) else bch L L.length 0
theorem bcheck_a (k : Nat) (hk : 250 ≤ k) (L : List Blk) (hL : L.length ≤ 250) : ∃ d, d ≤ 1 ∧ acall T (k + 4) 20 0 [.shr L.length false (L.flatMap S63.av)] [] = some ⟨rE (bcR L), [], d⟩ := by
  unfold bcR
  by_cases c : 16 < L.length
  · have c' : (16 : Int) < L.length := by omega
    rw [if_pos c]
    refine ⟨0, by omega, ?_⟩
    rw [acall_go (body := b_blocks_Check) rfl rfl (Nat.zero_le _)]
    unfold rE
    simp -implicitDefEqProofs only [eqs, eqd, eqe, lh_some, ↓reduceIte, reduceCtorEq, Nat.reduceEqDiff, Nat.reduceAdd, Nat.reduceSub, Nat.reduceMul, Nat.reduceLT, Nat.reduceLeDiff, Nat.reduceBEq, Nat.reduceBNe, Nat.reduceGT, Int.reduceEq, Int.reduceLT, Int.reduceLE, Int.reduceToNat, Int.reduceAdd, Int.reduceSub, Int.reduceMul, Int.reduceNeg, Int.reduceBEq, Int.reduceBNe, b_blocks_Check, c']
  · have c' : ¬ (16 : Int) < L.length := by omega
    rw [if_neg c]
    obtain ⟨d, h1, h2⟩ := bc_run k hk (k + 3) L hL L.length 0 0 (k + 2) (by omega) (by omega) (by omega)
    refine ⟨d, h1, ?_⟩
    rw [acall_go (body := b_blocks_Check) rfl rfl (Nat.zero_le _), ← h2]
    clear h2
    have lp : ∀ (ks : List It) (s : St), Lp (acall T (k + 3)) (k + 3) [0, 9, 10, 11] l_blocks_Check_0 (k + 3) ks s = Lh (acall T (k + 3)) (k + 3) (canon [0, 9, 10, 11] s) [0, 9, 10, 11] l_blocks_Check_0 (k + 2) ks := fun ks s => lp_succ (n := k + 2)
    unfold bcfin bcst
    generalize L.flatMap S63.av = cs at *
    generalize L.length = n at *
    simp -implicitDefEqProofs only [eqs, eqd, eqe, ↓reduceIte, reduceCtorEq, Nat.reduceEqDiff, Nat.reduceAdd, Nat.reduceSub, Nat.reduceMul, Nat.reduceLT, Nat.reduceLeDiff, Nat.reduceBEq, Nat.reduceBNe, Nat.reduceGT, Int.reduceEq, Int.reduceLT, Int.reduceLE, Int.reduceToNat, Int.reduceAdd, Int.reduceSub, Int.reduceMul, Int.reduceNeg, Int.reduceBEq, Int.reduceBNe, b_blocks_Check, c', lp, Int.natCast_zero]
/-! the document's -/
end Go.Proofs.Ytcfokbhmchcgbaa.Cfg

/- A spot: is it one of those ahead? its block, or the error. -/
namespace Go.Proofs.Ytcfokbhmchcgbaa.Cfg
open Go Go.Proofs.Ytcfokbhmchcgbaa.Sym Go.Proofs.Ytcfokbhmchcgbaa.Tab Go.Proofs.Ytcfokbhmchcgbaa.Args
set_option linter.unusedVariables false
set_option linter.unusedSimpArgs false
set_option maxHeartbeats 4000000
set_option maxRecDepth 20000
abbrev yo (x : Spt) : Sym.Obj := ⟨true, false, true, [.v (.int .i64 x.f0), .v (.int .i64 x.f1)]⟩
/-! a spot -/
theorem clo_Spo (k : Nat) (y : Spt) (x : Spt) : acall T (k + 1) 73 1 [.agg y.av, .ptr 0 0] [yo x] = some ⟨.v (.bool (y.f0 == x.f0)), [yo x], 1⟩ := by
  rw [acall_go (body := b_image_spot_1) rfl rfl (Nat.le_refl 1)]
  simp -implicitDefEqProofs only [eqs, eqd, eqe, lh_some, ↓reduceIte, reduceCtorEq, Nat.reduceEqDiff, Nat.reduceAdd, Nat.reduceSub, Nat.reduceMul, Nat.reduceLT, Nat.reduceLeDiff, Nat.reduceBEq, Nat.reduceBNe, Nat.reduceGT, Int.reduceEq, Int.reduceLT, Int.reduceLE, Int.reduceToNat, Int.reduceAdd, Int.reduceSub, Int.reduceMul, Int.reduceNeg, Int.reduceBEq, Int.reduceBNe, b_image_spot_1, S56.av, yo]
def ist_Spo (L : List Spt) (x : Spt) (i d : Nat) : St := ⟨[(0, .shr L.length false (L.flatMap S56.av)), (1, .fn 73 [.ptr 0 0]), (7, .v (.int .i64 L.length)), (8, .v (.int .i64 i))], [yo x], d, [0]⟩
noncomputable abbrev ifin_Spo (k lf : Nat) (s : St) (N : Nat) : Option Res := FnR [.t 4] false false (Lh (acall T (k + 1)) lf (some s) [0, 1, 7, 8] l_api_Spot_47_0 N [.b 0, .c l_api_Spot_47_1])
theorem idx_one_Spo (k lf : Nat) (L : List Spt) (hL : L.length ≤ 250) (x : Spt) (i : Nat) (hi : i < L.length) (d : Nat) (hd : d ≤ 1) (N : Nat) : ifin_Spo k lf (ist_Spo L x i d) (N + 1) = if L[i].f0 = x.f0 then some ⟨.v (.int .i64 i), [yo x], 1⟩ else ifin_Spo k lf (ist_Spo L x (i + 1) 1) N := by
  have c1 : (i : Int) < L.length := by omega
  have c0 : (0 : Int) ≤ i := by omega
  have w1 : IntKind.i64.wrap ((i : Int) + 1) = i + 1 := w64 (by omega) (by omega)
  have h5 := chunk S56.av 2 spt_len L i hi
  have l5 : i * 2 + 2 ≤ L.length * 2 := by omega
  have hl := chunk_len S56.av 2 spt_len L
  have hc := clo_Spo k L[i] x
  have hdd : d = 0 ∨ d = 1 := by omega
  unfold ifin_Spo ist_Spo
  rw [lh_as l_api_Spot_47_0.eq_1]
  generalize L[i] = y at *
  generalize L.flatMap S56.av = cs at *
  generalize L.length = n at *
  by_cases e : y.f0 = x.f0
  · have e' : (y.f0 == x.f0) = true := by simpa using e
    rw [e'] at hc
    rw [if_pos e]
    simp only [S56.av, yo] at hc
    rcases hdd with rfl | rfl
    · simp -implicitDefEqProofs only [eqs, eqd, eqe, ↓reduceIte, reduceCtorEq, Nat.reduceEqDiff, Nat.reduceAdd, Nat.reduceSub, Nat.reduceMul, Nat.reduceLT, Nat.reduceLeDiff, Nat.reduceBEq, Nat.reduceBNe, Nat.reduceGT, Int.reduceEq, Int.reduceLT, Int.reduceLE, Int.reduceToNat, Int.reduceAdd, Int.reduceSub, Int.reduceMul, Int.reduceNeg, Int.reduceBEq, Int.reduceBNe, nx_nil, S56.av, yo, c0, c1, w1, h5, l5, hl, hc, Int.toNat_natCast, Int.natCast_add]
    · simp -implicitDefEqProofs only [eqs, eqd, eqe, ↓reduceIte, reduceCtorEq, Nat.reduceEqDiff, Nat.reduceAdd, Nat.reduceSub, Nat.reduceMul, Nat.reduceLT, Nat.reduceLeDiff, Nat.reduceBEq, Nat.reduceBNe, Nat.reduceGT, Int.reduceEq, Int.reduceLT, Int.reduceLE, Int.reduceToNat, Int.reduceAdd, Int.reduceSub, Int.reduceMul, Int.reduceNeg, Int.reduceBEq, Int.reduceBNe, nx_nil, S56.av, yo, c0, c1, w1, h5, l5, hl, hc, Int.toNat_natCast, Int.natCast_add]
  · have e' : (y.f0 == x.f0) = false := by simpa using e
    rw [e'] at hc
    rw [if_neg e]
    simp only [S56.av, yo] at hc
    rcases hdd with rfl | rfl
    · simp -implicitDefEqProofs only [eqs, eqd, eqe, ↓reduceIte, reduceCtorEq, Nat.reduceEqDiff, Nat.reduceAdd, Nat.reduceSub, Nat.reduceMul, Nat.reduceLT, Nat.reduceLeDiff, Nat.reduceBEq, Nat.reduceBNe, Nat.reduceGT, Int.reduceEq, Int.reduceLT, Int.reduceLE, Int.reduceToNat, Int.reduceAdd, Int.reduceSub, Int.reduceMul, Int.reduceNeg, Int.reduceBEq, Int.reduceBNe, nx_nil, S56.av, yo, c0, c1, w1, h5, l5, hl, hc, Int.toNat_natCast, Int.natCast_add]
    · simp -implicitDefEqProofs only [eqs, eqd, eqe, ↓reduceIte, reduceCtorEq, Nat.reduceEqDiff, Nat.reduceAdd, Nat.reduceSub, Nat.reduceMul, Nat.reduceLT, Nat.reduceLeDiff, Nat.reduceBEq, Nat.reduceBNe, Nat.reduceGT, Int.reduceEq, Int.reduceLT, Int.reduceLE, Int.reduceToNat, Int.reduceAdd, Int.reduceSub, Int.reduceMul, Int.reduceNeg, Int.reduceBEq, Int.reduceBNe, nx_nil, S56.av, yo, c0, c1, w1, h5, l5, hl, hc, Int.toNat_natCast, Int.natCast_add]
theorem idx_end_Spo (k lf : Nat) (L : List Spt) (x : Spt) (d : Nat) (hd : d ≤ 1) (N : Nat) : ifin_Spo k lf (ist_Spo L x L.length d) N = some ⟨.v (.int .i64 (-1)), [yo x], d⟩ := by
  have c1 : ¬ (L.length : Int) < L.length := by omega
  have hdd : d = 0 ∨ d = 1 := by omega
  unfold ifin_Spo ist_Spo
  rw [lh_as l_api_Spot_47_0.eq_1]
  generalize L.flatMap S56.av = cs at *
  rcases hdd with rfl | rfl
  · simp -implicitDefEqProofs only [eqs, eqd, eqe, ↓reduceIte, reduceCtorEq, Nat.reduceEqDiff, Nat.reduceAdd, Nat.reduceSub, Nat.reduceMul, Nat.reduceLT, Nat.reduceLeDiff, Nat.reduceBEq, Nat.reduceBNe, Nat.reduceGT, Int.reduceEq, Int.reduceLT, Int.reduceLE, Int.reduceToNat, Int.reduceAdd, Int.reduceSub, Int.reduceMul, Int.reduceNeg, Int.reduceBEq, Int.reduceBNe, nx_nil, l_api_Spot_47_1, yo, c1]
  · simp -implicitDefEqProofs only [eqs, eqd, eqe, ↓reduceIte, reduceCtorEq, Nat.reduceEqDiff, Nat.reduceAdd, Nat.reduceSub, Nat.reduceMul, Nat.reduceLT, Nat.reduceLeDiff, Nat.reduceBEq, Nat.reduceBNe, Nat.reduceGT, Int.reduceEq, Int.reduceLT, Int.reduceLE, Int.reduceToNat, Int.reduceAdd, Int.reduceSub, Int.reduceMul, Int.reduceNeg, Int.reduceBEq, Int.reduceBNe, nx_nil, l_api_Spot_47_1, yo, c1]
theorem idx_run_Spo (k lf : Nat) (L : List Spt) (hL : L.length ≤ 250) (x : Spt) : ∀ (m i d N : Nat), i + m = L.length → m ≤ N → d ≤ 1 → ∃ d', d' ≤ 1 ∧ ifin_Spo k lf (ist_Spo L x i d) N = some ⟨.v (.int .i64 (idx (fun y => y.f0) x.f0 L m i)), [yo x], d'⟩
  | 0, i, d, N, hi, hN, hd => by
    obtain rfl : i = L.length := by omega
    exact ⟨d, hd, idx_end_Spo k lf L x d hd N⟩
  | m + 1, i, d, N, hi, hN, hd => by
    obtain ⟨N, rfl⟩ : ∃ M, N = M + 1 := ⟨N - 1, by omega⟩
    have h : i < L.length := by omega
    rw [idx_one_Spo k lf L hL x i h d hd N, idx, dif_pos h]
    by_cases e : L[i].f0 = x.f0
    · rw [if_pos e, if_pos e]
      exact ⟨1, Nat.le_refl _, rfl⟩
    · rw [if_neg e, if_neg e]
      exact idx_run_Spo k lf L hL x m (i + 1) 1 N (by omega) (by omega) (Nat.le_refl _)
theorem idx_Spo (k : Nat) (hk : 250 ≤ k) (L : List Spt) (hL : L.length ≤ 250) (x : Spt) : ∃ d, d ≤ 1 ∧ acall T (k + 2) 47 1 [.shr L.length false (L.flatMap S56.av), .fn 73 [.ptr 0 0]] [yo x] = some ⟨.v (.int .i64 (idx (fun y => y.f0) x.f0 L L.length 0)), [yo x], d⟩ := by
  obtain ⟨d, h1, h2⟩ := idx_run_Spo k (k + 1) L hL x L.length 0 0 k (by omega) (by omega) (by omega)
  refine ⟨d, h1, ?_⟩
  rw [acall_go (body := b_api_Spot_47) rfl rfl (Nat.le_refl 1), ← h2]
  clear h2
  have lp : ∀ (ks : List It) (s : St), Lp (acall T (k + 1)) (k + 1) [0, 1, 7, 8] l_api_Spot_47_0 (k + 1) ks s = Lh (acall T (k + 1)) (k + 1) (canon [0, 1, 7, 8] s) [0, 1, 7, 8] l_api_Spot_47_0 k ks := fun ks s => lp_succ (n := k)
  unfold ifin_Spo ist_Spo
  generalize L.flatMap S56.av = cs at *
  generalize L.length = n at *
  simp -implicitDefEqProofs only [eqs, eqd, eqe, ↓reduceIte, reduceCtorEq, Nat.reduceEqDiff, Nat.reduceAdd, Nat.reduceSub, Nat.reduceMul, Nat.reduceLT, Nat.reduceLeDiff, Nat.reduceBEq, Nat.reduceBNe, Nat.reduceGT, Int.reduceEq, Int.reduceLT, Int.reduceLE, Int.reduceToNat, Int.reduceAdd, Int.reduceSub, Int.reduceMul, Int.reduceNeg, Int.reduceBEq, Int.reduceBNe, b_api_Spot_47, yo, lp, Int.natCast_zero]
theorem contains_s (k : Nat) (hk : 250 ≤ k) (L : List Spt) (hL : L.length ≤ 250) (x : Spt) : ∃ d, d ≤ 1 ∧ acall T (k + 3) 31 1 [.shr L.length false (L.flatMap S56.av), .fn 73 [.ptr 0 0]] [yo x] = some ⟨.v (.bool (decide (0 ≤ idx (fun z : Spt => z.f0) x.f0 L L.length 0))), [yo x], d⟩ := by
  obtain ⟨d, h1, h2⟩ := idx_Spo k hk L hL x
  refine ⟨d, h1, ?_⟩
  rw [acall_go (body := b_api_Spot_31) rfl rfl (Nat.le_refl 1)]
  simp only [yo] at h2
  have hdd : d = 0 ∨ d = 1 := by omega
  generalize idx (fun z : Spt => z.f0) x.f0 L L.length 0 = j at *
  by_cases c : 0 ≤ j
  · rcases hdd with rfl | rfl
    · simp -implicitDefEqProofs only [eqs, eqd, eqe, lh_some, ↓reduceIte, reduceCtorEq, Nat.reduceEqDiff, Nat.reduceAdd, Nat.reduceSub, Nat.reduceMul, Nat.reduceLT, Nat.reduceLeDiff, Nat.reduceBEq, Nat.reduceBNe, Nat.reduceGT, Int.reduceEq, Int.reduceLT, Int.reduceLE, Int.reduceToNat, Int.reduceAdd, Int.reduceSub, Int.reduceMul, Int.reduceNeg, Int.reduceBEq, Int.reduceBNe, b_api_Spot_31, yo, h2, c]
    · simp -implicitDefEqProofs only [eqs, eqd, eqe, lh_some, ↓reduceIte, reduceCtorEq, Nat.reduceEqDiff, Nat.reduceAdd, Nat.reduceSub, Nat.reduceMul, Nat.reduceLT, Nat.reduceLeDiff, Nat.reduceBEq, Nat.reduceBNe, Nat.reduceGT, Int.reduceEq, Int.reduceLT, Int.reduceLE, Int.reduceToNat, Int.reduceAdd, Int.reduceSub, Int.reduceMul, Int.reduceNeg, Int.reduceBEq, Int.reduceBNe, b_api_Spot_31, yo, h2, c]
  · rcases hdd with rfl | rfl
    · simp -implicitDefEqProofs only [eqs, eqd, eqe, lh_some, ↓reduceIte, reduceCtorEq, Nat.reduceEqDiff, Nat.reduceAdd, Nat.reduceSub, Nat.reduceMul, Nat.reduceLT, Nat.reduceLeDiff, Nat.reduceBEq, Nat.reduceBNe, Nat.reduceGT, Int.reduceEq, Int.reduceLT, Int.reduceLE, Int.reduceToNat, Int.reduceAdd, Int.reduceSub, Int.reduceMul, Int.reduceNeg, Int.reduceBEq, Int.reduceBNe, b_api_Spot_31, yo, h2, c]
    · simp -implicitDefEqProofs only [eqs, eqd, eqe, lh_some, ↓reduceIte, reduceCtorEq, Nat.reduceEqDiff, Nat.reduceAdd, Nat.reduceSub, Nat.reduceMul, Nat.reduceLT, Nat.reduceLeDiff, Nat.reduceBEq, Nat.reduceBNe, Nat.reduceGT, Int.reduceEq, Int.reduceLT, Int.reduceLE, Int.reduceToNat, Int.reduceAdd, Int.reduceSub, Int.reduceMul, Int.reduceNeg, Int.reduceBEq, Int.reduceBNe, b_api_Spot_31, yo, h2, c]
theorem chunk_take {α : Type} (f : α → List AV) (w : Nat) (hw : ∀ x, (f x).length = w) : ∀ (L : List α) (m : Nat), (L.flatMap f).take (m * w) = (L.take m).flatMap f
  | [], m => by simp
  | x :: L, 0 => by simp
  | x :: L, m + 1 => by
    rw [List.flatMap_cons, List.take_succ_cons, List.flatMap_cons, List.take_append, show (m + 1) * w - (f x).length = m * w by rw [hw, Nat.add_mul]; omega, chunk_take f w hw L m, List.take_of_length_le (show (f x).length ≤ (m + 1) * w by rw [hw, Nat.add_mul]; omega)]
theorem idx_take {α : Type} (key : α → Int) (x : Int) (L : List α) (i : Nat) (hi : i ≤ L.length) : ∀ m k, k + m = i → decide (0 ≤ idx key x (L.take i) m k) = dupI key x L m k
  | 0, k, h => by rw [idx, dupI]; rfl
  | m + 1, k, h => by
    rw [idx, dupI, dif_pos (by rw [List.length_take]; omega), dif_pos (by omega), List.getElem_take]
    by_cases c : key L[k] = x
    · rw [if_pos c, if_pos c]
      simp
    · rw [if_neg c, if_neg c]
      exact idx_take key x L i hi m (k + 1) (by omega)
def bad (s : Spt) (b : Blk) : Bool := decide (s.f1 < 0) || (decide (64 < s.f1) || (decide (b.f2 < 0) || decide (64 - s.f1 < b.f2)))
/-- The error of a spot. -/
def spE (B : List Blk) (P : List Spt) (i : Nat) (s : Spt) : Int := match fnd (fun y => y.f0) s.f0 B B.length 0 with
  | none => 5
  | some b => if dupI (fun y => y.f0) s.f0 P i 0 = true then 14 else if bad s b = true then 2 else 0
theorem spot_a (k : Nat) (hk : 250 ≤ k) (B : List Blk) (hB : B.length ≤ 250) (P : List Spt) (hP : P.length ≤ 250) (i : Nat) (hi : i < P.length) : acall T (k + 5) 59 0 [.shr P.length false (P.flatMap S56.av), .v (.int .i64 i), .shr B.length false (B.flatMap S63.av)] [] = some ⟨.tup [.agg (blkO (fnd (fun y => y.f0) P[i].f0 B B.length 0)), .v (.int .i64 (spE B P i P[i]))], [], 1⟩ := by
  have c1 : (i : Int) < P.length := by omega
  have c0 : (0 : Int) ≤ i := by omega
  have h5 := chunk S56.av 2 spt_len P i hi
  have l5 : i * 2 + 2 ≤ P.length * 2 := by omega
  have hl := chunk_len S56.av 2 spt_len P
  have hf := bfind_a k hk B hB P[i].f0
  have htl : (P.take i).length = i := by rw [List.length_take]; omega
  obtain ⟨d, hd, hc⟩ := contains_s (k + 1) (by omega) (P.take i) (by omega) P[i]
  rw [htl, idx_take (fun z : Spt => z.f0) P[i].f0 P i (by omega) i 0 (by omega), ← chunk_take S56.av 2 spt_len P i] at hc
  have l6 : i ≤ P.length := by omega
  have hdd : d = 0 ∨ d = 1 := by omega
  rw [acall_go (body := b_image_spot) rfl rfl (Nat.zero_le _)]
  unfold spE
  generalize dupI (fun z : Spt => z.f0) P[i].f0 P i 0 = du at *
  clear htl
  generalize P[i] = y at *
  generalize P.flatMap S56.av = cs at *
  generalize P.length = n at *
  generalize B.flatMap S63.av = bs at *
  simp only [yo] at hc
  generalize fnd (fun z : Blk => z.f0) y.f0 B B.length 0 = r at *
  generalize B.length = nb at *
  cases r with
  | none =>
    simp only [blkO, Option.isSome_none] at hf
    simp -implicitDefEqProofs only [eqs, eqd, eqe, lh_some, ↓reduceIte, reduceCtorEq, Nat.reduceEqDiff, Nat.reduceAdd, Nat.reduceSub, Nat.reduceMul, Nat.reduceLT, Nat.reduceLeDiff, Nat.reduceBEq, Nat.reduceBNe, Nat.reduceGT, Int.reduceEq, Int.reduceLT, Int.reduceLE, Int.reduceToNat, Int.reduceAdd, Int.reduceSub, Int.reduceMul, Int.reduceNeg, Int.reduceBEq, Int.reduceBNe, b_image_spot, gs_image_spot, S56.av, blkO, c0, c1, h5, l5, hl, hf, Int.toNat_natCast]
  | some b =>
    simp only [blkO, Option.isSome_some] at hf
    simp only [S63.av] at hf
    cases du
    · simp only [Bool.false_eq_true, if_false]
      unfold bad
      by_cases d1 : y.f1 < 0
      · rcases hdd with rfl | rfl
        · simp -implicitDefEqProofs only [eqs, eqd, eqe, lh_some, ↓reduceIte, reduceCtorEq, Nat.reduceEqDiff, Nat.reduceAdd, Nat.reduceSub, Nat.reduceMul, Nat.reduceLT, Nat.reduceLeDiff, Nat.reduceBEq, Nat.reduceBNe, Nat.reduceGT, Int.reduceEq, Int.reduceLT, Int.reduceLE, Int.reduceToNat, Int.reduceAdd, Int.reduceSub, Int.reduceMul, Int.reduceNeg, Int.reduceBEq, Int.reduceBNe, b_image_spot, gs_image_spot, S56.av, S63.av, blkO, c0, c1, h5, l5, l6, hl, hf, hc, Int.toNat_natCast, Int.natCast_nonneg, d1]
        · simp -implicitDefEqProofs only [eqs, eqd, eqe, lh_some, ↓reduceIte, reduceCtorEq, Nat.reduceEqDiff, Nat.reduceAdd, Nat.reduceSub, Nat.reduceMul, Nat.reduceLT, Nat.reduceLeDiff, Nat.reduceBEq, Nat.reduceBNe, Nat.reduceGT, Int.reduceEq, Int.reduceLT, Int.reduceLE, Int.reduceToNat, Int.reduceAdd, Int.reduceSub, Int.reduceMul, Int.reduceNeg, Int.reduceBEq, Int.reduceBNe, b_image_spot, gs_image_spot, S56.av, S63.av, blkO, c0, c1, h5, l5, l6, hl, hf, hc, Int.toNat_natCast, Int.natCast_nonneg, d1]
      by_cases d2 : 64 < y.f1
      · rcases hdd with rfl | rfl
        · simp -implicitDefEqProofs only [eqs, eqd, eqe, lh_some, ↓reduceIte, reduceCtorEq, Nat.reduceEqDiff, Nat.reduceAdd, Nat.reduceSub, Nat.reduceMul, Nat.reduceLT, Nat.reduceLeDiff, Nat.reduceBEq, Nat.reduceBNe, Nat.reduceGT, Int.reduceEq, Int.reduceLT, Int.reduceLE, Int.reduceToNat, Int.reduceAdd, Int.reduceSub, Int.reduceMul, Int.reduceNeg, Int.reduceBEq, Int.reduceBNe, b_image_spot, gs_image_spot, S56.av, S63.av, blkO, c0, c1, h5, l5, l6, hl, hf, hc, Int.toNat_natCast, Int.natCast_nonneg, d1, d2]
        · simp -implicitDefEqProofs only [eqs, eqd, eqe, lh_some, ↓reduceIte, reduceCtorEq, Nat.reduceEqDiff, Nat.reduceAdd, Nat.reduceSub, Nat.reduceMul, Nat.reduceLT, Nat.reduceLeDiff, Nat.reduceBEq, Nat.reduceBNe, Nat.reduceGT, Int.reduceEq, Int.reduceLT, Int.reduceLE, Int.reduceToNat, Int.reduceAdd, Int.reduceSub, Int.reduceMul, Int.reduceNeg, Int.reduceBEq, Int.reduceBNe, b_image_spot, gs_image_spot, S56.av, S63.av, blkO, c0, c1, h5, l5, l6, hl, hf, hc, Int.toNat_natCast, Int.natCast_nonneg, d1, d2]
      by_cases d3 : b.f2 < 0
      · rcases hdd with rfl | rfl
        · simp -implicitDefEqProofs only [eqs, eqd, eqe, lh_some, ↓reduceIte, reduceCtorEq, Nat.reduceEqDiff, Nat.reduceAdd, Nat.reduceSub, Nat.reduceMul, Nat.reduceLT, Nat.reduceLeDiff, Nat.reduceBEq, Nat.reduceBNe, Nat.reduceGT, Int.reduceEq, Int.reduceLT, Int.reduceLE, Int.reduceToNat, Int.reduceAdd, Int.reduceSub, Int.reduceMul, Int.reduceNeg, Int.reduceBEq, Int.reduceBNe, b_image_spot, gs_image_spot, S56.av, S63.av, blkO, c0, c1, h5, l5, l6, hl, hf, hc, Int.toNat_natCast, Int.natCast_nonneg, d1, d2, d3]
        · simp -implicitDefEqProofs only [eqs, eqd, eqe, lh_some, ↓reduceIte, reduceCtorEq, Nat.reduceEqDiff, Nat.reduceAdd, Nat.reduceSub, Nat.reduceMul, Nat.reduceLT, Nat.reduceLeDiff, Nat.reduceBEq, Nat.reduceBNe, Nat.reduceGT, Int.reduceEq, Int.reduceLT, Int.reduceLE, Int.reduceToNat, Int.reduceAdd, Int.reduceSub, Int.reduceMul, Int.reduceNeg, Int.reduceBEq, Int.reduceBNe, b_image_spot, gs_image_spot, S56.av, S63.av, blkO, c0, c1, h5, l5, l6, hl, hf, hc, Int.toNat_natCast, Int.natCast_nonneg, d1, d2, d3]
      have w1 : IntKind.i64.wrap (64 - y.f1) = 64 - y.f1 := w64 (by omega) (by omega)
      by_cases d4 : 64 - y.f1 < b.f2
      · rcases hdd with rfl | rfl
        · simp -implicitDefEqProofs only [eqs, eqd, eqe, lh_some, ↓reduceIte, reduceCtorEq, Nat.reduceEqDiff, Nat.reduceAdd, Nat.reduceSub, Nat.reduceMul, Nat.reduceLT, Nat.reduceLeDiff, Nat.reduceBEq, Nat.reduceBNe, Nat.reduceGT, Int.reduceEq, Int.reduceLT, Int.reduceLE, Int.reduceToNat, Int.reduceAdd, Int.reduceSub, Int.reduceMul, Int.reduceNeg, Int.reduceBEq, Int.reduceBNe, b_image_spot, gs_image_spot, S56.av, S63.av, blkO, c0, c1, h5, l5, l6, hl, hf, hc, Int.toNat_natCast, Int.natCast_nonneg, d1, d2, d3, d4, w1]
        · simp -implicitDefEqProofs only [eqs, eqd, eqe, lh_some, ↓reduceIte, reduceCtorEq, Nat.reduceEqDiff, Nat.reduceAdd, Nat.reduceSub, Nat.reduceMul, Nat.reduceLT, Nat.reduceLeDiff, Nat.reduceBEq, Nat.reduceBNe, Nat.reduceGT, Int.reduceEq, Int.reduceLT, Int.reduceLE, Int.reduceToNat, Int.reduceAdd, Int.reduceSub, Int.reduceMul, Int.reduceNeg, Int.reduceBEq, Int.reduceBNe, b_image_spot, gs_image_spot, S56.av, S63.av, blkO, c0, c1, h5, l5, l6, hl, hf, hc, Int.toNat_natCast, Int.natCast_nonneg, d1, d2, d3, d4, w1]
      · rcases hdd with rfl | rfl
        · simp -implicitDefEqProofs only [eqs, eqd, eqe, lh_some, ↓reduceIte, reduceCtorEq, Nat.reduceEqDiff, Nat.reduceAdd, Nat.reduceSub, Nat.reduceMul, Nat.reduceLT, Nat.reduceLeDiff, Nat.reduceBEq, Nat.reduceBNe, Nat.reduceGT, Int.reduceEq, Int.reduceLT, Int.reduceLE, Int.reduceToNat, Int.reduceAdd, Int.reduceSub, Int.reduceMul, Int.reduceNeg, Int.reduceBEq, Int.reduceBNe, b_image_spot, gs_image_spot, S56.av, S63.av, blkO, c0, c1, h5, l5, l6, hl, hf, hc, Int.toNat_natCast, Int.natCast_nonneg, d1, d2, d3, d4, w1]
        · simp -implicitDefEqProofs only [eqs, eqd, eqe, lh_some, ↓reduceIte, reduceCtorEq, Nat.reduceEqDiff, Nat.reduceAdd, Nat.reduceSub, Nat.reduceMul, Nat.reduceLT, Nat.reduceLeDiff, Nat.reduceBEq, Nat.reduceBNe, Nat.reduceGT, Int.reduceEq, Int.reduceLT, Int.reduceLE, Int.reduceToNat, Int.reduceAdd, Int.reduceSub, Int.reduceMul, Int.reduceNeg, Int.reduceBEq, Int.reduceBNe, b_image_spot, gs_image_spot, S56.av, S63.av, blkO, c0, c1, h5, l5, l6, hl, hf, hc, Int.toNat_natCast, Int.natCast_nonneg, d1, d2, d3, d4, w1]
    · simp only [if_true]
      rcases hdd with rfl | rfl
      · simp -implicitDefEqProofs only [eqs, eqd, eqe, lh_some, ↓reduceIte, reduceCtorEq, Nat.reduceEqDiff, Nat.reduceAdd, Nat.reduceSub, Nat.reduceMul, Nat.reduceLT, Nat.reduceLeDiff, Nat.reduceBEq, Nat.reduceBNe, Nat.reduceGT, Int.reduceEq, Int.reduceLT, Int.reduceLE, Int.reduceToNat, Int.reduceAdd, Int.reduceSub, Int.reduceMul, Int.reduceNeg, Int.reduceBEq, Int.reduceBNe, b_image_spot, gs_image_spot, S56.av, S63.av, blkO, c0, c1, h5, l5, l6, hl, hf, hc, Int.toNat_natCast, Int.natCast_nonneg]
      · simp -implicitDefEqProofs only [eqs, eqd, eqe, lh_some, ↓reduceIte, reduceCtorEq, Nat.reduceEqDiff, Nat.reduceAdd, Nat.reduceSub, Nat.reduceMul, Nat.reduceLT, Nat.reduceLeDiff, Nat.reduceBEq, Nat.reduceBNe, Nat.reduceGT, Int.reduceEq, Int.reduceLT, Int.reduceLE, Int.reduceToNat, Int.reduceAdd, Int.reduceSub, Int.reduceMul, Int.reduceNeg, Int.reduceBEq, Int.reduceBNe, b_image_spot, gs_image_spot, S56.av, S63.av, blkO, c0, c1, h5, l5, l6, hl, hf, hc, Int.toNat_natCast, Int.natCast_nonneg]
end Go.Proofs.Ytcfokbhmchcgbaa.Cfg
