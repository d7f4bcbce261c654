/- The program's functions, as the abstract machine has them. Written by a program for this claim. -/
import Derived.Test.YteamlgfohagocaaSymQ
import Derived.Test.YteamlgfohagocaaProg
import Derived.KernelRfl
namespace Go.Proofs.Yteamlgfohagocaa.Tab
open Go Go.Proofs.Yteamlgfohagocaa.Sym
set_option linter.unusedVariables false

/-- Calls that act. -/
def hv : List Nat := [7, 9, 20, 10, 17, 8, 12, 22, 13]
/-! fugleman/blocks.Parts: 15 -/
def b_blocks_Parts : AC :=
 (.seq (.reg [⟨(some 2), none, .mv (.c (.v (.int .i64 0)))⟩])
 (.seq (.seq (.reg [⟨(some 3), none, .mv (.t 0)⟩, ⟨(some 4), none, .bin .lss (.t 3) (.c (.v (.int .i64 1)))⟩, ⟨(some 5), none, .mv (.t 4)⟩, ⟨(some 6), (some (5, false)), .mv (.t 0)⟩, ⟨(some 7), (some (5, false)), .bin .gtr (.t 6) (.c (.v (.int .i64 64)))⟩, ⟨(some 8), none, .pick (.t 5) (.c (.v (.bool true))) (.t 7)⟩])
   (.cond (.t 8) (.seq (.reg [⟨(some 2), none, .mv (.c (.v (.int .i64 0)))⟩])
     .ret)
    .skip))
  (.seq (.reg [⟨(some 9), none, .mv (.t 0)⟩, ⟨(some 10), none, .bin .add (.t 9) (.c (.v (.int .i64 16)))⟩, ⟨(some 11), none, .bin .sub (.t 10) (.c (.v (.int .i64 1)))⟩, ⟨(some 12), none, .bin .quo (.t 11) (.c (.v (.int .i64 16)))⟩, ⟨(some 2), none, .mv (.t 12)⟩])
   .ret)))
def a_blocks_Parts : AFn := ⟨1, b_blocks_Parts, [.t 2], false, false⟩
theorem a_blocks_Parts_ok : compF Try.prog Try.f15 [] false false hv = some a_blocks_Parts := by kernel_rfl

/-! fugleman/blocks.Piece: 21 -/
def b_blocks_Piece : AC :=
 (.seq (.reg [⟨(some 4), none, .mv (.c (.v (.int .i64 0)))⟩, ⟨(some 5), none, .mv (.c (.v (.int .i64 0)))⟩])
 (.seq (.seq (.reg [⟨(some 7), none, .mv (.t 1)⟩, ⟨(some 8), none, .bin .lss (.t 7) (.c (.v (.int .i64 0)))⟩, ⟨(some 9), none, .mv (.t 8)⟩, ⟨(some 10), (some (9, false)), .mv (.t 1)⟩, ⟨(some 11), (some (9, false)), .mv (.t 0)⟩, ⟨(some 12), (some (9, false)), .call (.c (.fn 15 [])) [(.t 11)]⟩, ⟨(some 13), (some (9, false)), .bin .geq (.t 10) (.t 12)⟩, ⟨(some 14), none, .pick (.t 9) (.c (.v (.bool true))) (.t 13)⟩])
   (.cond (.t 14) (.seq (.reg [⟨(some 4), none, .mv (.c (.v (.int .i64 0)))⟩, ⟨(some 5), none, .mv (.c (.v (.int .i64 0)))⟩])
     .ret)
    .skip))
  (.seq (.reg [⟨(some 15), none, .mv (.t 1)⟩, ⟨(some 16), none, .bin .mul (.t 15) (.c (.v (.int .i64 16)))⟩, ⟨(some 6), none, .mv (.t 16)⟩])
   (.seq (.reg [⟨(some 17), none, .mv (.t 6)⟩, ⟨(some 18), none, .mv (.t 0)⟩, ⟨(some 19), none, .mv (.t 6)⟩, ⟨(some 20), none, .bin .sub (.t 18) (.t 19)⟩, ⟨(some 21), none, .min [(.c (.v (.int .i64 16))), (.t 20)]⟩, ⟨(some 4), none, .mv (.t 17)⟩, ⟨(some 5), none, .mv (.t 21)⟩])
    .ret))))
def a_blocks_Piece : AFn := ⟨2, b_blocks_Piece, [.t 4, .t 5], false, false⟩
theorem a_blocks_Piece_ok : compF Try.prog Try.f21 [] false false hv = some a_blocks_Piece := by kernel_rfl

/-! fugleman/blocks.Cut: 16 -/
def b_blocks_Cut : AC :=
 (.seq (.reg [⟨(some 4), none, .mv (.c (.v (.string ⟨#[]⟩)))⟩])
 (.seq (.reg [⟨(some 8), none, .mv (.t 0)⟩, ⟨(some 9), none, .lens (.t 8)⟩, ⟨(some 10), none, .mv (.t 1)⟩, ⟨(some 11), none, .call (.c (.fn 21 [])) [(.t 9), (.t 10)]⟩, ⟨(some 7), none, .mv (.t 11)⟩, ⟨(some 12), none, .ext 0 (.t 7)⟩, ⟨(some 13), none, .ext 1 (.t 7)⟩, ⟨(some 5), none, .mv (.t 12)⟩, ⟨(some 6), none, .mv (.t 13)⟩])
  (.seq (.reg [⟨(some 14), none, .mv (.t 0)⟩, ⟨(some 15), none, .mv (.t 5)⟩, ⟨(some 16), none, .mv (.t 5)⟩, ⟨(some 17), none, .mv (.t 6)⟩, ⟨(some 18), none, .bin .add (.t 16) (.t 17)⟩, ⟨(some 19), none, .slstr (.t 14) (some (.t 15)) (some (.t 18))⟩, ⟨(some 4), none, .mv (.t 19)⟩])
   .ret)))
def a_blocks_Cut : AFn := ⟨2, b_blocks_Cut, [.t 4], false, false⟩
theorem a_blocks_Cut_ok : compF Try.prog Try.f16 [] false false hv = some a_blocks_Cut := by kernel_rfl

/-! fugleman/parts.Split: 7 -/
def l_parts_Split_1 : AC :=
 (.seq (.reg [⟨(some 31), none, .mv (.t 5)⟩, ⟨(some 4), none, .mv (.t 31)⟩])
 .ret)
def l_parts_Split_0 : AC :=
 (.seq (.reg [⟨(some 13), none, .bin .lss (.t 12) (.t 11)⟩])
 (.seq (.cond (.t 13) .skip
   (.exit 0))
  (.seq (.block 1 (.seq (.reg [⟨(some 14), none, .mv (.t 12)⟩, ⟨(some 7), none, .mv (.t 14)⟩])
     (.seq (.reg [⟨(some 15), none, .mv (.t 7)⟩, ⟨(some 16), none, .cvi .u8 (.t 15)⟩, ⟨(some 17), none, .mv (.t 6)⟩, ⟨(some 18), none, .cvi .u8 (.t 17)⟩, ⟨(some 19), none, .mv (.t 1)⟩, ⟨(some 20), none, .mv (.t 7)⟩, ⟨(some 21), none, .call (.c (.fn 16 [])) [(.t 19), (.t 20)]⟩, ⟨(some 22), none, .fad 0 (.t 2)⟩, ⟨none, none, .store 1 (.t 22) (.c (.v (.int .i64 4)))⟩, ⟨(some 23), none, .fad 16 (.t 2)⟩, ⟨none, none, .store 1 (.t 23) (.t 16)⟩, ⟨(some 24), none, .fad 17 (.t 2)⟩, ⟨none, none, .store 1 (.t 24) (.t 18)⟩, ⟨(some 25), none, .fad 18 (.t 2)⟩, ⟨none, none, .store 1 (.t 25) (.t 21)⟩])
      (.reg [⟨(some 26), none, .mv (.t 5)⟩, ⟨(some 27), none, .load (some 19) (.t 2)⟩, ⟨(some 28), none, .row 19 1 [(.v (.int .i64 0)), (.v (.int .u8 0)), (.v (.int .u8 0)), (.v (.int .u16 0)), (.v (.int .u16 0)), (.v (.int .u16 0)), (.v (.int .u8 0)), (.v (.int .u16 0)), (.v (.int .u16 0)), (.v (.int .u16 0)), (.v (.int .u8 0)), (.v (.int .u16 0)), (.v (.bool false)), (.v (.int .u8 0)), (.v (.int .u16 0)), (.v (.int .u32 0)), (.v (.int .u8 0)), (.v (.int .u8 0)), (.v (.string ⟨#[]⟩))] [(0, 19, (.t 27))]⟩, ⟨(some 29), none, .app 19 64 (.t 26) (.t 28)⟩, ⟨(some 5), none, .mv (.t 29)⟩]))))
   (.reg [⟨(some 30), none, .bin .add (.t 12) (.c (.v (.int .i64 1)))⟩, ⟨(some 12), none, .mv (.t 30)⟩]))))
def b_parts_Split : AC :=
 (.seq (.reg [⟨(some 2), none, .box (.t 0)⟩, ⟨(some 4), none, .mv (.c (.v (.slice none 0 0)))⟩])
 (.seq (.reg [⟨(some 5), none, .mv (.c (.v (.slice none 0 0)))⟩])
  (.seq (.reg [⟨(some 8), none, .mv (.t 1)⟩, ⟨(some 9), none, .lens (.t 8)⟩, ⟨(some 10), none, .call (.c (.fn 15 [])) [(.t 9)]⟩, ⟨(some 6), none, .mv (.t 10)⟩])
   (.seq (.seq (.reg [⟨(some 11), none, .mv (.t 6)⟩, ⟨(some 12), none, .mv (.c (.v (.int .i64 0)))⟩])
     (.block 0 (.loop [1, 2, 5, 6, 11, 12] l_parts_Split_0)))
    l_parts_Split_1))))
def a_parts_Split : AFn := ⟨2, b_parts_Split, [.t 4], true, false⟩
theorem a_parts_Split_ok : compF Try.prog Try.f7 [[1, 2, 5, 6, 11, 12]] true false hv = some a_parts_Split := by kernel_rfl

/-! fugleman/parts.New: 9 -/
def b_parts_New : AC :=
 (.seq (.reg [⟨(some 2), none, .mv (.c (.v (.pointer none)))⟩])
 (.seq (.seq (.reg [⟨(some 3), none, .mv (.t 0)⟩, ⟨(some 4), none, .call (.c (.fn 15 [])) [(.t 3)]⟩, ⟨(some 5), none, .bin .eql (.t 4) (.c (.v (.int .i64 0)))⟩])
   (.cond (.t 5) (.seq (.reg [⟨(some 2), none, .mv (.c (.v (.pointer none)))⟩])
     .ret)
    .skip))
  (.seq (.reg [⟨(some 6), none, .mv (.t 0)⟩, ⟨(some 7), none, .mks 1 1 [(.v (.int .u8 0))] (.t 6) (.t 6)⟩, ⟨(some 8), none, .build [(.v (.slice none 0 0)), (.v (.int .u16 0)), (.v (.int .u32 0)), (.v (.bool false)), (.v (.int .u8 0)), (.v (.int .i64 0))] [(0, 1, (.t 7))]⟩, ⟨(some 9), none, .box (.t 8)⟩, ⟨(some 2), none, .mv (.t 9)⟩])
   .ret)))
def a_parts_New : AFn := ⟨1, b_parts_New, [.t 2], false, false⟩
theorem a_parts_New_ok : compF Try.prog Try.f9 [] false false hv = some a_parts_New := by kernel_rfl

/-! (*fugleman/parts.Glue).fits: 18 -/
def b_parts_Glue_fits : AC :=
 (.seq (.reg [⟨(some 3), none, .box (.t 1)⟩, ⟨(some 4), none, .mv (.c (.v (.bool false)))⟩])
 (.seq (.regq [⟨(some 8), none, .mv (.t 0)⟩, ⟨(some 9), none, .nilck (.t 8)⟩, ⟨(some 10), none, .fad 0 (.t 9)⟩, ⟨(some 11), none, .load none (.t 10)⟩, ⟨(some 12), none, .len (.t 11)⟩, ⟨(some 13), none, .fad 16 (.t 3)⟩, ⟨(some 14), none, .load none (.t 13)⟩, ⟨(some 15), none, .cvi .i64 (.t 14)⟩, ⟨(some 16), none, .call (.c (.fn 21 [])) [(.t 12), (.t 15)]⟩, ⟨(some 7), none, .mv (.t 16)⟩, ⟨(some 17), none, .ext 0 (.t 7)⟩, ⟨(some 18), none, .ext 1 (.t 7)⟩, ⟨(some 5), none, .mv (.t 17)⟩, ⟨(some 6), none, .mv (.t 18)⟩])
  (.seq (.regq [⟨(some 19), none, .fad 17 (.t 3)⟩, ⟨(some 20), none, .load none (.t 19)⟩, ⟨(some 21), none, .cvi .i64 (.t 20)⟩, ⟨(some 22), none, .mv (.t 0)⟩, ⟨(some 23), none, .nilck (.t 22)⟩, ⟨(some 24), none, .fad 0 (.t 23)⟩, ⟨(some 25), none, .load none (.t 24)⟩, ⟨(some 26), none, .len (.t 25)⟩, ⟨(some 27), none, .call (.c (.fn 15 [])) [(.t 26)]⟩, ⟨(some 28), none, .bin .eql (.t 21) (.t 27)⟩, ⟨(some 29), none, .mv (.t 28)⟩, ⟨(some 30), (some (29, true)), .mv (.t 6)⟩, ⟨(some 31), (some (29, true)), .bin .gtr (.t 30) (.c (.v (.int .i64 0)))⟩, ⟨(some 32), none, .pick (.t 29) (.t 31) (.c (.v (.bool false)))⟩, ⟨(some 33), none, .mv (.t 32)⟩, ⟨(some 34), (some (33, true)), .fad 18 (.t 3)⟩, ⟨(some 35), (some (33, true)), .load none (.t 34)⟩, ⟨(some 36), (some (33, true)), .lens (.t 35)⟩, ⟨(some 37), (some (33, true)), .mv (.t 6)⟩, ⟨(some 38), (some (33, true)), .bin .eql (.t 36) (.t 37)⟩, ⟨(some 39), none, .pick (.t 33) (.t 38) (.c (.v (.bool false)))⟩, ⟨(some 4), none, .mv (.t 39)⟩])
   .ret)))
def a_parts_Glue_fits : AFn := ⟨2, b_parts_Glue_fits, [.t 4], false, false⟩
theorem a_parts_Glue_fits_ok : compF Try.prog Try.f18 [] false false hv = some a_parts_Glue_fits := by kernel_rfl

/-! cmp.Or[int]: 24 -/
def l_cmp_Or_int_1 : AC :=
 (.seq (.reg [⟨(some 17), none, .mv (.t 3)⟩, ⟨(some 2), none, .mv (.t 17)⟩])
 .ret)
def l_cmp_Or_int_0 : AC :=
 (.seq (.reg [⟨(some 9), none, .bin .lss (.t 8) (.t 7)⟩])
 (.seq (.cond (.t 9) .skip
   (.exit 0))
  (.seq (.block 1 (.seq (.reg [⟨(some 10), none, .ixs 1 (.t 6) (.t 8)⟩, ⟨(some 11), none, .load none (.t 10)⟩, ⟨(some 5), none, .mv (.t 11)⟩])
     (.seq (.reg [⟨(some 12), none, .mv (.t 5)⟩, ⟨(some 13), none, .mv (.t 3)⟩, ⟨(some 14), none, .bin .neq (.t 12) (.t 13)⟩])
      (.cond (.t 14) (.seq (.reg [⟨(some 15), none, .mv (.t 5)⟩, ⟨(some 2), none, .mv (.t 15)⟩])
        .ret)
       .skip))))
   (.reg [⟨(some 16), none, .bin .add (.t 8) (.c (.v (.int .i64 1)))⟩, ⟨(some 8), none, .mv (.t 16)⟩]))))
def b_cmp_Or_int : AC :=
 (.seq (.reg [⟨(some 2), none, .mv (.c (.v (.int .i64 0)))⟩])
 (.seq (.reg [⟨(some 3), none, .mv (.c (.v (.int .i64 0)))⟩])
  (.seq (.seq (.reg [⟨(some 6), none, .mv (.t 0)⟩, ⟨(some 7), none, .len (.t 6)⟩, ⟨(some 8), none, .mv (.c (.v (.int .i64 0)))⟩])
    (.block 0 (.loop [3, 6, 7, 8] l_cmp_Or_int_0)))
   l_cmp_Or_int_1)))
def a_cmp_Or_int : AFn := ⟨1, b_cmp_Or_int, [.t 2], false, false⟩
theorem a_cmp_Or_int_ok : compF Try.prog Try.f24 [[3, 6, 7, 8]] false false hv = some a_cmp_Or_int := by kernel_rfl

/-! cmp.isNaN[uint16]: 27 -/
def b_cmp_isNaN_uint16 : AC :=
 (.seq (.reg [⟨(some 2), none, .mv (.c (.v (.bool false)))⟩])
 (.seq (.reg [⟨(some 3), none, .mv (.t 0)⟩, ⟨(some 4), none, .mv (.t 0)⟩, ⟨(some 5), none, .bin .neq (.t 3) (.t 4)⟩, ⟨(some 2), none, .mv (.t 5)⟩])
  .ret))
def a_cmp_isNaN_uint16 : AFn := ⟨1, b_cmp_isNaN_uint16, [.t 2], false, false⟩
theorem a_cmp_isNaN_uint16_ok : compF Try.prog Try.f27 [] false false hv = some a_cmp_isNaN_uint16 := by kernel_rfl

/-! cmp.Compare[uint16]: 25 -/
def b_cmp_Compare_uint16 : AC :=
 (.seq (.reg [⟨(some 4), none, .mv (.c (.v (.int .i64 0)))⟩])
 (.seq (.reg [⟨(some 7), none, .mv (.t 0)⟩, ⟨(some 8), none, .call (.c (.fn 27 [])) [(.t 7)]⟩, ⟨(some 5), none, .mv (.t 8)⟩])
  (.seq (.reg [⟨(some 9), none, .mv (.t 1)⟩, ⟨(some 10), none, .call (.c (.fn 27 [])) [(.t 9)]⟩, ⟨(some 6), none, .mv (.t 10)⟩])
   (.seq (.seq (.reg [⟨(some 11), none, .mv (.t 5)⟩])
     (.cond (.t 11) (.seq (.seq (.reg [⟨(some 12), none, .mv (.t 6)⟩])
        (.cond (.t 12) (.seq (.reg [⟨(some 4), none, .mv (.c (.v (.int .i64 0)))⟩])
          .ret)
         .skip))
       (.seq (.reg [⟨(some 4), none, .mv (.c (.v (.int .i64 (-1))))⟩])
        .ret))
      .skip))
    (.seq (.seq (.reg [⟨(some 13), none, .mv (.t 6)⟩])
      (.cond (.t 13) (.seq (.reg [⟨(some 4), none, .mv (.c (.v (.int .i64 1)))⟩])
        .ret)
       .skip))
     (.seq (.seq (.reg [⟨(some 14), none, .mv (.t 0)⟩, ⟨(some 15), none, .mv (.t 1)⟩, ⟨(some 16), none, .bin .lss (.t 14) (.t 15)⟩])
       (.cond (.t 16) (.seq (.reg [⟨(some 4), none, .mv (.c (.v (.int .i64 (-1))))⟩])
         .ret)
        .skip))
      (.seq (.seq (.reg [⟨(some 17), none, .mv (.t 0)⟩, ⟨(some 18), none, .mv (.t 1)⟩, ⟨(some 19), none, .bin .gtr (.t 17) (.t 18)⟩])
        (.cond (.t 19) (.seq (.reg [⟨(some 4), none, .mv (.c (.v (.int .i64 1)))⟩])
          .ret)
         .skip))
       (.seq (.reg [⟨(some 4), none, .mv (.c (.v (.int .i64 0)))⟩])
        .ret))))))))
def a_cmp_Compare_uint16 : AFn := ⟨2, b_cmp_Compare_uint16, [.t 4], false, false⟩
theorem a_cmp_Compare_uint16_ok : compF Try.prog Try.f25 [] false false hv = some a_cmp_Compare_uint16 := by kernel_rfl

/-! cmp.isNaN[uint32]: 28 -/
def b_cmp_isNaN_uint32 : AC :=
 (.seq (.reg [⟨(some 2), none, .mv (.c (.v (.bool false)))⟩])
 (.seq (.reg [⟨(some 3), none, .mv (.t 0)⟩, ⟨(some 4), none, .mv (.t 0)⟩, ⟨(some 5), none, .bin .neq (.t 3) (.t 4)⟩, ⟨(some 2), none, .mv (.t 5)⟩])
  .ret))
def a_cmp_isNaN_uint32 : AFn := ⟨1, b_cmp_isNaN_uint32, [.t 2], false, false⟩
theorem a_cmp_isNaN_uint32_ok : compF Try.prog Try.f28 [] false false hv = some a_cmp_isNaN_uint32 := by kernel_rfl

/-! cmp.Compare[uint32]: 26 -/
def b_cmp_Compare_uint32 : AC :=
 (.seq (.reg [⟨(some 4), none, .mv (.c (.v (.int .i64 0)))⟩])
 (.seq (.reg [⟨(some 7), none, .mv (.t 0)⟩, ⟨(some 8), none, .call (.c (.fn 28 [])) [(.t 7)]⟩, ⟨(some 5), none, .mv (.t 8)⟩])
  (.seq (.reg [⟨(some 9), none, .mv (.t 1)⟩, ⟨(some 10), none, .call (.c (.fn 28 [])) [(.t 9)]⟩, ⟨(some 6), none, .mv (.t 10)⟩])
   (.seq (.seq (.reg [⟨(some 11), none, .mv (.t 5)⟩])
     (.cond (.t 11) (.seq (.seq (.reg [⟨(some 12), none, .mv (.t 6)⟩])
        (.cond (.t 12) (.seq (.reg [⟨(some 4), none, .mv (.c (.v (.int .i64 0)))⟩])
          .ret)
         .skip))
       (.seq (.reg [⟨(some 4), none, .mv (.c (.v (.int .i64 (-1))))⟩])
        .ret))
      .skip))
    (.seq (.seq (.reg [⟨(some 13), none, .mv (.t 6)⟩])
      (.cond (.t 13) (.seq (.reg [⟨(some 4), none, .mv (.c (.v (.int .i64 1)))⟩])
        .ret)
       .skip))
     (.seq (.seq (.reg [⟨(some 14), none, .mv (.t 0)⟩, ⟨(some 15), none, .mv (.t 1)⟩, ⟨(some 16), none, .bin .lss (.t 14) (.t 15)⟩])
       (.cond (.t 16) (.seq (.reg [⟨(some 4), none, .mv (.c (.v (.int .i64 (-1))))⟩])
         .ret)
        .skip))
      (.seq (.seq (.reg [⟨(some 17), none, .mv (.t 0)⟩, ⟨(some 18), none, .mv (.t 1)⟩, ⟨(some 19), none, .bin .gtr (.t 17) (.t 18)⟩])
        (.cond (.t 19) (.seq (.reg [⟨(some 4), none, .mv (.c (.v (.int .i64 1)))⟩])
          .ret)
         .skip))
       (.seq (.reg [⟨(some 4), none, .mv (.c (.v (.int .i64 0)))⟩])
        .ret))))))))
def a_cmp_Compare_uint32 : AFn := ⟨2, b_cmp_Compare_uint32, [.t 4], false, false⟩
theorem a_cmp_Compare_uint32_ok : compF Try.prog Try.f26 [] false false hv = some a_cmp_Compare_uint32 := by kernel_rfl

/-! fugleman/parts.Compare: 19 -/
def b_parts_Compare : AC :=
 (.seq (.reg [⟨(some 2), none, .box (.t 0)⟩, ⟨(some 3), none, .box (.t 1)⟩, ⟨(some 4), none, .mv (.c (.v (.int .i64 0)))⟩])
 (.seq (.regt 9 [⟨(some 5), none, .fad 0 (.t 2)⟩, ⟨(some 6), none, .load none (.t 5)⟩, ⟨(some 7), none, .fad 0 (.t 3)⟩, ⟨(some 8), none, .load none (.t 7)⟩, ⟨(some 9), none, .call (.c (.fn 25 [])) [(.t 6), (.t 8)]⟩, ⟨(some 10), none, .fad 1 (.t 2)⟩, ⟨(some 11), none, .load none (.t 10)⟩, ⟨(some 12), none, .fad 1 (.t 3)⟩, ⟨(some 13), none, .load none (.t 12)⟩, ⟨(some 14), none, .call (.c (.fn 26 [])) [(.t 11), (.t 13)]⟩, ⟨(some 15), none, .row 1 2 [(.v (.int .i64 0))] [(0, 1, (.t 9)), (1, 1, (.t 14))]⟩, ⟨(some 16), none, .call (.c (.fn 24 [])) [(.t 15)]⟩, ⟨(some 4), none, .mv (.t 16)⟩])
  .ret))
def a_parts_Compare : AFn := ⟨2, b_parts_Compare, [.t 4], false, false⟩
theorem a_parts_Compare_ok : compF Try.prog Try.f19 [] false false hv = some a_parts_Compare := by kernel_rfl

/-! (*fugleman/parts.Glue).begin: 20 -/
def b_parts_Glue_begin : AC :=
 (.seq (.reg [⟨(some 3), none, .box (.t 1)⟩])
 (.reg [⟨(some 4), none, .mv (.t 0)⟩, ⟨(some 5), none, .mv (.t 0)⟩, ⟨(some 6), none, .mv (.t 0)⟩, ⟨(some 7), none, .mv (.t 0)⟩, ⟨(some 8), none, .load (some 2) (.t 3)⟩, ⟨(some 9), none, .nilck (.t 4)⟩, ⟨(some 10), none, .fad 1 (.t 9)⟩, ⟨none, none, .store 2 (.t 10) (.t 8)⟩, ⟨(some 11), none, .nilck (.t 5)⟩, ⟨(some 12), none, .fad 3 (.t 11)⟩, ⟨none, none, .store 1 (.t 12) (.c (.v (.bool true)))⟩, ⟨(some 13), none, .nilck (.t 6)⟩, ⟨(some 14), none, .fad 4 (.t 13)⟩, ⟨none, none, .store 1 (.t 14) (.c (.v (.int .u8 0)))⟩, ⟨(some 15), none, .nilck (.t 7)⟩, ⟨(some 16), none, .fad 5 (.t 15)⟩, ⟨none, none, .store 1 (.t 16) (.c (.v (.int .i64 0)))⟩]))
def a_parts_Glue_begin : AFn := ⟨2, b_parts_Glue_begin, [], false, true⟩
theorem a_parts_Glue_begin_ok : compF Try.prog Try.f20 [] false true hv = some a_parts_Glue_begin := by kernel_rfl

/-! (*fugleman/parts.Glue).Put: 10 -/
def b_parts_Glue_Put : AC :=
 (.seq (.reg [⟨(some 3), none, .box (.t 1)⟩, ⟨(some 4), none, .mv (.c (.v (.string ⟨#[]⟩)))⟩, ⟨(some 5), none, .mv (.c (.v (.bool false)))⟩, ⟨(some 6), none, .mv (.c (.v (.int .i64 0)))⟩])
 (.seq (.block 0 (.seq (.reg [⟨(some 11), none, .mv (.t 0)⟩, ⟨(some 12), none, .eqp false (.t 11) (.c (.v (.pointer none)))⟩, ⟨(some 10), none, .mv (.t 12)⟩])
    (.cond (.t 10) (.seq (.reg [⟨(some 4), none, .mv (.c (.v (.string ⟨#[]⟩)))⟩, ⟨(some 5), none, .mv (.c (.v (.bool false)))⟩, ⟨(some 6), none, .mv (.c (.v (.int .i64 1)))⟩])
      .ret)
     (.seq (.reg [⟨(some 14), none, .fad 0 (.t 3)⟩, ⟨(some 15), none, .load none (.t 14)⟩, ⟨(some 16), none, .bin .neq (.t 15) (.c (.v (.int .i64 4)))⟩, ⟨(some 13), none, .mv (.t 16)⟩])
      (.cond (.t 13) (.seq (.reg [⟨(some 4), none, .mv (.c (.v (.string ⟨#[]⟩)))⟩, ⟨(some 5), none, .mv (.c (.v (.bool false)))⟩, ⟨(some 6), none, .mv (.c (.v (.int .i64 11)))⟩])
        .ret)
       (.seq (.reg [⟨(some 18), none, .mv (.t 0)⟩, ⟨(some 19), none, .load (some 19) (.t 3)⟩, ⟨(some 20), none, .call (.c (.fn 18 [])) [(.t 18), (.t 19)]⟩, ⟨(some 21), none, .un .not (.t 20)⟩, ⟨(some 17), none, .mv (.t 21)⟩])
        (.cond (.t 17) (.seq (.reg [⟨(some 4), none, .mv (.c (.v (.string ⟨#[]⟩)))⟩, ⟨(some 5), none, .mv (.c (.v (.bool false)))⟩, ⟨(some 6), none, .mv (.c (.v (.int .i64 3)))⟩])
          .ret)
         .skip)))))))
  (.seq (.regq [⟨(some 22), none, .fad 14 (.t 3)⟩, ⟨(some 23), none, .load (some 2) (.t 22)⟩, ⟨(some 24), none, .mv (.t 0)⟩, ⟨(some 25), none, .nilck (.t 24)⟩, ⟨(some 26), none, .fad 1 (.t 25)⟩, ⟨(some 27), none, .load (some 2) (.t 26)⟩, ⟨(some 28), none, .call (.c (.fn 19 [])) [(.t 23), (.t 27)]⟩, ⟨(some 7), none, .mv (.t 28)⟩])
   (.seq (.seq (.reg [⟨(some 29), none, .mv (.t 0)⟩, ⟨(some 30), none, .nilck (.t 29)⟩, ⟨(some 31), none, .fad 3 (.t 30)⟩, ⟨(some 32), none, .load none (.t 31)⟩, ⟨(some 33), none, .mv (.t 32)⟩, ⟨(some 34), (some (33, true)), .mv (.t 7)⟩, ⟨(some 35), (some (33, true)), .bin .lss (.t 34) (.c (.v (.int .i64 0)))⟩, ⟨(some 36), none, .pick (.t 33) (.t 35) (.c (.v (.bool false)))⟩])
     (.cond (.t 36) (.seq (.reg [⟨(some 4), none, .mv (.c (.v (.string ⟨#[]⟩)))⟩, ⟨(some 5), none, .mv (.c (.v (.bool false)))⟩, ⟨(some 6), none, .mv (.c (.v (.int .i64 1)))⟩])
       .ret)
      .skip))
    (.seq (.seq (.reg [⟨(some 37), none, .mv (.t 0)⟩, ⟨(some 38), none, .nilck (.t 37)⟩, ⟨(some 39), none, .fad 3 (.t 38)⟩, ⟨(some 40), none, .load none (.t 39)⟩, ⟨(some 41), none, .un .not (.t 40)⟩, ⟨(some 42), none, .mv (.t 41)⟩, ⟨(some 43), (some (42, false)), .mv (.t 7)⟩, ⟨(some 44), (some (42, false)), .bin .gtr (.t 43) (.c (.v (.int .i64 0)))⟩, ⟨(some 45), none, .pick (.t 42) (.c (.v (.bool true))) (.t 44)⟩])
      (.cond (.t 45) (.reg [⟨(some 46), none, .mv (.t 0)⟩, ⟨(some 47), none, .fad 14 (.t 3)⟩, ⟨(some 48), none, .load (some 2) (.t 47)⟩, ⟨(some 49), none, .call (.c (.fn 20 [])) [(.t 46), (.t 48)]⟩])
       .skip))
     (.seq (.seq (.regq [⟨(some 50), none, .mv (.t 0)⟩, ⟨(some 51), none, .nilck (.t 50)⟩, ⟨(some 52), none, .fad 4 (.t 51)⟩, ⟨(some 53), none, .load none (.t 52)⟩, ⟨(some 54), none, .fad 16 (.t 3)⟩, ⟨(some 55), none, .load none (.t 54)⟩, ⟨(some 56), none, .bin .shr (.t 53) (.t 55)⟩, ⟨(some 57), none, .bin .and (.t 56) (.c (.v (.int .u8 1)))⟩, ⟨(some 58), none, .bin .eql (.t 57) (.c (.v (.int .u8 1)))⟩])
       (.cond (.t 58) (.seq (.reg [⟨(some 4), none, .mv (.c (.v (.string ⟨#[]⟩)))⟩, ⟨(some 5), none, .mv (.c (.v (.bool false)))⟩, ⟨(some 6), none, .mv (.c (.v (.int .i64 14)))⟩])
         .ret)
        .skip))
      (.seq (.regq [⟨(some 60), none, .mv (.t 0)⟩, ⟨(some 61), none, .nilck (.t 60)⟩, ⟨(some 62), none, .fad 0 (.t 61)⟩, ⟨(some 63), none, .load none (.t 62)⟩, ⟨(some 64), none, .len (.t 63)⟩, ⟨(some 65), none, .fad 16 (.t 3)⟩, ⟨(some 66), none, .load none (.t 65)⟩, ⟨(some 67), none, .cvi .i64 (.t 66)⟩, ⟨(some 68), none, .call (.c (.fn 21 [])) [(.t 64), (.t 67)]⟩, ⟨(some 59), none, .mv (.t 68)⟩, ⟨(some 69), none, .ext 0 (.t 59)⟩, ⟨(some 70), none, .ext 1 (.t 59)⟩, ⟨(some 8), none, .mv (.t 69)⟩, ⟨(some 9), none, .mv (.t 70)⟩])
       (.seq (.regt 8 [⟨(some 71), none, .mv (.t 0)⟩, ⟨(some 72), none, .nilck (.t 71)⟩, ⟨(some 73), none, .fad 0 (.t 72)⟩, ⟨(some 74), none, .load none (.t 73)⟩, ⟨(some 75), none, .mv (.t 8)⟩, ⟨(some 76), none, .sls 1 (.t 74) (some (.t 75)) none none⟩, ⟨(some 77), none, .fad 18 (.t 3)⟩, ⟨(some 78), none, .load none (.t 77)⟩, ⟨(some 79), none, .cpy 1 (.t 76) (.t 78)⟩])
        (.seq (.regt 7 [⟨(some 80), none, .mv (.t 0)⟩, ⟨(some 81), none, .nilck (.t 80)⟩, ⟨(some 82), none, .fad 4 (.t 81)⟩, ⟨(some 83), none, .load none (.t 82)⟩, ⟨(some 84), none, .fad 16 (.t 3)⟩, ⟨(some 85), none, .load none (.t 84)⟩, ⟨(some 86), none, .bin .shl (.c (.v (.int .u8 1))) (.t 85)⟩, ⟨(some 87), none, .bin .or (.t 83) (.t 86)⟩, ⟨(some 88), none, .nilck (.t 80)⟩, ⟨(some 89), none, .fad 4 (.t 88)⟩, ⟨none, none, .store 1 (.t 89) (.t 87)⟩])
         (.seq (.seq (.reg [⟨(some 90), none, .mv (.t 0)⟩, ⟨(some 91), none, .nilck (.t 90)⟩, ⟨(some 92), none, .fad 5 (.t 91)⟩, ⟨(some 93), none, .load none (.t 92)⟩, ⟨(some 94), none, .bin .add (.t 93) (.c (.v (.int .i64 1)))⟩, ⟨(some 95), none, .nilck (.t 90)⟩, ⟨(some 96), none, .fad 5 (.t 95)⟩, ⟨none, none, .store 1 (.t 96) (.t 94)⟩])
           (.seq (.regq [⟨(some 97), none, .mv (.t 0)⟩, ⟨(some 98), none, .nilck (.t 97)⟩, ⟨(some 99), none, .fad 5 (.t 98)⟩, ⟨(some 100), none, .load none (.t 99)⟩, ⟨(some 101), none, .fad 17 (.t 3)⟩, ⟨(some 102), none, .load none (.t 101)⟩, ⟨(some 103), none, .cvi .i64 (.t 102)⟩, ⟨(some 104), none, .bin .lss (.t 100) (.t 103)⟩])
            (.cond (.t 104) (.seq (.reg [⟨(some 4), none, .mv (.c (.v (.string ⟨#[]⟩)))⟩, ⟨(some 5), none, .mv (.c (.v (.bool false)))⟩, ⟨(some 6), none, .mv (.c (.v (.int .i64 0)))⟩])
              .ret)
             .skip)))
          (.seq (.reg [⟨(some 105), none, .mv (.t 0)⟩, ⟨(some 106), none, .nilck (.t 105)⟩, ⟨(some 107), none, .fad 0 (.t 106)⟩, ⟨(some 108), none, .load none (.t 107)⟩, ⟨(some 109), none, .cvbs (.t 108)⟩, ⟨(some 4), none, .mv (.t 109)⟩, ⟨(some 5), none, .mv (.c (.v (.bool true)))⟩, ⟨(some 6), none, .mv (.c (.v (.int .i64 0)))⟩])
           .ret)))))))))))
def a_parts_Glue_Put : AFn := ⟨2, b_parts_Glue_Put, [.t 4, .t 5, .t 6], false, true⟩
theorem a_parts_Glue_Put_ok : compF Try.prog Try.f10 [] false true hv = some a_parts_Glue_Put := by kernel_rfl

/-! fugleman/fuglemanlaw17.awake: 6 -/
def b_fuglemanlaw17_awake : AC :=
 (.seq (.reg [⟨(some 0), none, .mv (.c (.v (.bool false)))⟩])
 (.seq (.reg [⟨(some 9), none, .build [(.v (.int .u16 0)), (.v (.int .u32 0))] [(1, 1, (.c (.v (.int .u32 2))))]⟩, ⟨(some 10), none, .build [(.v (.int .i64 0)), (.v (.int .u8 0)), (.v (.int .u8 0)), (.v (.int .u16 0)), (.v (.int .u16 0)), (.v (.int .u16 0)), (.v (.int .u8 0)), (.v (.int .u16 0)), (.v (.int .u16 0)), (.v (.int .u16 0)), (.v (.int .u8 0)), (.v (.int .u16 0)), (.v (.bool false)), (.v (.int .u8 0)), (.v (.int .u16 0)), (.v (.int .u32 0)), (.v (.int .u8 0)), (.v (.int .u8 0)), (.v (.string ⟨#[]⟩))] [(14, 2, (.t 9))]⟩, ⟨(some 11), none, .call (.c (.fn 7 [])) [(.t 10), (.c (.v (.string ⟨#[48, 49, 50, 51, 52, 53, 54, 55, 56, 57, 97, 98, 99, 100, 101, 102, 103, 104]⟩)))]⟩, ⟨(some 1), none, .mv (.t 11)⟩])
  (.seq (.seq (.reg [⟨(some 12), none, .mv (.t 1)⟩, ⟨(some 13), none, .len (.t 12)⟩, ⟨(some 14), none, .bin .neq (.t 13) (.c (.v (.int .i64 2)))⟩])
    (.cond (.t 14) (.seq (.reg [⟨(some 0), none, .mv (.c (.v (.bool false)))⟩])
      .ret)
     .skip))
   (.seq (.reg [⟨(some 15), none, .call (.c (.fn 9 [])) [(.c (.v (.int .i64 18)))]⟩, ⟨(some 2), none, .mv (.t 15)⟩])
    (.seq (.reg [⟨(some 17), none, .mv (.t 2)⟩, ⟨(some 18), none, .mv (.t 1)⟩, ⟨(some 19), none, .ixs 19 (.t 18) (.c (.v (.int .i64 1)))⟩, ⟨(some 20), none, .load (some 19) (.t 19)⟩, ⟨(some 21), none, .call (.c (.fn 10 [])) [(.t 17), (.t 20)]⟩, ⟨(some 16), none, .mv (.t 21)⟩, ⟨(some 22), none, .ext 0 (.t 16)⟩, ⟨(some 23), none, .ext 1 (.t 16)⟩, ⟨(some 24), none, .ext 2 (.t 16)⟩, ⟨(some 3), none, .mv (.t 22)⟩, ⟨(some 4), none, .mv (.t 23)⟩, ⟨(some 5), none, .mv (.t 24)⟩])
     (.seq (.reg [⟨(some 26), none, .mv (.t 2)⟩, ⟨(some 27), none, .mv (.t 1)⟩, ⟨(some 28), none, .ixs 19 (.t 27) (.c (.v (.int .i64 0)))⟩, ⟨(some 29), none, .load (some 19) (.t 28)⟩, ⟨(some 30), none, .call (.c (.fn 10 [])) [(.t 26), (.t 29)]⟩, ⟨(some 25), none, .mv (.t 30)⟩, ⟨(some 31), none, .ext 0 (.t 25)⟩, ⟨(some 32), none, .ext 1 (.t 25)⟩, ⟨(some 33), none, .ext 2 (.t 25)⟩, ⟨(some 6), none, .mv (.t 31)⟩, ⟨(some 7), none, .mv (.t 32)⟩, ⟨(some 8), none, .mv (.t 33)⟩])
      (.seq (.reg [⟨(some 34), none, .mv (.t 4)⟩, ⟨(some 35), none, .un .not (.t 34)⟩, ⟨(some 36), none, .mv (.t 35)⟩, ⟨(some 37), (some (36, true)), .mv (.t 5)⟩, ⟨(some 38), (some (36, true)), .bin .eql (.t 37) (.c (.v (.int .i64 0)))⟩, ⟨(some 39), none, .pick (.t 36) (.t 38) (.c (.v (.bool false)))⟩, ⟨(some 40), none, .mv (.t 39)⟩, ⟨(some 41), (some (40, true)), .mv (.t 7)⟩, ⟨(some 42), none, .pick (.t 40) (.t 41) (.c (.v (.bool false)))⟩, ⟨(some 43), none, .mv (.t 42)⟩, ⟨(some 44), (some (43, true)), .mv (.t 8)⟩, ⟨(some 45), (some (43, true)), .bin .eql (.t 44) (.c (.v (.int .i64 0)))⟩, ⟨(some 46), none, .pick (.t 43) (.t 45) (.c (.v (.bool false)))⟩, ⟨(some 47), none, .mv (.t 46)⟩, ⟨(some 48), (some (47, true)), .mv (.t 6)⟩, ⟨(some 49), (some (47, true)), .bin .eql (.t 48) (.c (.v (.string ⟨#[48, 49, 50, 51, 52, 53, 54, 55, 56, 57, 97, 98, 99, 100, 101, 102, 103, 104]⟩)))⟩, ⟨(some 50), none, .pick (.t 47) (.t 49) (.c (.v (.bool false)))⟩, ⟨(some 0), none, .mv (.t 50)⟩])
       .ret)))))))
def a_fuglemanlaw17_awake : AFn := ⟨0, b_fuglemanlaw17_awake, [.t 0], false, false⟩
theorem a_fuglemanlaw17_awake_ok : compF Try.prog Try.f6 [] false false hv = some a_fuglemanlaw17_awake := by kernel_rfl

/-! fugleman/fuglemanref16.All: 17 -/
def l_fuglemanref16_All_1 : AC :=
 (.seq (.seq (.reg [⟨(some 14), none, .mv (.t 0)⟩, ⟨(some 15), none, .bin .neq (.t 14) (.c (.v (.string ⟨#[]⟩)))⟩])
  (.cond (.t 15) (.reg [⟨(some 16), none, .mv (.t 3)⟩, ⟨(some 17), none, .mv (.t 0)⟩, ⟨(some 18), none, .row 1 1 [(.v (.string ⟨#[]⟩))] [(0, 1, (.t 17))]⟩, ⟨(some 19), none, .app 1 16 (.t 16) (.t 18)⟩, ⟨(some 3), none, .mv (.t 19)⟩])
   .skip))
 (.seq (.reg [⟨(some 20), none, .mv (.t 3)⟩, ⟨(some 2), none, .mv (.t 20)⟩])
  .ret))
def l_fuglemanref16_All_0 : AC :=
 (.seq (.seq (.reg [⟨(some 4), none, .mv (.t 0)⟩, ⟨(some 5), none, .lens (.t 4)⟩, ⟨(some 6), none, .bin .gtr (.t 5) (.c (.v (.int .i64 16)))⟩])
  (.cond (.t 6) .skip
   (.exit 0)))
 (.block 1 (.seq (.reg [⟨(some 7), none, .mv (.t 3)⟩, ⟨(some 8), none, .mv (.t 0)⟩, ⟨(some 9), none, .slstr (.t 8) none (some (.c (.v (.int .i64 16))))⟩, ⟨(some 10), none, .row 1 1 [(.v (.string ⟨#[]⟩))] [(0, 1, (.t 9))]⟩, ⟨(some 11), none, .app 1 16 (.t 7) (.t 10)⟩, ⟨(some 3), none, .mv (.t 11)⟩])
   (.reg [⟨(some 12), none, .mv (.t 0)⟩, ⟨(some 13), none, .slstr (.t 12) (some (.c (.v (.int .i64 16)))) none⟩, ⟨(some 0), none, .mv (.t 13)⟩]))))
def b_fuglemanref16_All : AC :=
 (.seq (.reg [⟨(some 2), none, .mv (.c (.v (.slice none 0 0)))⟩])
 (.seq (.reg [⟨(some 3), none, .mv (.c (.v (.slice none 0 0)))⟩])
  (.seq (.block 0 (.loop [0, 3] l_fuglemanref16_All_0))
   l_fuglemanref16_All_1)))
def a_fuglemanref16_All : AFn := ⟨1, b_fuglemanref16_All, [.t 2], true, false⟩
theorem a_fuglemanref16_All_ok : compF Try.prog Try.f17 [[0, 3]] true false hv = some a_fuglemanref16_All := by kernel_rfl

/-! fugleman/fuglemanref17.Split: 8 -/
def l_fuglemanref17_Split_1 : AC :=
 (.seq (.reg [⟨(some 36), none, .mv (.t 6)⟩, ⟨(some 4), none, .mv (.t 36)⟩])
 .ret)
def l_fuglemanref17_Split_0 : AC :=
 (.seq (.seq (.reg [⟨(some 13), none, .mv (.t 7)⟩, ⟨(some 14), none, .mv (.t 5)⟩, ⟨(some 15), none, .len (.t 14)⟩, ⟨(some 16), none, .bin .lss (.t 13) (.t 15)⟩])
  (.cond (.t 16) .skip
   (.exit 0)))
 (.seq (.block 1 (.seq (.reg [⟨(some 19), none, .fad 0 (.t 2)⟩, ⟨none, none, .store 1 (.t 19) (.c (.v (.int .i64 4)))⟩])
    (.seq (.reg [⟨(some 20), none, .mv (.t 7)⟩, ⟨(some 21), none, .cvi .u8 (.t 20)⟩, ⟨(some 22), none, .fad 16 (.t 2)⟩, ⟨none, none, .store 1 (.t 22) (.t 21)⟩])
     (.seq (.reg [⟨(some 23), none, .mv (.t 5)⟩, ⟨(some 24), none, .len (.t 23)⟩, ⟨(some 25), none, .cvi .u8 (.t 24)⟩, ⟨(some 26), none, .fad 17 (.t 2)⟩, ⟨none, none, .store 1 (.t 26) (.t 25)⟩])
      (.seq (.reg [⟨(some 27), none, .mv (.t 5)⟩, ⟨(some 28), none, .mv (.t 7)⟩, ⟨(some 29), none, .ixs 1 (.t 27) (.t 28)⟩, ⟨(some 30), none, .load none (.t 29)⟩, ⟨(some 31), none, .fad 18 (.t 2)⟩, ⟨none, none, .store 1 (.t 31) (.t 30)⟩])
       (.reg [⟨(some 32), none, .mv (.t 6)⟩, ⟨(some 33), none, .load (some 19) (.t 2)⟩, ⟨(some 34), none, .row 19 1 [(.v (.int .i64 0)), (.v (.int .u8 0)), (.v (.int .u8 0)), (.v (.int .u16 0)), (.v (.int .u16 0)), (.v (.int .u16 0)), (.v (.int .u8 0)), (.v (.int .u16 0)), (.v (.int .u16 0)), (.v (.int .u16 0)), (.v (.int .u8 0)), (.v (.int .u16 0)), (.v (.bool false)), (.v (.int .u8 0)), (.v (.int .u16 0)), (.v (.int .u32 0)), (.v (.int .u8 0)), (.v (.int .u8 0)), (.v (.string ⟨#[]⟩))] [(0, 19, (.t 33))]⟩, ⟨(some 35), none, .app 19 64 (.t 32) (.t 34)⟩, ⟨(some 6), none, .mv (.t 35)⟩]))))))
  (.reg [⟨(some 17), none, .mv (.t 7)⟩, ⟨(some 18), none, .bin .add (.t 17) (.c (.v (.int .i64 1)))⟩, ⟨(some 7), none, .mv (.t 18)⟩])))
def b_fuglemanref17_Split : AC :=
 (.seq (.reg [⟨(some 2), none, .box (.t 0)⟩, ⟨(some 4), none, .mv (.c (.v (.slice none 0 0)))⟩])
 (.seq (.seq (.reg [⟨(some 8), none, .mv (.t 1)⟩, ⟨(some 9), none, .lens (.t 8)⟩, ⟨(some 10), none, .bin .gtr (.t 9) (.c (.v (.int .i64 64)))⟩])
   (.cond (.t 10) (.seq (.reg [⟨(some 4), none, .mv (.c (.v (.slice none 0 0)))⟩])
     .ret)
    .skip))
  (.seq (.reg [⟨(some 11), none, .mv (.t 1)⟩, ⟨(some 12), none, .call (.c (.fn 17 [])) [(.t 11)]⟩, ⟨(some 5), none, .mv (.t 12)⟩])
   (.seq (.reg [⟨(some 6), none, .mv (.c (.v (.slice none 0 0)))⟩])
    (.seq (.seq (.reg [⟨(some 7), none, .mv (.c (.v (.int .i64 0)))⟩])
      (.block 0 (.loop [2, 5, 6, 7] l_fuglemanref17_Split_0)))
     l_fuglemanref17_Split_1)))))
def a_fuglemanref17_Split : AFn := ⟨2, b_fuglemanref17_Split, [.t 4], true, false⟩
theorem a_fuglemanref17_Split_ok : compF Try.prog Try.f8 [[2, 5, 6, 7]] true false hv = some a_fuglemanref17_Split := by kernel_rfl

/-! fugleman/fuglemanlaw17.PartsSplits: 3 -/
def l_fuglemanlaw17_PartsSplits_3 : AC :=
 (.seq (.reg [⟨(some 6), none, .mv (.c (.v (.bool true)))⟩])
 .ret)
def l_fuglemanlaw17_PartsSplits_2 : AC :=
 (.seq (.seq (.reg [⟨(some 60), none, .mv (.t 11)⟩, ⟨(some 61), none, .len (.t 60)⟩, ⟨(some 62), none, .bin .gtr (.t 61) (.c (.v (.int .i64 0)))⟩])
  (.cond (.t 62) .skip
   (.exit 2)))
 (.seq (.block 3 (.seq (.reg [⟨(some 13), none, .mv (.c (.v (.int .i64 0)))⟩])
    (.seq (.seq (.reg [⟨(some 65), none, .mv (.t 12)⟩, ⟨(some 66), none, .mv (.t 2)⟩, ⟨(some 67), none, .len (.t 66)⟩, ⟨(some 68), none, .bin .lss (.t 65) (.t 67)⟩])
      (.cond (.t 68) (.reg [⟨(some 69), none, .mv (.t 2)⟩, ⟨(some 70), none, .mv (.t 12)⟩, ⟨(some 71), none, .ixs 1 (.t 69) (.t 70)⟩, ⟨(some 72), none, .load none (.t 71)⟩, ⟨(some 73), none, .cvi .i64 (.t 72)⟩, ⟨(some 74), none, .mv (.t 11)⟩, ⟨(some 75), none, .len (.t 74)⟩, ⟨(some 76), none, .bin .rem (.t 73) (.t 75)⟩, ⟨(some 13), none, .mv (.t 76)⟩])
       .skip))
     (.seq (.reg [⟨(some 78), none, .mv (.t 10)⟩, ⟨(some 79), none, .mv (.t 11)⟩, ⟨(some 80), none, .mv (.t 13)⟩, ⟨(some 81), none, .ixs 19 (.t 79) (.t 80)⟩, ⟨(some 82), none, .load (some 19) (.t 81)⟩, ⟨(some 83), none, .call (.c (.fn 10 [])) [(.t 78), (.t 82)]⟩, ⟨(some 77), none, .mv (.t 83)⟩, ⟨(some 84), none, .ext 0 (.t 77)⟩, ⟨(some 85), none, .ext 1 (.t 77)⟩, ⟨(some 86), none, .ext 2 (.t 77)⟩, ⟨(some 14), none, .mv (.t 84)⟩, ⟨(some 15), none, .mv (.t 85)⟩, ⟨(some 16), none, .mv (.t 86)⟩])
      (.seq (.regt 8 [⟨(some 87), none, .mv (.t 11)⟩, ⟨(some 88), none, .mv (.t 13)⟩, ⟨(some 89), none, .mv (.t 13)⟩, ⟨(some 90), none, .sls 19 (.t 87) none (some (.t 88)) (some (.t 89))⟩, ⟨(some 91), none, .mv (.t 11)⟩, ⟨(some 92), none, .mv (.t 13)⟩, ⟨(some 93), none, .bin .add (.t 92) (.c (.v (.int .i64 1)))⟩, ⟨(some 94), none, .sls 19 (.t 91) (some (.t 93)) none none⟩, ⟨(some 95), none, .app 19 64 (.t 90) (.t 94)⟩, ⟨(some 11), none, .mv (.t 95)⟩])
       (.seq (.reg [⟨(some 96), none, .mv (.t 16)⟩, ⟨(some 97), none, .bin .neq (.t 96) (.c (.v (.int .i64 0)))⟩, ⟨(some 98), none, .mv (.t 97)⟩, ⟨(some 99), (some (98, false)), .mv (.t 15)⟩, ⟨(some 100), (some (98, false)), .mv (.t 11)⟩, ⟨(some 101), (some (98, false)), .len (.t 100)⟩, ⟨(some 102), (some (98, false)), .bin .eql (.t 101) (.c (.v (.int .i64 0)))⟩, ⟨(some 103), (some (98, false)), .eqb true (.t 99) (.t 102)⟩, ⟨(some 104), none, .pick (.t 98) (.c (.v (.bool true))) (.t 103)⟩, ⟨(some 105), none, .mv (.t 104)⟩, ⟨(some 106), (some (105, false)), .mv (.t 15)⟩, ⟨(some 107), (some (105, false)), .mv (.t 106)⟩, ⟨(some 108), (some (107, true)), .mv (.t 14)⟩, ⟨(some 109), (some (107, true)), .mv (.t 1)⟩, ⟨(some 110), (some (107, true)), .bin .neq (.t 108) (.t 109)⟩, ⟨(some 111), (some (105, false)), .pick (.t 107) (.t 110) (.c (.v (.bool false)))⟩, ⟨(some 112), none, .pick (.t 105) (.c (.v (.bool true))) (.t 111)⟩, ⟨(some 113), none, .mv (.t 112)⟩, ⟨(some 114), (some (113, false)), .mv (.t 15)⟩, ⟨(some 115), (some (113, false)), .un .not (.t 114)⟩, ⟨(some 116), (some (113, false)), .mv (.t 115)⟩, ⟨(some 117), (some (116, true)), .mv (.t 14)⟩, ⟨(some 118), (some (116, true)), .bin .neq (.t 117) (.c (.v (.string ⟨#[]⟩)))⟩, ⟨(some 119), (some (113, false)), .pick (.t 116) (.t 118) (.c (.v (.bool false)))⟩, ⟨(some 120), none, .pick (.t 113) (.c (.v (.bool true))) (.t 119)⟩])
        (.cond (.t 120) (.seq (.reg [⟨(some 6), none, .mv (.c (.v (.bool false)))⟩])
          .ret)
         .skip)))))))
  (.reg [⟨(some 63), none, .mv (.t 12)⟩, ⟨(some 64), none, .bin .add (.t 63) (.c (.v (.int .i64 1)))⟩, ⟨(some 12), none, .mv (.t 64)⟩])))
def l_fuglemanlaw17_PartsSplits_1 : AC :=
 (.seq (.reg [⟨(some 54), none, .mv (.t 1)⟩, ⟨(some 55), none, .lens (.t 54)⟩, ⟨(some 56), none, .call (.c (.fn 9 [])) [(.t 55)]⟩, ⟨(some 10), none, .mv (.t 56)⟩])
 (.seq (.reg [⟨(some 57), none, .row 19 0 [(.v (.int .i64 0)), (.v (.int .u8 0)), (.v (.int .u8 0)), (.v (.int .u16 0)), (.v (.int .u16 0)), (.v (.int .u16 0)), (.v (.int .u8 0)), (.v (.int .u16 0)), (.v (.int .u16 0)), (.v (.int .u16 0)), (.v (.int .u8 0)), (.v (.int .u16 0)), (.v (.bool false)), (.v (.int .u8 0)), (.v (.int .u16 0)), (.v (.int .u32 0)), (.v (.int .u8 0)), (.v (.int .u8 0)), (.v (.string ⟨#[]⟩))] []⟩, ⟨(some 58), none, .mv (.t 7)⟩, ⟨(some 59), none, .app 19 64 (.t 57) (.t 58)⟩, ⟨(some 11), none, .mv (.t 59)⟩])
  (.seq (.seq (.reg [⟨(some 12), none, .mv (.c (.v (.int .i64 0)))⟩])
    (.block 2 (.loop [1, 2, 10, 11, 12] l_fuglemanlaw17_PartsSplits_2)))
   l_fuglemanlaw17_PartsSplits_3)))
def l_fuglemanlaw17_PartsSplits_0 : AC :=
 (.seq (.reg [⟨(some 42), none, .bin .lss (.t 41) (.t 40)⟩])
 (.seq (.cond (.t 42) .skip
   (.exit 0))
  (.seq (.block 1 (.seq (.reg [⟨(some 43), none, .mv (.t 41)⟩, ⟨(some 9), none, .mv (.t 43)⟩])
     (.seq (.regq [⟨(some 44), none, .mv (.t 7)⟩, ⟨(some 45), none, .mv (.t 9)⟩, ⟨(some 46), none, .ixs 19 (.t 44) (.t 45)⟩, ⟨(some 47), none, .load (some 19) (.t 46)⟩, ⟨(some 48), none, .mv (.t 8)⟩, ⟨(some 49), none, .mv (.t 9)⟩, ⟨(some 50), none, .ixs 19 (.t 48) (.t 49)⟩, ⟨(some 51), none, .load (some 19) (.t 50)⟩, ⟨(some 52), none, .eqst true [(0, .i), (1, .i), (2, .i), (3, .i), (4, .i), (5, .i), (6, .i), (7, .i), (8, .i), (9, .i), (10, .i), (11, .i), (12, .b), (13, .i), (14, .i), (15, .i), (16, .i), (17, .i), (18, .s)] (.t 47) (.t 51)⟩])
      (.cond (.t 52) (.seq (.reg [⟨(some 6), none, .mv (.c (.v (.bool false)))⟩])
        .ret)
       .skip))))
   (.reg [⟨(some 53), none, .bin .add (.t 41) (.c (.v (.int .i64 1)))⟩, ⟨(some 41), none, .mv (.t 53)⟩]))))
def b_fuglemanlaw17_PartsSplits : AC :=
 (.seq (.reg [⟨(some 3), none, .box (.t 0)⟩, ⟨(some 6), none, .mv (.c (.v (.bool false)))⟩])
 (.seq (.seq (.reg [⟨(some 17), none, .call (.c (.fn 6 [])) []⟩, ⟨(some 18), none, .un .not (.t 17)⟩])
   (.cond (.t 18) (.seq (.reg [⟨(some 6), none, .mv (.c (.v (.bool false)))⟩])
     .ret)
    .skip))
  (.seq (.seq (.reg [⟨(some 19), none, .mv (.t 1)⟩, ⟨(some 20), none, .lens (.t 19)⟩, ⟨(some 21), none, .bin .gtr (.t 20) (.c (.v (.int .i64 80)))⟩, ⟨(some 22), none, .mv (.t 21)⟩, ⟨(some 23), (some (22, false)), .fad 18 (.t 3)⟩, ⟨(some 24), (some (22, false)), .load none (.t 23)⟩, ⟨(some 25), (some (22, false)), .lens (.t 24)⟩, ⟨(some 26), (some (22, false)), .bin .gtr (.t 25) (.c (.v (.int .i64 40)))⟩, ⟨(some 27), none, .pick (.t 22) (.c (.v (.bool true))) (.t 26)⟩])
    (.cond (.t 27) (.seq (.reg [⟨(some 6), none, .mv (.c (.v (.bool true)))⟩])
      .ret)
     .skip))
   (.seq (.reg [⟨(some 28), none, .load (some 19) (.t 3)⟩, ⟨(some 29), none, .mv (.t 1)⟩, ⟨(some 30), none, .call (.c (.fn 7 [])) [(.t 28), (.t 29)]⟩, ⟨(some 7), none, .mv (.t 30)⟩])
    (.seq (.reg [⟨(some 31), none, .load (some 19) (.t 3)⟩, ⟨(some 32), none, .mv (.t 1)⟩, ⟨(some 33), none, .call (.c (.fn 8 [])) [(.t 31), (.t 32)]⟩, ⟨(some 8), none, .mv (.t 33)⟩])
     (.seq (.seq (.reg [⟨(some 34), none, .mv (.t 7)⟩, ⟨(some 35), none, .len (.t 34)⟩, ⟨(some 36), none, .mv (.t 8)⟩, ⟨(some 37), none, .len (.t 36)⟩, ⟨(some 38), none, .bin .neq (.t 35) (.t 37)⟩])
       (.cond (.t 38) (.seq (.reg [⟨(some 6), none, .mv (.c (.v (.bool false)))⟩])
         .ret)
        .skip))
      (.seq (.seq (.reg [⟨(some 39), none, .mv (.t 7)⟩, ⟨(some 40), none, .len (.t 39)⟩, ⟨(some 41), none, .mv (.c (.v (.int .i64 0)))⟩])
        (.block 0 (.loop [1, 2, 7, 8, 40, 41] l_fuglemanlaw17_PartsSplits_0)))
       l_fuglemanlaw17_PartsSplits_1)))))))
def a_fuglemanlaw17_PartsSplits : AFn := ⟨3, b_fuglemanlaw17_PartsSplits, [.t 6], false, false⟩
theorem a_fuglemanlaw17_PartsSplits_ok : compF Try.prog Try.f3 [[1, 2, 7, 8, 40, 41], [1, 2, 10, 11, 12]] false false hv = some a_fuglemanlaw17_PartsSplits := by kernel_rfl

/-! (*fugleman/parts.Glue).At: 11 -/
def b_parts_Glue_At : AC :=
 (.seq (.reg [⟨(some 2), none, .alloc [(.v (.int .u16 0)), (.v (.int .u32 0))]⟩, ⟨(some 3), none, .mv (.c (.v (.int .i64 0)))⟩, ⟨(some 4), none, .mv (.c (.v (.bool false)))⟩])
 (.seq (.seq (.reg [⟨(some 5), none, .mv (.t 0)⟩, ⟨(some 6), none, .eqp false (.t 5) (.c (.v (.pointer none)))⟩, ⟨(some 7), none, .mv (.t 6)⟩, ⟨(some 8), (some (7, false)), .mv (.t 0)⟩, ⟨(some 9), (some (7, false)), .nilck (.t 8)⟩, ⟨(some 10), (some (7, false)), .fad 3 (.t 9)⟩, ⟨(some 11), (some (7, false)), .load none (.t 10)⟩, ⟨(some 12), (some (7, false)), .un .not (.t 11)⟩, ⟨(some 13), none, .pick (.t 7) (.c (.v (.bool true))) (.t 12)⟩])
   (.cond (.t 13) (.seq (.reg [⟨(some 14), none, .build [(.v (.int .u16 0)), (.v (.int .u32 0))] []⟩, ⟨none, none, .store 2 (.t 2) (.t 14)⟩, ⟨(some 3), none, .mv (.c (.v (.int .i64 0)))⟩, ⟨(some 4), none, .mv (.c (.v (.bool false)))⟩])
     .ret)
    .skip))
  (.seq (.regs 8 [⟨(some 15), none, .mv (.t 0)⟩, ⟨(some 16), none, .nilck (.t 15)⟩, ⟨(some 17), none, .fad 1 (.t 16)⟩, ⟨(some 18), none, .load (some 2) (.t 17)⟩, ⟨(some 19), none, .mv (.t 0)⟩, ⟨(some 20), none, .nilck (.t 19)⟩, ⟨(some 21), none, .fad 5 (.t 20)⟩, ⟨(some 22), none, .load none (.t 21)⟩, ⟨none, none, .store 2 (.t 2) (.t 18)⟩, ⟨(some 3), none, .mv (.t 22)⟩, ⟨(some 4), none, .mv (.c (.v (.bool true)))⟩])
   .ret)))
def a_parts_Glue_At : AFn := ⟨1, b_parts_Glue_At, [.cell 2 (some 2), .t 3, .t 4], false, false⟩
theorem a_parts_Glue_At_ok : compF Try.prog Try.f11 [] false false hv = some a_parts_Glue_At := by kernel_rfl

/-! fugleman/fuglemanlaw17.PartsWhole: 4 -/
def l_fuglemanlaw17_PartsWhole_3 : AC :=
 (.seq (.reg [⟨(some 6), none, .mv (.c (.v (.bool true)))⟩])
 .ret)
def l_fuglemanlaw17_PartsWhole_2 : AC :=
 (.seq (.reg [⟨(some 74), none, .bin .lss (.t 73) (.t 72)⟩])
 (.seq (.cond (.t 74) .skip
   (.exit 2))
  (.seq (.block 3 (.seq (.reg [⟨(some 75), none, .ixs 2 (.t 71) (.t 73)⟩, ⟨(some 76), none, .load (some 2) (.t 75)⟩, ⟨(some 14), none, .alloc [(.v (.int .u8 0)), (.v (.int .u8 0))]⟩, ⟨none, none, .store 2 (.t 14) (.t 76)⟩])
     (.seq (.reg [⟨(some 77), none, .fad 0 (.t 14)⟩, ⟨(some 78), none, .load none (.t 77)⟩, ⟨(some 79), none, .cvi .i64 (.t 78)⟩, ⟨(some 80), none, .mv (.t 8)⟩, ⟨(some 81), none, .len (.t 80)⟩, ⟨(some 82), none, .bin .rem (.t 79) (.t 81)⟩, ⟨(some 15), none, .mv (.t 82)⟩])
      (.seq (.seq (.reg [⟨(some 83), none, .mv (.t 8)⟩, ⟨(some 84), none, .mv (.t 15)⟩, ⟨(some 85), none, .ixs 1 (.t 83) (.t 84)⟩, ⟨(some 86), none, .load none (.t 85)⟩, ⟨(some 87), none, .len (.t 86)⟩, ⟨(some 88), none, .bin .eql (.t 87) (.c (.v (.int .i64 0)))⟩])
        (.cond (.t 88) (.seq (.reg [⟨(some 6), none, .mv (.c (.v (.bool false)))⟩])
          .ret)
         .skip))
       (.seq (.regm [(false, ⟨(some 90), none, .mv (.t 11)⟩), (false, ⟨(some 91), none, .mv (.t 8)⟩), (false, ⟨(some 92), none, .mv (.t 15)⟩), (false, ⟨(some 93), none, .ixs 1 (.t 91) (.t 92)⟩), (false, ⟨(some 94), none, .load none (.t 93)⟩), (false, ⟨(some 95), none, .fad 1 (.t 14)⟩), (false, ⟨(some 96), none, .load none (.t 95)⟩), (false, ⟨(some 97), none, .cvi .i64 (.t 96)⟩), (false, ⟨(some 98), none, .mv (.t 8)⟩), (false, ⟨(some 99), none, .mv (.t 15)⟩), (false, ⟨(some 100), none, .ixs 1 (.t 98) (.t 99)⟩), (false, ⟨(some 101), none, .load none (.t 100)⟩), (false, ⟨(some 102), none, .len (.t 101)⟩), (false, ⟨(some 103), none, .bin .rem (.t 97) (.t 102)⟩), (false, ⟨(some 104), none, .ixs 19 (.t 94) (.t 103)⟩), (false, ⟨(some 105), none, .load (some 19) (.t 104)⟩), (false, ⟨(some 106), none, .call (.c (.fn 10 [])) [(.t 90), (.t 105)]⟩), (false, ⟨(some 89), none, .mv (.t 106)⟩), (false, ⟨(some 107), none, .ext 0 (.t 89)⟩), (false, ⟨(some 108), none, .ext 1 (.t 89)⟩), (false, ⟨(some 109), none, .ext 2 (.t 89)⟩), (false, ⟨(some 16), none, .mv (.t 107)⟩), (false, ⟨(some 17), none, .mv (.t 108)⟩), (false, ⟨(some 18), none, .mv (.t 109)⟩)])
        (.seq (.seq (.reg [⟨(some 110), none, .mv (.t 17)⟩, ⟨(some 111), none, .un .not (.t 110)⟩])
          (.cond (.t 111) (.seq (.seq (.reg [⟨(some 112), none, .mv (.t 16)⟩, ⟨(some 113), none, .bin .neq (.t 112) (.c (.v (.string ⟨#[]⟩)))⟩, ⟨(some 114), none, .mv (.t 113)⟩, ⟨(some 115), (some (114, false)), .mv (.t 18)⟩, ⟨(some 116), (some (114, false)), .bin .neq (.t 115) (.c (.v (.int .i64 0)))⟩, ⟨(some 117), (some (114, false)), .mv (.t 116)⟩, ⟨(some 118), (some (117, true)), .mv (.t 18)⟩, ⟨(some 119), (some (117, true)), .bin .neq (.t 118) (.c (.v (.int .i64 1)))⟩, ⟨(some 120), (some (114, false)), .pick (.t 117) (.t 119) (.c (.v (.bool false)))⟩, ⟨(some 121), (some (114, false)), .mv (.t 120)⟩, ⟨(some 122), (some (121, true)), .mv (.t 18)⟩, ⟨(some 123), (some (121, true)), .bin .neq (.t 122) (.c (.v (.int .i64 14)))⟩, ⟨(some 124), (some (114, false)), .pick (.t 121) (.t 123) (.c (.v (.bool false)))⟩, ⟨(some 125), none, .pick (.t 114) (.c (.v (.bool true))) (.t 124)⟩])
             (.cond (.t 125) (.seq (.reg [⟨(some 6), none, .mv (.c (.v (.bool false)))⟩])
               .ret)
              .skip))
            (.exit 3))
           .skip))
         (.seq (.reg [⟨(some 126), none, .mv (.t 7)⟩, ⟨(some 127), none, .mks 1 1 [(.v (.int .u8 0))] (.t 126) (.t 126)⟩, ⟨(some 19), none, .mv (.t 127)⟩])
          (.seq (.reg [⟨(some 128), none, .mv (.t 19)⟩, ⟨(some 129), none, .mv (.t 1)⟩, ⟨(some 130), none, .mv (.t 15)⟩, ⟨(some 131), none, .ixs 1 (.t 129) (.t 130)⟩, ⟨(some 132), none, .load none (.t 131)⟩, ⟨(some 133), none, .cpy 1 (.t 128) (.t 132)⟩])
           (.seq (.reg [⟨(some 135), none, .mv (.t 11)⟩, ⟨(some 136), none, .call (.c (.fn 11 [])) [(.t 135)]⟩, ⟨(some 134), none, .mv (.t 136)⟩, ⟨(some 137), none, .ext 0 (.t 134)⟩, ⟨(some 138), none, .ext 1 (.t 134)⟩, ⟨(some 139), none, .ext 2 (.t 134)⟩, ⟨(some 20), none, .alloc [(.v (.int .u16 0)), (.v (.int .u32 0))]⟩, ⟨none, none, .store 2 (.t 20) (.t 137)⟩, ⟨(some 21), none, .mv (.t 138)⟩, ⟨(some 22), none, .mv (.t 139)⟩])
            (.seq (.seq (.regq [⟨(some 140), none, .mv (.t 18)⟩, ⟨(some 141), none, .bin .neq (.t 140) (.c (.v (.int .i64 0)))⟩, ⟨(some 142), none, .mv (.t 141)⟩, ⟨(some 143), (some (142, false)), .mv (.t 15)⟩, ⟨(some 144), (some (142, false)), .mv (.t 12)⟩, ⟨(some 145), (some (142, false)), .bin .leq (.t 143) (.t 144)⟩, ⟨(some 146), none, .pick (.t 142) (.c (.v (.bool true))) (.t 145)⟩, ⟨(some 147), none, .mv (.t 146)⟩, ⟨(some 148), (some (147, false)), .mv (.t 16)⟩, ⟨(some 149), (some (147, false)), .mv (.t 19)⟩, ⟨(some 150), (some (147, false)), .cvbs (.t 149)⟩, ⟨(some 151), (some (147, false)), .bin .neq (.t 148) (.t 150)⟩, ⟨(some 152), none, .pick (.t 147) (.c (.v (.bool true))) (.t 151)⟩, ⟨(some 153), none, .mv (.t 152)⟩, ⟨(some 154), (some (153, false)), .mv (.t 22)⟩, ⟨(some 155), (some (153, false)), .un .not (.t 154)⟩, ⟨(some 156), none, .pick (.t 153) (.c (.v (.bool true))) (.t 155)⟩, ⟨(some 157), none, .mv (.t 156)⟩, ⟨(some 158), (some (157, false)), .load (some 2) (.t 20)⟩, ⟨(some 159), (some (157, false)), .mv (.t 8)⟩, ⟨(some 160), (some (157, false)), .mv (.t 15)⟩, ⟨(some 161), (some (157, false)), .ixs 1 (.t 159) (.t 160)⟩, ⟨(some 162), (some (157, false)), .load none (.t 161)⟩, ⟨(some 163), (some (157, false)), .ixs 19 (.t 162) (.c (.v (.int .i64 0)))⟩, ⟨(some 164), (some (157, false)), .fad 14 (.t 163)⟩, ⟨(some 165), (some (157, false)), .load (some 2) (.t 164)⟩, ⟨(some 166), (some (157, false)), .eqst true [(0, .i), (1, .i)] (.t 158) (.t 165)⟩, ⟨(some 167), none, .pick (.t 157) (.c (.v (.bool true))) (.t 166)⟩])
              (.cond (.t 167) (.seq (.reg [⟨(some 6), none, .mv (.c (.v (.bool false)))⟩])
                .ret)
               .skip))
             (.reg [⟨(some 168), none, .mv (.t 15)⟩, ⟨(some 12), none, .mv (.t 168)⟩])))))))))))
   (.reg [⟨(some 169), none, .bin .add (.t 73) (.c (.v (.int .i64 1)))⟩, ⟨(some 73), none, .mv (.t 169)⟩]))))
def l_fuglemanlaw17_PartsWhole_1 : AC :=
 (.seq (.reg [⟨(some 69), none, .mv (.t 7)⟩, ⟨(some 70), none, .call (.c (.fn 9 [])) [(.t 69)]⟩, ⟨(some 11), none, .mv (.t 70)⟩])
 (.seq (.reg [⟨(some 12), none, .mv (.c (.v (.int .i64 (-1))))⟩])
  (.seq (.seq (.reg [⟨(some 71), none, .mv (.t 2)⟩, ⟨(some 72), none, .len (.t 71)⟩, ⟨(some 73), none, .mv (.c (.v (.int .i64 0)))⟩])
    (.block 2 (.loop [1, 7, 8, 11, 12, 71, 72, 73] l_fuglemanlaw17_PartsWhole_2)))
   l_fuglemanlaw17_PartsWhole_3)))
def l_fuglemanlaw17_PartsWhole_0 : AC :=
 (.seq (.reg [⟨(some 45), none, .bin .lss (.t 44) (.t 43)⟩])
 (.seq (.cond (.t 45) .skip
   (.exit 0))
  (.seq (.block 1 (.seq (.reg [⟨(some 46), none, .mv (.t 44)⟩, ⟨(some 9), none, .mv (.t 46)⟩])
     (.seq (.reg [⟨(some 47), none, .mv (.t 7)⟩, ⟨(some 48), none, .mks 1 1 [(.v (.int .u8 0))] (.t 47) (.t 47)⟩, ⟨(some 10), none, .mv (.t 48)⟩])
      (.seq (.reg [⟨(some 49), none, .mv (.t 10)⟩, ⟨(some 50), none, .mv (.t 1)⟩, ⟨(some 51), none, .mv (.t 9)⟩, ⟨(some 52), none, .ixs 1 (.t 50) (.t 51)⟩, ⟨(some 53), none, .load none (.t 52)⟩, ⟨(some 54), none, .cpy 1 (.t 49) (.t 53)⟩])
       (.reg [⟨(some 55), none, .mv (.t 8)⟩, ⟨(some 56), none, .mv (.t 9)⟩, ⟨(some 57), none, .bin .quo (.t 56) (.c (.v (.int .i64 3)))⟩, ⟨(some 58), none, .cvi .u16 (.t 57)⟩, ⟨(some 59), none, .mv (.t 9)⟩, ⟨(some 60), none, .cvi .u32 (.t 59)⟩, ⟨(some 61), none, .build [(.v (.int .u16 0)), (.v (.int .u32 0))] [(0, 1, (.t 58)), (1, 1, (.t 60))]⟩, ⟨(some 62), none, .build [(.v (.int .i64 0)), (.v (.int .u8 0)), (.v (.int .u8 0)), (.v (.int .u16 0)), (.v (.int .u16 0)), (.v (.int .u16 0)), (.v (.int .u8 0)), (.v (.int .u16 0)), (.v (.int .u16 0)), (.v (.int .u16 0)), (.v (.int .u8 0)), (.v (.int .u16 0)), (.v (.bool false)), (.v (.int .u8 0)), (.v (.int .u16 0)), (.v (.int .u32 0)), (.v (.int .u8 0)), (.v (.int .u8 0)), (.v (.string ⟨#[]⟩))] [(14, 2, (.t 61))]⟩, ⟨(some 63), none, .mv (.t 10)⟩, ⟨(some 64), none, .cvbs (.t 63)⟩, ⟨(some 65), none, .call (.c (.fn 7 [])) [(.t 62), (.t 64)]⟩, ⟨(some 66), none, .row 1 1 [(.v (.slice none 0 0))] [(0, 1, (.t 65))]⟩, ⟨(some 67), none, .app 1 24 (.t 55) (.t 66)⟩, ⟨(some 8), none, .mv (.t 67)⟩])))))
   (.reg [⟨(some 68), none, .bin .add (.t 44) (.c (.v (.int .i64 1)))⟩, ⟨(some 44), none, .mv (.t 68)⟩]))))
def b_fuglemanlaw17_PartsWhole : AC :=
 (.seq (.reg [⟨(some 6), none, .mv (.c (.v (.bool false)))⟩])
 (.seq (.seq (.reg [⟨(some 23), none, .call (.c (.fn 6 [])) []⟩, ⟨(some 24), none, .un .not (.t 23)⟩])
   (.cond (.t 24) (.seq (.reg [⟨(some 6), none, .mv (.c (.v (.bool false)))⟩])
     .ret)
    .skip))
  (.seq (.reg [⟨(some 25), none, .mv (.t 0)⟩, ⟨(some 26), none, .cvi .i64 (.t 25)⟩, ⟨(some 27), none, .bin .rem (.t 26) (.c (.v (.int .i64 64)))⟩, ⟨(some 28), none, .bin .add (.c (.v (.int .i64 1))) (.t 27)⟩, ⟨(some 7), none, .mv (.t 28)⟩])
   (.seq (.seq (.reg [⟨(some 29), none, .mv (.t 1)⟩, ⟨(some 30), none, .len (.t 29)⟩, ⟨(some 31), none, .bin .lss (.t 30) (.c (.v (.int .i64 1)))⟩, ⟨(some 32), none, .mv (.t 31)⟩, ⟨(some 33), (some (32, false)), .mv (.t 1)⟩, ⟨(some 34), (some (32, false)), .len (.t 33)⟩, ⟨(some 35), (some (32, false)), .bin .gtr (.t 34) (.c (.v (.int .i64 8)))⟩, ⟨(some 36), none, .pick (.t 32) (.c (.v (.bool true))) (.t 35)⟩, ⟨(some 37), none, .mv (.t 36)⟩, ⟨(some 38), (some (37, false)), .mv (.t 2)⟩, ⟨(some 39), (some (37, false)), .len (.t 38)⟩, ⟨(some 40), (some (37, false)), .bin .gtr (.t 39) (.c (.v (.int .i64 100)))⟩, ⟨(some 41), none, .pick (.t 37) (.c (.v (.bool true))) (.t 40)⟩])
     (.cond (.t 41) (.seq (.reg [⟨(some 6), none, .mv (.c (.v (.bool true)))⟩])
       .ret)
      .skip))
    (.seq (.reg [⟨(some 8), none, .mv (.c (.v (.slice none 0 0)))⟩])
     (.seq (.seq (.reg [⟨(some 42), none, .mv (.t 1)⟩, ⟨(some 43), none, .len (.t 42)⟩, ⟨(some 44), none, .mv (.c (.v (.int .i64 0)))⟩])
       (.block 0 (.loop [1, 2, 7, 8, 43, 44] l_fuglemanlaw17_PartsWhole_0)))
      l_fuglemanlaw17_PartsWhole_1))))))
def a_fuglemanlaw17_PartsWhole : AFn := ⟨3, b_fuglemanlaw17_PartsWhole, [.t 6], false, false⟩
theorem a_fuglemanlaw17_PartsWhole_ok : compF Try.prog Try.f4 [[1, 2, 7, 8, 43, 44], [1, 7, 8, 11, 12, 71, 72, 73]] false false hv = some a_fuglemanlaw17_PartsWhole := by kernel_rfl

/-! (*fugleman/parts.Glue).Clear: 12 -/
def b_parts_Glue_Clear : AC :=
 (.seq (.reg [⟨(some 2), none, .mv (.t 0)⟩, ⟨(some 3), none, .eqp true (.t 2) (.c (.v (.pointer none)))⟩])
 (.cond (.t 3) (.seq (.reg [⟨(some 4), none, .mv (.t 0)⟩, ⟨(some 5), none, .build [(.v (.int .u16 0)), (.v (.int .u32 0))] []⟩, ⟨(some 6), none, .call (.c (.fn 20 [])) [(.t 4), (.t 5)]⟩])
   (.reg [⟨(some 7), none, .mv (.t 0)⟩, ⟨(some 8), none, .nilck (.t 7)⟩, ⟨(some 9), none, .fad 3 (.t 8)⟩, ⟨none, none, .store 1 (.t 9) (.c (.v (.bool false)))⟩]))
  .skip))
def a_parts_Glue_Clear : AFn := ⟨1, b_parts_Glue_Clear, [], false, true⟩
theorem a_parts_Glue_Clear_ok : compF Try.prog Try.f12 [] false true hv = some a_parts_Glue_Clear := by kernel_rfl

/-! fugleman/fuglemanref17.lengths: 22 -/
def b_fuglemanref17_lengths : AC :=
 (.seq (.reg [⟨(some 2), none, .mv (.c (.v (.slice none 0 0)))⟩])
 (.seq (.reg [⟨(some 3), none, .mv (.t 0)⟩, ⟨(some 4), none, .mks 1 1 [(.v (.int .u8 0))] (.t 3) (.t 3)⟩, ⟨(some 5), none, .cvbs (.t 4)⟩, ⟨(some 6), none, .call (.c (.fn 17 [])) [(.t 5)]⟩, ⟨(some 2), none, .mv (.t 6)⟩])
  .ret))
def a_fuglemanref17_lengths : AFn := ⟨1, b_fuglemanref17_lengths, [.t 2], true, false⟩
theorem a_fuglemanref17_lengths_ok : compF Try.prog Try.f22 [] true false hv = some a_fuglemanref17_lengths := by kernel_rfl

/-! fugleman/fuglemanref17.Number: 23 -/
def b_fuglemanref17_Number : AC :=
 (.seq (.reg [⟨(some 1), none, .box (.t 0)⟩, ⟨(some 2), none, .mv (.c (.v (.int .u64 0)))⟩])
 (.seq (.reg [⟨(some 3), none, .fad 0 (.t 1)⟩, ⟨(some 4), none, .load none (.t 3)⟩, ⟨(some 5), none, .cvi .u64 (.t 4)⟩, ⟨(some 6), none, .bin .mul (.t 5) (.c (.v (.int .u64 4294967296)))⟩, ⟨(some 7), none, .fad 1 (.t 1)⟩, ⟨(some 8), none, .load none (.t 7)⟩, ⟨(some 9), none, .cvi .u64 (.t 8)⟩, ⟨(some 10), none, .bin .add (.t 6) (.t 9)⟩, ⟨(some 2), none, .mv (.t 10)⟩])
  .ret))
def a_fuglemanref17_Number : AFn := ⟨1, b_fuglemanref17_Number, [.t 2], false, false⟩
theorem a_fuglemanref17_Number_ok : compF Try.prog Try.f23 [] false false hv = some a_fuglemanref17_Number := by kernel_rfl

/-! (*fugleman/fuglemanref17.Glue).Put: 13 -/
def l_fuglemanref17_Glue_Put_1 : AC :=
 (.seq (.reg [⟨(some 130), none, .mv (.t 8)⟩, ⟨(some 4), none, .mv (.t 130)⟩, ⟨(some 5), none, .mv (.c (.v (.bool true)))⟩, ⟨(some 6), none, .mv (.c (.v (.int .i64 0)))⟩])
 .ret)
def l_fuglemanref17_Glue_Put_0 : AC :=
 (.seq (.seq (.reg [⟨(some 107), none, .mv (.t 9)⟩, ⟨(some 108), none, .mv (.t 7)⟩, ⟨(some 109), none, .len (.t 108)⟩, ⟨(some 110), none, .bin .lss (.t 107) (.t 109)⟩])
  (.cond (.t 110) .skip
   (.exit 0)))
 (.seq (.block 1 (.seq (.seq (.reg [⟨(some 113), none, .mv (.t 0)⟩, ⟨(some 114), none, .nilck (.t 113)⟩, ⟨(some 115), none, .fad 4 (.t 114)⟩, ⟨(some 116), none, .load none (.t 115)⟩, ⟨(some 117), none, .mv (.t 9)⟩, ⟨(some 118), none, .ixs 1 (.t 116) (.t 117)⟩, ⟨(some 119), none, .load none (.t 118)⟩, ⟨(some 120), none, .bin .eql (.t 119) (.c (.v (.string ⟨#[]⟩)))⟩])
     (.cond (.t 120) (.seq (.reg [⟨(some 4), none, .mv (.c (.v (.string ⟨#[]⟩)))⟩, ⟨(some 5), none, .mv (.c (.v (.bool false)))⟩, ⟨(some 6), none, .mv (.c (.v (.int .i64 0)))⟩])
       .ret)
      .skip))
    (.reg [⟨(some 121), none, .mv (.t 8)⟩, ⟨(some 122), none, .mv (.t 0)⟩, ⟨(some 123), none, .nilck (.t 122)⟩, ⟨(some 124), none, .fad 4 (.t 123)⟩, ⟨(some 125), none, .load none (.t 124)⟩, ⟨(some 126), none, .mv (.t 9)⟩, ⟨(some 127), none, .ixs 1 (.t 125) (.t 126)⟩, ⟨(some 128), none, .load none (.t 127)⟩, ⟨(some 129), none, .bin .add (.t 121) (.t 128)⟩, ⟨(some 8), none, .mv (.t 129)⟩])))
  (.reg [⟨(some 111), none, .mv (.t 9)⟩, ⟨(some 112), none, .bin .add (.t 111) (.c (.v (.int .i64 1)))⟩, ⟨(some 9), none, .mv (.t 112)⟩])))
def b_fuglemanref17_Glue_Put : AC :=
 (.seq (.reg [⟨(some 3), none, .box (.t 1)⟩, ⟨(some 4), none, .mv (.c (.v (.string ⟨#[]⟩)))⟩, ⟨(some 5), none, .mv (.c (.v (.bool false)))⟩, ⟨(some 6), none, .mv (.c (.v (.int .i64 0)))⟩])
 (.seq (.seq (.reg [⟨(some 10), none, .fad 0 (.t 3)⟩, ⟨(some 11), none, .load none (.t 10)⟩, ⟨(some 12), none, .bin .neq (.t 11) (.c (.v (.int .i64 4)))⟩])
   (.cond (.t 12) (.seq (.reg [⟨(some 4), none, .mv (.c (.v (.string ⟨#[]⟩)))⟩, ⟨(some 5), none, .mv (.c (.v (.bool false)))⟩, ⟨(some 6), none, .mv (.c (.v (.int .i64 11)))⟩])
     .ret)
    .skip))
  (.seq (.reg [⟨(some 13), none, .mv (.t 0)⟩, ⟨(some 14), none, .nilck (.t 13)⟩, ⟨(some 15), none, .fad 0 (.t 14)⟩, ⟨(some 16), none, .load none (.t 15)⟩, ⟨(some 17), none, .call (.c (.fn 22 [])) [(.t 16)]⟩, ⟨(some 7), none, .mv (.t 17)⟩])
   (.seq (.seq (.regq [⟨(some 18), none, .fad 17 (.t 3)⟩, ⟨(some 19), none, .load none (.t 18)⟩, ⟨(some 20), none, .cvi .i64 (.t 19)⟩, ⟨(some 21), none, .mv (.t 7)⟩, ⟨(some 22), none, .len (.t 21)⟩, ⟨(some 23), none, .bin .neq (.t 20) (.t 22)⟩, ⟨(some 24), none, .mv (.t 23)⟩, ⟨(some 25), (some (24, false)), .fad 16 (.t 3)⟩, ⟨(some 26), (some (24, false)), .load none (.t 25)⟩, ⟨(some 27), (some (24, false)), .cvi .i64 (.t 26)⟩, ⟨(some 28), (some (24, false)), .mv (.t 7)⟩, ⟨(some 29), (some (24, false)), .len (.t 28)⟩, ⟨(some 30), (some (24, false)), .bin .geq (.t 27) (.t 29)⟩, ⟨(some 31), none, .pick (.t 24) (.c (.v (.bool true))) (.t 30)⟩, ⟨(some 32), none, .mv (.t 31)⟩, ⟨(some 33), (some (32, false)), .fad 18 (.t 3)⟩, ⟨(some 34), (some (32, false)), .load none (.t 33)⟩, ⟨(some 35), (some (32, false)), .lens (.t 34)⟩, ⟨(some 36), (some (32, false)), .mv (.t 7)⟩, ⟨(some 37), (some (32, false)), .fad 16 (.t 3)⟩, ⟨(some 38), (some (32, false)), .load none (.t 37)⟩, ⟨(some 39), (some (32, false)), .ixs 1 (.t 36) (.t 38)⟩, ⟨(some 40), (some (32, false)), .load none (.t 39)⟩, ⟨(some 41), (some (32, false)), .lens (.t 40)⟩, ⟨(some 42), (some (32, false)), .bin .neq (.t 35) (.t 41)⟩, ⟨(some 43), none, .pick (.t 32) (.c (.v (.bool true))) (.t 42)⟩])
     (.cond (.t 43) (.seq (.reg [⟨(some 4), none, .mv (.c (.v (.string ⟨#[]⟩)))⟩, ⟨(some 5), none, .mv (.c (.v (.bool false)))⟩, ⟨(some 6), none, .mv (.c (.v (.int .i64 3)))⟩])
       .ret)
      .skip))
    (.seq (.seq (.regq [⟨(some 44), none, .mv (.t 0)⟩, ⟨(some 45), none, .nilck (.t 44)⟩, ⟨(some 46), none, .fad 1 (.t 45)⟩, ⟨(some 47), none, .load none (.t 46)⟩, ⟨(some 48), none, .mv (.t 47)⟩, ⟨(some 49), (some (48, true)), .fad 14 (.t 3)⟩, ⟨(some 50), (some (48, true)), .load (some 2) (.t 49)⟩, ⟨(some 51), (some (48, true)), .call (.c (.fn 23 [])) [(.t 50)]⟩, ⟨(some 52), (some (48, true)), .mv (.t 0)⟩, ⟨(some 53), (some (48, true)), .nilck (.t 52)⟩, ⟨(some 54), (some (48, true)), .fad 2 (.t 53)⟩, ⟨(some 55), (some (48, true)), .load (some 2) (.t 54)⟩, ⟨(some 56), (some (48, true)), .call (.c (.fn 23 [])) [(.t 55)]⟩, ⟨(some 57), (some (48, true)), .bin .lss (.t 51) (.t 56)⟩, ⟨(some 58), none, .pick (.t 48) (.t 57) (.c (.v (.bool false)))⟩])
      (.cond (.t 58) (.seq (.reg [⟨(some 4), none, .mv (.c (.v (.string ⟨#[]⟩)))⟩, ⟨(some 5), none, .mv (.c (.v (.bool false)))⟩, ⟨(some 6), none, .mv (.c (.v (.int .i64 1)))⟩])
        .ret)
       .skip))
     (.seq (.seq (.regq [⟨(some 59), none, .mv (.t 0)⟩, ⟨(some 60), none, .nilck (.t 59)⟩, ⟨(some 61), none, .fad 1 (.t 60)⟩, ⟨(some 62), none, .load none (.t 61)⟩, ⟨(some 63), none, .un .not (.t 62)⟩, ⟨(some 64), none, .mv (.t 63)⟩, ⟨(some 65), (some (64, false)), .fad 14 (.t 3)⟩, ⟨(some 66), (some (64, false)), .load (some 2) (.t 65)⟩, ⟨(some 67), (some (64, false)), .call (.c (.fn 23 [])) [(.t 66)]⟩, ⟨(some 68), (some (64, false)), .mv (.t 0)⟩, ⟨(some 69), (some (64, false)), .nilck (.t 68)⟩, ⟨(some 70), (some (64, false)), .fad 2 (.t 69)⟩, ⟨(some 71), (some (64, false)), .load (some 2) (.t 70)⟩, ⟨(some 72), (some (64, false)), .call (.c (.fn 23 [])) [(.t 71)]⟩, ⟨(some 73), (some (64, false)), .bin .gtr (.t 67) (.t 72)⟩, ⟨(some 74), none, .pick (.t 64) (.c (.v (.bool true))) (.t 73)⟩])
       (.cond (.t 74) (.seq (.reg [⟨(some 75), none, .mv (.t 0)⟩, ⟨(some 76), none, .nilck (.t 75)⟩, ⟨(some 77), none, .fad 1 (.t 76)⟩, ⟨none, none, .store 1 (.t 77) (.c (.v (.bool true)))⟩])
         (.seq (.reg [⟨(some 78), none, .mv (.t 0)⟩, ⟨(some 79), none, .fad 14 (.t 3)⟩, ⟨(some 80), none, .load (some 2) (.t 79)⟩, ⟨(some 81), none, .nilck (.t 78)⟩, ⟨(some 82), none, .fad 2 (.t 81)⟩, ⟨none, none, .store 2 (.t 82) (.t 80)⟩])
          (.reg [⟨(some 83), none, .mv (.t 0)⟩, ⟨(some 84), none, .mv (.t 7)⟩, ⟨(some 85), none, .len (.t 84)⟩, ⟨(some 86), none, .mks 1 16 [(.v (.string ⟨#[]⟩))] (.t 85) (.t 85)⟩, ⟨(some 87), none, .nilck (.t 83)⟩, ⟨(some 88), none, .fad 4 (.t 87)⟩, ⟨none, none, .store 1 (.t 88) (.t 86)⟩])))
        .skip))
      (.seq (.seq (.regq [⟨(some 89), none, .mv (.t 0)⟩, ⟨(some 90), none, .nilck (.t 89)⟩, ⟨(some 91), none, .fad 4 (.t 90)⟩, ⟨(some 92), none, .load none (.t 91)⟩, ⟨(some 93), none, .fad 16 (.t 3)⟩, ⟨(some 94), none, .load none (.t 93)⟩, ⟨(some 95), none, .ixs 1 (.t 92) (.t 94)⟩, ⟨(some 96), none, .load none (.t 95)⟩, ⟨(some 97), none, .bin .neq (.t 96) (.c (.v (.string ⟨#[]⟩)))⟩])
        (.cond (.t 97) (.seq (.reg [⟨(some 4), none, .mv (.c (.v (.string ⟨#[]⟩)))⟩, ⟨(some 5), none, .mv (.c (.v (.bool false)))⟩, ⟨(some 6), none, .mv (.c (.v (.int .i64 14)))⟩])
          .ret)
         .skip))
       (.seq (.regt 8 [⟨(some 98), none, .mv (.t 0)⟩, ⟨(some 99), none, .nilck (.t 98)⟩, ⟨(some 100), none, .fad 4 (.t 99)⟩, ⟨(some 101), none, .load none (.t 100)⟩, ⟨(some 102), none, .fad 16 (.t 3)⟩, ⟨(some 103), none, .load none (.t 102)⟩, ⟨(some 104), none, .fad 18 (.t 3)⟩, ⟨(some 105), none, .load none (.t 104)⟩, ⟨(some 106), none, .ixs 1 (.t 101) (.t 103)⟩, ⟨none, none, .store 1 (.t 106) (.t 105)⟩])
        (.seq (.reg [⟨(some 8), none, .mv (.c (.v (.string ⟨#[]⟩)))⟩])
         (.seq (.seq (.reg [⟨(some 9), none, .mv (.c (.v (.int .i64 0)))⟩])
           (.block 0 (.loop [0, 7, 8, 9] l_fuglemanref17_Glue_Put_0)))
          l_fuglemanref17_Glue_Put_1))))))))))
def a_fuglemanref17_Glue_Put : AFn := ⟨2, b_fuglemanref17_Glue_Put, [.t 4, .t 5, .t 6], false, true⟩
theorem a_fuglemanref17_Glue_Put_ok : compF Try.prog Try.f13 [[0, 7, 8, 9]] false true hv = some a_fuglemanref17_Glue_Put := by kernel_rfl

/-! (*fugleman/fuglemanref17.Glue).Count: 14 -/
def l_fuglemanref17_Glue_Count_1 : AC :=
 (.seq (.reg [⟨(some 24), none, .mv (.t 3)⟩, ⟨(some 2), none, .mv (.t 24)⟩])
 .ret)
def l_fuglemanref17_Glue_Count_0 : AC :=
 (.seq (.seq (.reg [⟨(some 5), none, .mv (.t 4)⟩, ⟨(some 6), none, .mv (.t 0)⟩, ⟨(some 7), none, .nilck (.t 6)⟩, ⟨(some 8), none, .fad 4 (.t 7)⟩, ⟨(some 9), none, .load none (.t 8)⟩, ⟨(some 10), none, .len (.t 9)⟩, ⟨(some 11), none, .bin .lss (.t 5) (.t 10)⟩])
  (.cond (.t 11) .skip
   (.exit 0)))
 (.seq (.block 1 (.seq (.reg [⟨(some 14), none, .mv (.t 0)⟩, ⟨(some 15), none, .nilck (.t 14)⟩, ⟨(some 16), none, .fad 4 (.t 15)⟩, ⟨(some 17), none, .load none (.t 16)⟩, ⟨(some 18), none, .mv (.t 4)⟩, ⟨(some 19), none, .ixs 1 (.t 17) (.t 18)⟩, ⟨(some 20), none, .load none (.t 19)⟩, ⟨(some 21), none, .bin .neq (.t 20) (.c (.v (.string ⟨#[]⟩)))⟩])
    (.cond (.t 21) (.reg [⟨(some 22), none, .mv (.t 3)⟩, ⟨(some 23), none, .bin .add (.t 22) (.c (.v (.int .i64 1)))⟩, ⟨(some 3), none, .mv (.t 23)⟩])
     .skip)))
  (.reg [⟨(some 12), none, .mv (.t 4)⟩, ⟨(some 13), none, .bin .add (.t 12) (.c (.v (.int .i64 1)))⟩, ⟨(some 4), none, .mv (.t 13)⟩])))
def b_fuglemanref17_Glue_Count : AC :=
 (.seq (.reg [⟨(some 2), none, .mv (.c (.v (.int .i64 0)))⟩])
 (.seq (.reg [⟨(some 3), none, .mv (.c (.v (.int .i64 0)))⟩])
  (.seq (.seq (.reg [⟨(some 4), none, .mv (.c (.v (.int .i64 0)))⟩])
    (.block 0 (.loop [0, 3, 4] l_fuglemanref17_Glue_Count_0)))
   l_fuglemanref17_Glue_Count_1)))
def a_fuglemanref17_Glue_Count : AFn := ⟨1, b_fuglemanref17_Glue_Count, [.t 2], false, false⟩
theorem a_fuglemanref17_Glue_Count_ok : compF Try.prog Try.f14 [[0, 3, 4]] false false hv = some a_fuglemanref17_Glue_Count := by kernel_rfl

/-! fugleman/fuglemanlaw17.PartsRuns: 5 -/
def l_fuglemanlaw17_PartsRuns_4 : AC :=
 (.seq (.reg [⟨(some 6), none, .mv (.c (.v (.bool true)))⟩])
 .ret)
def l_fuglemanlaw17_PartsRuns_3 : AC :=
 (.reg [⟨(some 145), none, .bin .add (.t 65) (.c (.v (.int .i64 1)))⟩, ⟨(some 65), none, .mv (.t 145)⟩])
def l_fuglemanlaw17_PartsRuns_2 : AC :=
 (.seq (.reg [⟨(some 91), none, .mv (.t 7)⟩, ⟨(some 92), none, .load (some 19) (.t 13)⟩, ⟨(some 93), none, .call (.c (.fn 10 [])) [(.t 91), (.t 92)]⟩, ⟨(some 90), none, .mv (.t 93)⟩, ⟨(some 94), none, .ext 0 (.t 90)⟩, ⟨(some 95), none, .ext 1 (.t 90)⟩, ⟨(some 96), none, .ext 2 (.t 90)⟩, ⟨(some 16), none, .mv (.t 94)⟩, ⟨(some 17), none, .mv (.t 95)⟩, ⟨(some 18), none, .mv (.t 96)⟩])
 (.seq (.reg [⟨(some 98), none, .mv (.t 11)⟩, ⟨(some 99), none, .load (some 19) (.t 13)⟩, ⟨(some 100), none, .call (.c (.fn 13 [])) [(.t 98), (.t 99)]⟩, ⟨(some 97), none, .mv (.t 100)⟩, ⟨(some 101), none, .ext 0 (.t 97)⟩, ⟨(some 102), none, .ext 1 (.t 97)⟩, ⟨(some 103), none, .ext 2 (.t 97)⟩, ⟨(some 19), none, .mv (.t 101)⟩, ⟨(some 20), none, .mv (.t 102)⟩, ⟨(some 21), none, .mv (.t 103)⟩])
  (.seq (.reg [⟨(some 105), none, .mv (.t 7)⟩, ⟨(some 106), none, .call (.c (.fn 11 [])) [(.t 105)]⟩, ⟨(some 104), none, .mv (.t 106)⟩, ⟨(some 107), none, .ext 0 (.t 104)⟩, ⟨(some 108), none, .ext 1 (.t 104)⟩, ⟨(some 109), none, .ext 2 (.t 104)⟩, ⟨(some 22), none, .alloc [(.v (.int .u16 0)), (.v (.int .u32 0))]⟩, ⟨none, none, .store 2 (.t 22) (.t 107)⟩, ⟨(some 23), none, .mv (.t 108)⟩, ⟨(some 24), none, .mv (.t 109)⟩])
   (.seq (.regq [⟨(some 110), none, .mv (.t 16)⟩, ⟨(some 111), none, .mv (.t 19)⟩, ⟨(some 112), none, .bin .neq (.t 110) (.t 111)⟩, ⟨(some 113), none, .mv (.t 112)⟩, ⟨(some 114), (some (113, false)), .mv (.t 17)⟩, ⟨(some 115), (some (113, false)), .mv (.t 20)⟩, ⟨(some 116), (some (113, false)), .eqb true (.t 114) (.t 115)⟩, ⟨(some 117), none, .pick (.t 113) (.c (.v (.bool true))) (.t 116)⟩, ⟨(some 118), none, .mv (.t 117)⟩, ⟨(some 119), (some (118, false)), .mv (.t 18)⟩, ⟨(some 120), (some (118, false)), .mv (.t 21)⟩, ⟨(some 121), (some (118, false)), .bin .neq (.t 119) (.t 120)⟩, ⟨(some 122), none, .pick (.t 118) (.c (.v (.bool true))) (.t 121)⟩, ⟨(some 123), none, .mv (.t 122)⟩, ⟨(some 124), (some (123, false)), .mv (.t 24)⟩, ⟨(some 125), (some (123, false)), .mv (.t 11)⟩, ⟨(some 126), (some (123, false)), .nilck (.t 125)⟩, ⟨(some 127), (some (123, false)), .fad 1 (.t 126)⟩, ⟨(some 128), (some (123, false)), .load none (.t 127)⟩, ⟨(some 129), (some (123, false)), .eqb true (.t 124) (.t 128)⟩, ⟨(some 130), none, .pick (.t 123) (.c (.v (.bool true))) (.t 129)⟩, ⟨(some 131), none, .mv (.t 130)⟩, ⟨(some 132), (some (131, false)), .load (some 2) (.t 22)⟩, ⟨(some 133), (some (131, false)), .mv (.t 11)⟩, ⟨(some 134), (some (131, false)), .nilck (.t 133)⟩, ⟨(some 135), (some (131, false)), .fad 2 (.t 134)⟩, ⟨(some 136), (some (131, false)), .load (some 2) (.t 135)⟩, ⟨(some 137), (some (131, false)), .eqst true [(0, .i), (1, .i)] (.t 132) (.t 136)⟩, ⟨(some 138), none, .pick (.t 131) (.c (.v (.bool true))) (.t 137)⟩, ⟨(some 139), none, .mv (.t 138)⟩, ⟨(some 140), (some (139, false)), .mv (.t 23)⟩, ⟨(some 141), (some (139, false)), .mv (.t 11)⟩, ⟨(some 142), (some (139, false)), .call (.c (.fn 14 [])) [(.t 141)]⟩, ⟨(some 143), (some (139, false)), .bin .neq (.t 140) (.t 142)⟩, ⟨(some 144), none, .pick (.t 139) (.c (.v (.bool true))) (.t 143)⟩])
    (.cond (.t 144) (.seq (.reg [⟨(some 6), none, .mv (.c (.v (.bool false)))⟩])
      .ret)
     .skip)))))
def l_fuglemanlaw17_PartsRuns_1 : AC :=
 (.seq (.reg [⟨(some 77), none, .bin .lss (.t 76) (.t 75)⟩])
 (.seq (.cond (.t 77) .skip
   (.exit 2))
  (.seq (.block 3 (.seq (.reg [⟨(some 78), none, .ixs 1 (.t 74) (.t 76)⟩, ⟨(some 79), none, .load none (.t 78)⟩, ⟨(some 15), none, .mv (.t 79)⟩])
     (.seq (.reg [⟨(some 80), none, .mv (.t 15)⟩, ⟨(some 81), none, .cvi .i64 (.t 80)⟩, ⟨(some 82), none, .mv (.t 12)⟩, ⟨(some 83), none, .bin .eql (.t 81) (.t 82)⟩])
      (.cond (.t 83) (.seq (.reg [⟨(some 84), none, .mv (.t 7)⟩, ⟨(some 85), none, .call (.c (.fn 12 [])) [(.t 84)]⟩])
        (.reg [⟨(some 86), none, .mv (.t 0)⟩, ⟨(some 87), none, .build [(.v (.int .i64 0)), (.v (.bool false)), (.v (.int .u16 0)), (.v (.int .u32 0)), (.v (.slice none 0 0))] [(0, 1, (.t 86))]⟩, ⟨(some 88), none, .box (.t 87)⟩, ⟨(some 11), none, .mv (.t 88)⟩]))
       .skip))))
   (.reg [⟨(some 89), none, .bin .add (.t 76) (.c (.v (.int .i64 1)))⟩, ⟨(some 76), none, .mv (.t 89)⟩]))))
def l_fuglemanlaw17_PartsRuns_0 : AC :=
 (.seq (.reg [⟨(some 66), none, .bin .lss (.t 65) (.t 64)⟩])
 (.seq (.cond (.t 66) .skip
   (.exit 0))
  (.seq (.block 1 (.seq (.reg [⟨(some 67), none, .mv (.t 65)⟩, ⟨(some 68), none, .ixs 19 (.t 63) (.t 65)⟩, ⟨(some 69), none, .load (some 19) (.t 68)⟩, ⟨(some 13), none, .alloc [(.v (.int .i64 0)), (.v (.int .u8 0)), (.v (.int .u8 0)), (.v (.int .u16 0)), (.v (.int .u16 0)), (.v (.int .u16 0)), (.v (.int .u8 0)), (.v (.int .u16 0)), (.v (.int .u16 0)), (.v (.int .u16 0)), (.v (.int .u8 0)), (.v (.int .u16 0)), (.v (.bool false)), (.v (.int .u8 0)), (.v (.int .u16 0)), (.v (.int .u32 0)), (.v (.int .u8 0)), (.v (.int .u8 0)), (.v (.string ⟨#[]⟩))]⟩, ⟨(some 12), none, .mv (.t 67)⟩, ⟨none, none, .store 19 (.t 13) (.t 69)⟩])
     (.seq (.seq (.reg [⟨(some 70), none, .fad 18 (.t 13)⟩, ⟨(some 71), none, .load none (.t 70)⟩, ⟨(some 72), none, .lens (.t 71)⟩, ⟨(some 73), none, .bin .gtr (.t 72) (.c (.v (.int .i64 40)))⟩])
       (.cond (.t 73) (.seq (.reg [⟨(some 6), none, .mv (.c (.v (.bool true)))⟩])
         .ret)
        .skip))
      (.seq (.seq (.reg [⟨(some 74), none, .mv (.t 2)⟩, ⟨(some 75), none, .len (.t 74)⟩, ⟨(some 76), none, .mv (.c (.v (.int .i64 0)))⟩])
        (.block 2 (.loop [0, 2, 7, 11, 12, 13, 63, 64, 65, 74, 75, 76] l_fuglemanlaw17_PartsRuns_1)))
       l_fuglemanlaw17_PartsRuns_2))))
   l_fuglemanlaw17_PartsRuns_3)))
def b_fuglemanlaw17_PartsRuns : AC :=
 (.seq (.reg [⟨(some 6), none, .mv (.c (.v (.bool false)))⟩])
 (.seq (.seq (.reg [⟨(some 25), none, .call (.c (.fn 6 [])) []⟩, ⟨(some 26), none, .un .not (.t 25)⟩])
   (.cond (.t 26) (.seq (.reg [⟨(some 6), none, .mv (.c (.v (.bool false)))⟩])
     .ret)
    .skip))
  (.seq (.seq (.reg [⟨(some 27), none, .mv (.t 1)⟩, ⟨(some 28), none, .len (.t 27)⟩, ⟨(some 29), none, .bin .gtr (.t 28) (.c (.v (.int .i64 60)))⟩, ⟨(some 30), none, .mv (.t 29)⟩, ⟨(some 31), (some (30, false)), .mv (.t 2)⟩, ⟨(some 32), (some (30, false)), .len (.t 31)⟩, ⟨(some 33), (some (30, false)), .bin .gtr (.t 32) (.c (.v (.int .i64 60)))⟩, ⟨(some 34), none, .pick (.t 30) (.c (.v (.bool true))) (.t 33)⟩])
    (.cond (.t 34) (.seq (.reg [⟨(some 6), none, .mv (.c (.v (.bool true)))⟩])
      .ret)
     .skip))
   (.seq (.reg [⟨(some 35), none, .mv (.t 0)⟩, ⟨(some 36), none, .call (.c (.fn 9 [])) [(.t 35)]⟩, ⟨(some 7), none, .mv (.t 36)⟩])
    (.seq (.seq (.reg [⟨(some 37), none, .mv (.t 0)⟩, ⟨(some 38), none, .bin .lss (.t 37) (.c (.v (.int .i64 1)))⟩, ⟨(some 39), none, .mv (.t 38)⟩, ⟨(some 40), (some (39, false)), .mv (.t 0)⟩, ⟨(some 41), (some (39, false)), .bin .gtr (.t 40) (.c (.v (.int .i64 64)))⟩, ⟨(some 42), none, .pick (.t 39) (.c (.v (.bool true))) (.t 41)⟩])
      (.cond (.t 42) (.seq (.reg [⟨(some 44), none, .mv (.t 7)⟩, ⟨(some 45), none, .build [(.v (.int .i64 0)), (.v (.int .u8 0)), (.v (.int .u8 0)), (.v (.int .u16 0)), (.v (.int .u16 0)), (.v (.int .u16 0)), (.v (.int .u8 0)), (.v (.int .u16 0)), (.v (.int .u16 0)), (.v (.int .u16 0)), (.v (.int .u8 0)), (.v (.int .u16 0)), (.v (.bool false)), (.v (.int .u8 0)), (.v (.int .u16 0)), (.v (.int .u32 0)), (.v (.int .u8 0)), (.v (.int .u8 0)), (.v (.string ⟨#[]⟩))] [(0, 1, (.c (.v (.int .i64 4))))]⟩, ⟨(some 46), none, .call (.c (.fn 10 [])) [(.t 44), (.t 45)]⟩, ⟨(some 43), none, .mv (.t 46)⟩, ⟨(some 47), none, .ext 0 (.t 43)⟩, ⟨(some 48), none, .ext 1 (.t 43)⟩, ⟨(some 49), none, .ext 2 (.t 43)⟩, ⟨(some 8), none, .mv (.t 47)⟩, ⟨(some 9), none, .mv (.t 48)⟩, ⟨(some 10), none, .mv (.t 49)⟩])
        (.seq (.reg [⟨(some 50), none, .mv (.t 7)⟩, ⟨(some 51), none, .eqp false (.t 50) (.c (.v (.pointer none)))⟩, ⟨(some 52), none, .mv (.t 51)⟩, ⟨(some 53), (some (52, true)), .mv (.t 9)⟩, ⟨(some 54), (some (52, true)), .un .not (.t 53)⟩, ⟨(some 55), none, .pick (.t 52) (.t 54) (.c (.v (.bool false)))⟩, ⟨(some 56), none, .mv (.t 55)⟩, ⟨(some 57), (some (56, true)), .mv (.t 10)⟩, ⟨(some 58), (some (56, true)), .bin .eql (.t 57) (.c (.v (.int .i64 1)))⟩, ⟨(some 59), none, .pick (.t 56) (.t 58) (.c (.v (.bool false)))⟩, ⟨(some 6), none, .mv (.t 59)⟩])
         .ret))
       .skip))
     (.seq (.reg [⟨(some 60), none, .mv (.t 0)⟩, ⟨(some 61), none, .build [(.v (.int .i64 0)), (.v (.bool false)), (.v (.int .u16 0)), (.v (.int .u32 0)), (.v (.slice none 0 0))] [(0, 1, (.t 60))]⟩, ⟨(some 62), none, .box (.t 61)⟩, ⟨(some 11), none, .mv (.t 62)⟩])
      (.seq (.seq (.reg [⟨(some 63), none, .mv (.t 1)⟩, ⟨(some 64), none, .len (.t 63)⟩, ⟨(some 65), none, .mv (.c (.v (.int .i64 0)))⟩])
        (.block 0 (.loop [0, 2, 7, 11, 63, 64, 65] l_fuglemanlaw17_PartsRuns_0)))
       l_fuglemanlaw17_PartsRuns_4)))))))
def a_fuglemanlaw17_PartsRuns : AFn := ⟨3, b_fuglemanlaw17_PartsRuns, [.t 6], false, false⟩
theorem a_fuglemanlaw17_PartsRuns_ok : compF Try.prog Try.f5 [[0, 2, 7, 11, 63, 64, 65], [0, 2, 7, 11, 12, 13, 63, 64, 65, 74, 75, 76]] false false hv = some a_fuglemanlaw17_PartsRuns := by kernel_rfl

def T : Nat → Option AFn
  | 15 => some a_blocks_Parts
  | 21 => some a_blocks_Piece
  | 16 => some a_blocks_Cut
  | 7 => some a_parts_Split
  | 9 => some a_parts_New
  | 18 => some a_parts_Glue_fits
  | 24 => some a_cmp_Or_int
  | 27 => some a_cmp_isNaN_uint16
  | 25 => some a_cmp_Compare_uint16
  | 28 => some a_cmp_isNaN_uint32
  | 26 => some a_cmp_Compare_uint32
  | 19 => some a_parts_Compare
  | 20 => some a_parts_Glue_begin
  | 10 => some a_parts_Glue_Put
  | 6 => some a_fuglemanlaw17_awake
  | 17 => some a_fuglemanref16_All
  | 8 => some a_fuglemanref17_Split
  | 3 => some a_fuglemanlaw17_PartsSplits
  | 11 => some a_parts_Glue_At
  | 4 => some a_fuglemanlaw17_PartsWhole
  | 12 => some a_parts_Glue_Clear
  | 22 => some a_fuglemanref17_lengths
  | 23 => some a_fuglemanref17_Number
  | 13 => some a_fuglemanref17_Glue_Put
  | 14 => some a_fuglemanref17_Glue_Count
  | 5 => some a_fuglemanlaw17_PartsRuns
  | _ => none
theorem tableOK : TableOK Try.prog T := by
  intro f fn h
  unfold T at h
  split at h
  · cases h; exact ⟨_, _, _, _, _, Try.func15, a_blocks_Parts_ok⟩
  · cases h; exact ⟨_, _, _, _, _, Try.func21, a_blocks_Piece_ok⟩
  · cases h; exact ⟨_, _, _, _, _, Try.func16, a_blocks_Cut_ok⟩
  · cases h; exact ⟨_, _, _, _, _, Try.func7, a_parts_Split_ok⟩
  · cases h; exact ⟨_, _, _, _, _, Try.func9, a_parts_New_ok⟩
  · cases h; exact ⟨_, _, _, _, _, Try.func18, a_parts_Glue_fits_ok⟩
  · cases h; exact ⟨_, _, _, _, _, Try.func24, a_cmp_Or_int_ok⟩
  · cases h; exact ⟨_, _, _, _, _, Try.func27, a_cmp_isNaN_uint16_ok⟩
  · cases h; exact ⟨_, _, _, _, _, Try.func25, a_cmp_Compare_uint16_ok⟩
  · cases h; exact ⟨_, _, _, _, _, Try.func28, a_cmp_isNaN_uint32_ok⟩
  · cases h; exact ⟨_, _, _, _, _, Try.func26, a_cmp_Compare_uint32_ok⟩
  · cases h; exact ⟨_, _, _, _, _, Try.func19, a_parts_Compare_ok⟩
  · cases h; exact ⟨_, _, _, _, _, Try.func20, a_parts_Glue_begin_ok⟩
  · cases h; exact ⟨_, _, _, _, _, Try.func10, a_parts_Glue_Put_ok⟩
  · cases h; exact ⟨_, _, _, _, _, Try.func6, a_fuglemanlaw17_awake_ok⟩
  · cases h; exact ⟨_, _, _, _, _, Try.func17, a_fuglemanref16_All_ok⟩
  · cases h; exact ⟨_, _, _, _, _, Try.func8, a_fuglemanref17_Split_ok⟩
  · cases h; exact ⟨_, _, _, _, _, Try.func3, a_fuglemanlaw17_PartsSplits_ok⟩
  · cases h; exact ⟨_, _, _, _, _, Try.func11, a_parts_Glue_At_ok⟩
  · cases h; exact ⟨_, _, _, _, _, Try.func4, a_fuglemanlaw17_PartsWhole_ok⟩
  · cases h; exact ⟨_, _, _, _, _, Try.func12, a_parts_Glue_Clear_ok⟩
  · cases h; exact ⟨_, _, _, _, _, Try.func22, a_fuglemanref17_lengths_ok⟩
  · cases h; exact ⟨_, _, _, _, _, Try.func23, a_fuglemanref17_Number_ok⟩
  · cases h; exact ⟨_, _, _, _, _, Try.func13, a_fuglemanref17_Glue_Put_ok⟩
  · cases h; exact ⟨_, _, _, _, _, Try.func14, a_fuglemanref17_Glue_Count_ok⟩
  · cases h; exact ⟨_, _, _, _, _, Try.func5, a_fuglemanlaw17_PartsRuns_ok⟩
  · cases h
theorem mixed : Try.prog.follows .mixedOrders = true := by kernel_rfl
theorem calls (k : Nat) : CallsOK Try.prog (acall T k) := acall_ok mixed tableOK k
end Go.Proofs.Yteamlgfohagocaa.Tab
