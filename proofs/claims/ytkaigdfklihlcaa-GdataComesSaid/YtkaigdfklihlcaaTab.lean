/- The program's functions, as the abstract machine has them. Written by a program for this claim. -/
import Derived.Test.YtkaigdfklihlcaaSymQ
import Derived.Test.YtkaigdfklihlcaaProg
import Derived.KernelRfl
import Derived.Test.YtkaigdfklihlcaaExt
namespace Go.Proofs.Ytkaigdfklihlcaa.Tab
open Go Go.Proofs.Ytkaigdfklihlcaa.Sym
set_option linter.unusedVariables false

/-- Calls that act. -/
def hv : List Nat := [2000026, 2000040, 2000030, 27, 11, 43, 31, 12, 13, 15, 19, 45, 44, 32, 20, 24, 33, 25, 10]
/-! fugleman/blocks.Parts: 26 -/
def b_blocks_Parts : AC :=
 (.seq (.reg [⟨(some 2), none, .mv (.c (.v (.int .i64 0)))⟩])
 (.seq (.seq (.reg [⟨(some 3), none, .mv (.t 0)⟩, ⟨(some 4), none, .bin .lss (.t 3) (.c (.v (.int .i64 1)))⟩, ⟨(some 5), none, .mv (.t 4)⟩, ⟨(some 6), (some (5, false)), .mv (.t 0)⟩, ⟨(some 7), (some (5, false)), .bin .gtr (.t 6) (.c (.v (.int .i64 64)))⟩, ⟨(some 8), none, .pick (.t 5) (.c (.v (.bool true))) (.t 7)⟩])
   (.cond (.t 8) (.seq (.reg [⟨(some 2), none, .mv (.c (.v (.int .i64 0)))⟩])
     .ret)
    .skip))
  (.seq (.reg [⟨(some 9), none, .mv (.t 0)⟩, ⟨(some 10), none, .bin .add (.t 9) (.c (.v (.int .i64 16)))⟩, ⟨(some 11), none, .bin .sub (.t 10) (.c (.v (.int .i64 1)))⟩, ⟨(some 12), none, .bin .quo (.t 11) (.c (.v (.int .i64 16)))⟩, ⟨(some 2), none, .mv (.t 12)⟩])
   .ret)))
def a_blocks_Parts : AFn := ⟨1, b_blocks_Parts, [.t 2], false, false⟩
theorem a_blocks_Parts_ok : compF Try.prog Try.f26 [] false false hv = some a_blocks_Parts := by kernel_rfl

/-! fugleman/gdata.NewPub: 8 -/
def b_gdata_NewPub : AC :=
 (.seq (.reg [⟨(some 4), none, .mv (.c (.v (.pointer none)))⟩])
 (.seq (.seq (.reg [⟨(some 5), none, .mv (.t 0)⟩, ⟨(some 6), none, .call (.c (.fn 26 [])) [(.t 5)]⟩, ⟨(some 7), none, .bin .eql (.t 6) (.c (.v (.int .i64 0)))⟩])
   (.cond (.t 7) (.seq (.reg [⟨(some 4), none, .mv (.c (.v (.pointer none)))⟩])
     .ret)
    .skip))
  (.seq (.reg [⟨(some 8), none, .mv (.t 0)⟩, ⟨(some 9), none, .mv (.t 1)⟩, ⟨(some 10), none, .build [(.v (.int .u16 0)), (.v (.int .u32 0))] [(0, 1, (.t 9))]⟩, ⟨(some 11), none, .build [(.v (.string ⟨#[]⟩)), (.v (.int .u16 0)), (.v (.int .u32 0))] [(1, 2, (.t 10))]⟩, ⟨(some 12), none, .build [(.v (.int .i64 0)), (.v (.string ⟨#[]⟩)), (.v (.int .u16 0)), (.v (.int .u32 0)), (.v (.string ⟨#[]⟩)), (.v (.int .u16 0)), (.v (.int .u32 0)), (.v (.int .i64 0)), (.v (.int .i64 0))] [(0, 1, (.t 8)), (1, 3, (.t 11))]⟩, ⟨(some 13), none, .box (.t 12)⟩, ⟨(some 4), none, .mv (.t 13)⟩])
   .ret)))
def a_gdata_NewPub : AFn := ⟨2, b_gdata_NewPub, [.t 4], false, false⟩
theorem a_gdata_NewPub_ok : compF Try.prog Try.f8 [] false false hv = some a_gdata_NewPub := by kernel_rfl

/-! fugleman/parts.New: 27 -/
def b_parts_New : AC :=
 (.seq (.reg [⟨(some 2), none, .mv (.c (.v (.pointer none)))⟩])
 (.seq (.seq (.reg [⟨(some 3), none, .mv (.t 0)⟩, ⟨(some 4), none, .call (.c (.fn 26 [])) [(.t 3)]⟩, ⟨(some 5), none, .bin .eql (.t 4) (.c (.v (.int .i64 0)))⟩])
   (.cond (.t 5) (.seq (.reg [⟨(some 2), none, .mv (.c (.v (.pointer none)))⟩])
     .ret)
    .skip))
  (.seq (.reg [⟨(some 6), none, .mv (.t 0)⟩, ⟨(some 7), none, .mks 1 1 [(.v (.int .u8 0))] (.t 6) (.t 6)⟩, ⟨(some 8), none, .build [(.v (.slice none 0 0)), (.v (.int .u16 0)), (.v (.int .u32 0)), (.v (.bool false)), (.v (.int .u8 0)), (.v (.int .i64 0))] [(0, 1, (.t 7))]⟩, ⟨(some 9), none, .box (.t 8)⟩, ⟨(some 2), none, .mv (.t 9)⟩])
   .ret)))
def a_parts_New : AFn := ⟨1, b_parts_New, [.t 2], false, false⟩
theorem a_parts_New_ok : compF Try.prog Try.f27 [] false false hv = some a_parts_New := by kernel_rfl

/-! math/bits.Mul32: 46 -/
def b_bits_Mul32 : AC :=
 (.seq (.reg [⟨(some 4), none, .mv (.c (.v (.int .u32 0)))⟩, ⟨(some 5), none, .mv (.c (.v (.int .u32 0)))⟩])
 (.seq (.reg [⟨(some 7), none, .mv (.t 0)⟩, ⟨(some 8), none, .cvi .u64 (.t 7)⟩, ⟨(some 9), none, .mv (.t 1)⟩, ⟨(some 10), none, .cvi .u64 (.t 9)⟩, ⟨(some 11), none, .bin .mul (.t 8) (.t 10)⟩, ⟨(some 6), none, .mv (.t 11)⟩])
  (.seq (.reg [⟨(some 12), none, .mv (.t 6)⟩, ⟨(some 13), none, .bin .shr (.t 12) (.c (.v (.int .u64 32)))⟩, ⟨(some 14), none, .cvi .u32 (.t 13)⟩, ⟨(some 15), none, .mv (.t 6)⟩, ⟨(some 16), none, .cvi .u32 (.t 15)⟩, ⟨(some 4), none, .mv (.t 14)⟩, ⟨(some 5), none, .mv (.t 16)⟩])
   .ret)))
def a_bits_Mul32 : AFn := ⟨2, b_bits_Mul32, [.t 4, .t 5], false, false⟩
theorem a_bits_Mul32_ok : compF Try.prog Try.f46 [] false false hv = some a_bits_Mul32 := by kernel_rfl

/-! math/bits.Mul64: 47 -/
def b_bits_Mul64 : AC :=
 (.seq (.reg [⟨(some 4), none, .mv (.c (.v (.int .u64 0)))⟩, ⟨(some 5), none, .mv (.c (.v (.int .u64 0)))⟩])
 (.seq (.reg [⟨(some 14), none, .mv (.t 0)⟩, ⟨(some 15), none, .bin .and (.t 14) (.c (.v (.int .u64 4294967295)))⟩, ⟨(some 6), none, .mv (.t 15)⟩])
  (.seq (.reg [⟨(some 16), none, .mv (.t 0)⟩, ⟨(some 17), none, .bin .shr (.t 16) (.c (.v (.int .u64 32)))⟩, ⟨(some 7), none, .mv (.t 17)⟩])
   (.seq (.reg [⟨(some 18), none, .mv (.t 1)⟩, ⟨(some 19), none, .bin .and (.t 18) (.c (.v (.int .u64 4294967295)))⟩, ⟨(some 8), none, .mv (.t 19)⟩])
    (.seq (.reg [⟨(some 20), none, .mv (.t 1)⟩, ⟨(some 21), none, .bin .shr (.t 20) (.c (.v (.int .u64 32)))⟩, ⟨(some 9), none, .mv (.t 21)⟩])
     (.seq (.reg [⟨(some 22), none, .mv (.t 6)⟩, ⟨(some 23), none, .mv (.t 8)⟩, ⟨(some 24), none, .bin .mul (.t 22) (.t 23)⟩, ⟨(some 10), none, .mv (.t 24)⟩])
      (.seq (.reg [⟨(some 25), none, .mv (.t 7)⟩, ⟨(some 26), none, .mv (.t 8)⟩, ⟨(some 27), none, .bin .mul (.t 25) (.t 26)⟩, ⟨(some 28), none, .mv (.t 10)⟩, ⟨(some 29), none, .bin .shr (.t 28) (.c (.v (.int .u64 32)))⟩, ⟨(some 30), none, .bin .add (.t 27) (.t 29)⟩, ⟨(some 11), none, .mv (.t 30)⟩])
       (.seq (.reg [⟨(some 31), none, .mv (.t 11)⟩, ⟨(some 32), none, .bin .and (.t 31) (.c (.v (.int .u64 4294967295)))⟩, ⟨(some 12), none, .mv (.t 32)⟩])
        (.seq (.reg [⟨(some 33), none, .mv (.t 11)⟩, ⟨(some 34), none, .bin .shr (.t 33) (.c (.v (.int .u64 32)))⟩, ⟨(some 13), none, .mv (.t 34)⟩])
         (.seq (.reg [⟨(some 35), none, .mv (.t 12)⟩, ⟨(some 36), none, .mv (.t 6)⟩, ⟨(some 37), none, .mv (.t 9)⟩, ⟨(some 38), none, .bin .mul (.t 36) (.t 37)⟩, ⟨(some 39), none, .bin .add (.t 35) (.t 38)⟩, ⟨(some 12), none, .mv (.t 39)⟩])
          (.seq (.reg [⟨(some 40), none, .mv (.t 7)⟩, ⟨(some 41), none, .mv (.t 9)⟩, ⟨(some 42), none, .bin .mul (.t 40) (.t 41)⟩, ⟨(some 43), none, .mv (.t 13)⟩, ⟨(some 44), none, .bin .add (.t 42) (.t 43)⟩, ⟨(some 45), none, .mv (.t 12)⟩, ⟨(some 46), none, .bin .shr (.t 45) (.c (.v (.int .u64 32)))⟩, ⟨(some 47), none, .bin .add (.t 44) (.t 46)⟩, ⟨(some 4), none, .mv (.t 47)⟩])
           (.seq (.reg [⟨(some 48), none, .mv (.t 0)⟩, ⟨(some 49), none, .mv (.t 1)⟩, ⟨(some 50), none, .bin .mul (.t 48) (.t 49)⟩, ⟨(some 5), none, .mv (.t 50)⟩])
            .ret))))))))))))
def a_bits_Mul64 : AFn := ⟨2, b_bits_Mul64, [.t 4, .t 5], false, false⟩
theorem a_bits_Mul64_ok : compF Try.prog Try.f47 [] false false hv = some a_bits_Mul64 := by kernel_rfl

/-! math/bits.Mul: 34 -/
def b_bits_Mul : AC :=
 (.seq (.reg [⟨(some 4), none, .mv (.c (.v (.int .u64 0)))⟩, ⟨(some 5), none, .mv (.c (.v (.int .u64 0)))⟩])
 (.seq (.cond (.c (.v (.bool false))) (.seq (.reg [⟨(some 11), none, .mv (.t 0)⟩, ⟨(some 12), none, .cvi .u32 (.t 11)⟩, ⟨(some 13), none, .mv (.t 1)⟩, ⟨(some 14), none, .cvi .u32 (.t 13)⟩, ⟨(some 15), none, .call (.c (.fn 46 [])) [(.t 12), (.t 14)]⟩, ⟨(some 10), none, .mv (.t 15)⟩, ⟨(some 16), none, .ext 0 (.t 10)⟩, ⟨(some 17), none, .ext 1 (.t 10)⟩, ⟨(some 6), none, .mv (.t 16)⟩, ⟨(some 7), none, .mv (.t 17)⟩])
    (.seq (.reg [⟨(some 18), none, .mv (.t 6)⟩, ⟨(some 19), none, .cvi .u64 (.t 18)⟩, ⟨(some 20), none, .mv (.t 7)⟩, ⟨(some 21), none, .cvi .u64 (.t 20)⟩, ⟨(some 4), none, .mv (.t 19)⟩, ⟨(some 5), none, .mv (.t 21)⟩])
     .ret))
   .skip)
  (.seq (.reg [⟨(some 23), none, .mv (.t 0)⟩, ⟨(some 24), none, .mv (.t 1)⟩, ⟨(some 25), none, .call (.c (.fn 47 [])) [(.t 23), (.t 24)]⟩, ⟨(some 22), none, .mv (.t 25)⟩, ⟨(some 26), none, .ext 0 (.t 22)⟩, ⟨(some 27), none, .ext 1 (.t 22)⟩, ⟨(some 8), none, .mv (.t 26)⟩, ⟨(some 9), none, .mv (.t 27)⟩])
   (.seq (.reg [⟨(some 28), none, .mv (.t 8)⟩, ⟨(some 29), none, .mv (.t 9)⟩, ⟨(some 4), none, .mv (.t 28)⟩, ⟨(some 5), none, .mv (.t 29)⟩])
    .ret))))
def a_bits_Mul : AFn := ⟨2, b_bits_Mul, [.t 4, .t 5], false, false⟩
theorem a_bits_Mul_ok : compF Try.prog Try.f34 [] false false hv = some a_bits_Mul := by kernel_rfl

/-! internal/stringslite.HasPrefix: 48 -/
def b_stringslite_HasPrefix : AC :=
 (.seq (.reg [⟨(some 4), none, .mv (.c (.v (.bool false)))⟩])
 (.seq (.reg [⟨(some 5), none, .mv (.t 0)⟩, ⟨(some 6), none, .lens (.t 5)⟩, ⟨(some 7), none, .mv (.t 1)⟩, ⟨(some 8), none, .lens (.t 7)⟩, ⟨(some 9), none, .bin .geq (.t 6) (.t 8)⟩, ⟨(some 10), none, .mv (.t 9)⟩, ⟨(some 11), (some (10, true)), .mv (.t 0)⟩, ⟨(some 12), (some (10, true)), .mv (.t 1)⟩, ⟨(some 13), (some (10, true)), .lens (.t 12)⟩, ⟨(some 14), (some (10, true)), .slstr (.t 11) none (some (.t 13))⟩, ⟨(some 15), (some (10, true)), .mv (.t 1)⟩, ⟨(some 16), (some (10, true)), .bin .eql (.t 14) (.t 15)⟩, ⟨(some 17), none, .pick (.t 10) (.t 16) (.c (.v (.bool false)))⟩, ⟨(some 4), none, .mv (.t 17)⟩])
  .ret))
def a_stringslite_HasPrefix : AFn := ⟨2, b_stringslite_HasPrefix, [.t 4], false, false⟩
theorem a_stringslite_HasPrefix_ok : compF Try.prog Try.f48 [] false false hv = some a_stringslite_HasPrefix := by kernel_rfl

/-! strings.HasPrefix: 35 -/
def b_strings_HasPrefix : AC :=
 (.seq (.reg [⟨(some 4), none, .mv (.c (.v (.bool false)))⟩])
 (.seq (.reg [⟨(some 5), none, .mv (.t 0)⟩, ⟨(some 6), none, .mv (.t 1)⟩, ⟨(some 7), none, .call (.c (.fn 48 [])) [(.t 5), (.t 6)]⟩, ⟨(some 4), none, .mv (.t 7)⟩])
  .ret))
def a_strings_HasPrefix : AFn := ⟨2, b_strings_HasPrefix, [.t 4], false, false⟩
theorem a_strings_HasPrefix_ok : compF Try.prog Try.f35 [] false false hv = some a_strings_HasPrefix := by kernel_rfl

/-! (*strings.Builder).Len: 38 -/
def b_strings_Builder_Len : AC :=
 (.seq (.reg [⟨(some 2), none, .mv (.c (.v (.int .i64 0)))⟩])
 (.seq (.reg [⟨(some 3), none, .mv (.t 0)⟩, ⟨(some 4), none, .nilck (.t 3)⟩, ⟨(some 5), none, .fad 1 (.t 4)⟩, ⟨(some 6), none, .load none (.t 5)⟩, ⟨(some 7), none, .len (.t 6)⟩, ⟨(some 2), none, .mv (.t 7)⟩])
  .ret))
def a_strings_Builder_Len : AFn := ⟨1, b_strings_Builder_Len, [.t 2], false, false⟩
theorem a_strings_Builder_Len_ok : compF Try.prog Try.f38 [] false false hv = some a_strings_Builder_Len := by kernel_rfl

/-! fugleman/gdata.NewSub: 9 -/
def b_gdata_NewSub : AC :=
 (.seq (.reg [⟨(some 4), none, .mv (.c (.v (.pointer none)))⟩])
 (.seq (.reg [⟨(some 6), none, .mv (.t 0)⟩, ⟨(some 7), none, .call (.c (.fn 27 [])) [(.t 6)]⟩, ⟨(some 5), none, .mv (.t 7)⟩])
  (.seq (.seq (.reg [⟨(some 8), none, .mv (.t 5)⟩, ⟨(some 9), none, .eqp false (.t 8) (.c (.v (.pointer none)))⟩])
    (.cond (.t 9) (.seq (.reg [⟨(some 4), none, .mv (.c (.v (.pointer none)))⟩])
      .ret)
     .skip))
   (.seq (.reg [⟨(some 10), none, .mv (.t 1)⟩, ⟨(some 11), none, .mv (.t 0)⟩, ⟨(some 12), none, .call (.c (.fn 28 [])) [(.c (.v (.string ⟨#[0]⟩))), (.t 11)]⟩, ⟨(some 13), none, .bin .add (.t 10) (.t 12)⟩, ⟨(some 1), none, .mv (.t 13)⟩])
    (.seq (.reg [⟨(some 14), none, .mv (.t 5)⟩, ⟨(some 15), none, .mv (.t 1)⟩, ⟨(some 16), none, .mv (.t 0)⟩, ⟨(some 17), none, .slstr (.t 15) none (some (.t 16))⟩, ⟨(some 18), none, .build [(.v (.string ⟨#[]⟩)), (.v (.int .u16 0)), (.v (.int .u32 0))] [(0, 1, (.t 17))]⟩, ⟨(some 19), none, .build [(.v (.pointer none)), (.v (.string ⟨#[]⟩)), (.v (.int .u16 0)), (.v (.int .u32 0)), (.v (.string ⟨#[]⟩)), (.v (.int .u16 0)), (.v (.int .u32 0)), (.v (.bool false)), (.v (.bool false))] [(0, 1, (.t 14)), (1, 3, (.t 18))]⟩, ⟨(some 20), none, .box (.t 19)⟩, ⟨(some 4), none, .mv (.t 20)⟩])
     .ret)))))
def a_gdata_NewSub : AFn := ⟨2, b_gdata_NewSub, [.t 4], false, false⟩
theorem a_gdata_NewSub_ok : compF Try.prog Try.f9 [] false false hv = some a_gdata_NewSub := by kernel_rfl

/-! (*fugleman/gdata.Pub).any: 29 -/
def b_gdata_Pub_any : AC :=
 (.seq (.reg [⟨(some 2), none, .mv (.c (.v (.bool false)))⟩])
 (.seq (.reg [⟨(some 3), none, .mv (.t 0)⟩, ⟨(some 4), none, .eqp true (.t 3) (.c (.v (.pointer none)))⟩, ⟨(some 5), none, .mv (.t 4)⟩, ⟨(some 6), (some (5, true)), .mv (.t 0)⟩, ⟨(some 7), (some (5, true)), .nilck (.t 6)⟩, ⟨(some 8), (some (5, true)), .fad 1 (.t 7)⟩, ⟨(some 9), (some (5, true)), .fad 1 (.t 8)⟩, ⟨(some 10), (some (5, true)), .fad 1 (.t 9)⟩, ⟨(some 11), (some (5, true)), .load none (.t 10)⟩, ⟨(some 12), (some (5, true)), .bin .gtr (.t 11) (.c (.v (.int .u32 0)))⟩, ⟨(some 13), none, .pick (.t 5) (.t 12) (.c (.v (.bool false)))⟩, ⟨(some 2), none, .mv (.t 13)⟩])
  .ret))
def a_gdata_Pub_any : AFn := ⟨1, b_gdata_Pub_any, [.t 2], false, false⟩
theorem a_gdata_Pub_any_ok : compF Try.prog Try.f29 [] false false hv = some a_gdata_Pub_any := by kernel_rfl

/-! fugleman/blocks.Piece: 40 -/
def b_blocks_Piece : AC :=
 (.seq (.reg [⟨(some 4), none, .mv (.c (.v (.int .i64 0)))⟩, ⟨(some 5), none, .mv (.c (.v (.int .i64 0)))⟩])
 (.seq (.seq (.reg [⟨(some 7), none, .mv (.t 1)⟩, ⟨(some 8), none, .bin .lss (.t 7) (.c (.v (.int .i64 0)))⟩, ⟨(some 9), none, .mv (.t 8)⟩, ⟨(some 10), (some (9, false)), .mv (.t 1)⟩, ⟨(some 11), (some (9, false)), .mv (.t 0)⟩, ⟨(some 12), (some (9, false)), .call (.c (.fn 26 [])) [(.t 11)]⟩, ⟨(some 13), (some (9, false)), .bin .geq (.t 10) (.t 12)⟩, ⟨(some 14), none, .pick (.t 9) (.c (.v (.bool true))) (.t 13)⟩])
   (.cond (.t 14) (.seq (.reg [⟨(some 4), none, .mv (.c (.v (.int .i64 0)))⟩, ⟨(some 5), none, .mv (.c (.v (.int .i64 0)))⟩])
     .ret)
    .skip))
  (.seq (.reg [⟨(some 15), none, .mv (.t 1)⟩, ⟨(some 16), none, .bin .mul (.t 15) (.c (.v (.int .i64 16)))⟩, ⟨(some 6), none, .mv (.t 16)⟩])
   (.seq (.reg [⟨(some 17), none, .mv (.t 6)⟩, ⟨(some 18), none, .mv (.t 0)⟩, ⟨(some 19), none, .mv (.t 6)⟩, ⟨(some 20), none, .bin .sub (.t 18) (.t 19)⟩, ⟨(some 21), none, .min [(.c (.v (.int .i64 16))), (.t 20)]⟩, ⟨(some 4), none, .mv (.t 17)⟩, ⟨(some 5), none, .mv (.t 21)⟩])
    .ret))))
def a_blocks_Piece : AFn := ⟨2, b_blocks_Piece, [.t 4, .t 5], false, false⟩
theorem a_blocks_Piece_ok : compF Try.prog Try.f40 [] false false hv = some a_blocks_Piece := by kernel_rfl

/-! fugleman/blocks.Cut: 30 -/
def b_blocks_Cut : AC :=
 (.seq (.reg [⟨(some 4), none, .mv (.c (.v (.string ⟨#[]⟩)))⟩])
 (.seq (.reg [⟨(some 8), none, .mv (.t 0)⟩, ⟨(some 9), none, .lens (.t 8)⟩, ⟨(some 10), none, .mv (.t 1)⟩, ⟨(some 11), none, .call (.c (.fn 40 [])) [(.t 9), (.t 10)]⟩, ⟨(some 7), none, .mv (.t 11)⟩, ⟨(some 12), none, .ext 0 (.t 7)⟩, ⟨(some 13), none, .ext 1 (.t 7)⟩, ⟨(some 5), none, .mv (.t 12)⟩, ⟨(some 6), none, .mv (.t 13)⟩])
  (.seq (.reg [⟨(some 14), none, .mv (.t 0)⟩, ⟨(some 15), none, .mv (.t 5)⟩, ⟨(some 16), none, .mv (.t 5)⟩, ⟨(some 17), none, .mv (.t 6)⟩, ⟨(some 18), none, .bin .add (.t 16) (.t 17)⟩, ⟨(some 19), none, .slstr (.t 14) (some (.t 15)) (some (.t 18))⟩, ⟨(some 4), none, .mv (.t 19)⟩])
   .ret)))
def a_blocks_Cut : AFn := ⟨2, b_blocks_Cut, [.t 4], false, false⟩
theorem a_blocks_Cut_ok : compF Try.prog Try.f30 [] false false hv = some a_blocks_Cut := by kernel_rfl

/-! (*fugleman/gdata.Pub).Next: 11 -/
def b_gdata_Pub_Next : AC :=
 (.seq (.reg [⟨(some 2), none, .alloc [(.v (.int .i64 0)), (.v (.int .u8 0)), (.v (.int .u8 0)), (.v (.int .u16 0)), (.v (.int .u16 0)), (.v (.int .u16 0)), (.v (.int .u8 0)), (.v (.int .u16 0)), (.v (.int .u16 0)), (.v (.int .u16 0)), (.v (.int .u8 0)), (.v (.int .u16 0)), (.v (.bool false)), (.v (.int .u8 0)), (.v (.int .u16 0)), (.v (.int .u32 0)), (.v (.int .u8 0)), (.v (.int .u8 0)), (.v (.string ⟨#[]⟩))]⟩, ⟨(some 3), none, .mv (.c (.v (.bool false)))⟩])
 (.seq (.seq (.reg [⟨(some 5), none, .mv (.t 0)⟩, ⟨(some 6), none, .call (.c (.fn 29 [])) [(.t 5)]⟩, ⟨(some 7), none, .un .not (.t 6)⟩])
   (.cond (.t 7) (.seq (.reg [⟨(some 8), none, .build [(.v (.int .i64 0)), (.v (.int .u8 0)), (.v (.int .u8 0)), (.v (.int .u16 0)), (.v (.int .u16 0)), (.v (.int .u16 0)), (.v (.int .u8 0)), (.v (.int .u16 0)), (.v (.int .u16 0)), (.v (.int .u16 0)), (.v (.int .u8 0)), (.v (.int .u16 0)), (.v (.bool false)), (.v (.int .u8 0)), (.v (.int .u16 0)), (.v (.int .u32 0)), (.v (.int .u8 0)), (.v (.int .u8 0)), (.v (.string ⟨#[]⟩))] []⟩, ⟨none, none, .store 19 (.t 2) (.t 8)⟩, ⟨(some 3), none, .mv (.c (.v (.bool false)))⟩])
     .ret)
    .skip))
  (.seq (.seq (.reg [⟨(some 9), none, .mv (.t 0)⟩, ⟨(some 10), none, .nilck (.t 9)⟩, ⟨(some 11), none, .fad 8 (.t 10)⟩, ⟨(some 12), none, .load none (.t 11)⟩, ⟨(some 13), none, .bin .eql (.t 12) (.c (.v (.int .i64 0)))⟩])
    (.cond (.t 13) (.regm [(.o, ⟨(some 14), none, .mv (.t 0)⟩), (.o, ⟨(some 15), none, .mv (.t 0)⟩), (.o, ⟨(some 16), none, .mv (.t 0)⟩), (.o, ⟨(some 17), none, .mv (.t 0)⟩), (.o, ⟨(some 18), none, .nilck (.t 17)⟩), (.o, ⟨(some 19), none, .fad 1 (.t 18)⟩), (.o, ⟨(some 20), none, .load (some 3) (.t 19)⟩), (.o, ⟨(some 21), none, .mv (.t 0)⟩), (.o, ⟨(some 22), none, .nilck (.t 21)⟩), (.o, ⟨(some 23), none, .fad 0 (.t 22)⟩), (.o, ⟨(some 24), none, .load none (.t 23)⟩), (.s, ⟨(some 25), none, .call (.c (.fn 26 [])) [(.t 24)]⟩), (.o, ⟨(some 26), none, .nilck (.t 14)⟩), (.o, ⟨(some 27), none, .fad 4 (.t 26)⟩), (.o, ⟨none, none, .store 3 (.t 27) (.t 20)⟩), (.o, ⟨(some 28), none, .nilck (.t 15)⟩), (.o, ⟨(some 29), none, .fad 7 (.t 28)⟩), (.o, ⟨none, none, .store 1 (.t 29) (.c (.v (.int .i64 0)))⟩), (.o, ⟨(some 30), none, .nilck (.t 16)⟩), (.o, ⟨(some 31), none, .fad 8 (.t 30)⟩), (.o, ⟨none, none, .store 1 (.t 31) (.t 25)⟩)])
     .skip))
   (.seq (.regm [(.o, ⟨(some 32), none, .mv (.t 0)⟩), (.o, ⟨(some 33), none, .nilck (.t 32)⟩), (.o, ⟨(some 34), none, .fad 4 (.t 33)⟩), (.o, ⟨(some 35), none, .fad 1 (.t 34)⟩), (.o, ⟨(some 36), none, .load (some 2) (.t 35)⟩), (.o, ⟨(some 37), none, .mv (.t 0)⟩), (.o, ⟨(some 38), none, .nilck (.t 37)⟩), (.o, ⟨(some 39), none, .fad 7 (.t 38)⟩), (.o, ⟨(some 40), none, .load none (.t 39)⟩), (.o, ⟨(some 41), none, .cvi .u8 (.t 40)⟩), (.o, ⟨(some 42), none, .mv (.t 0)⟩), (.o, ⟨(some 43), none, .nilck (.t 42)⟩), (.o, ⟨(some 44), none, .fad 0 (.t 43)⟩), (.o, ⟨(some 45), none, .load none (.t 44)⟩), (.s, ⟨(some 46), none, .call (.c (.fn 26 [])) [(.t 45)]⟩), (.o, ⟨(some 47), none, .cvi .u8 (.t 46)⟩), (.o, ⟨(some 48), none, .mv (.t 0)⟩), (.o, ⟨(some 49), none, .nilck (.t 48)⟩), (.o, ⟨(some 50), none, .fad 4 (.t 49)⟩), (.o, ⟨(some 51), none, .fad 0 (.t 50)⟩), (.o, ⟨(some 52), none, .load none (.t 51)⟩), (.o, ⟨(some 53), none, .mv (.t 0)⟩), (.o, ⟨(some 54), none, .nilck (.t 53)⟩), (.o, ⟨(some 55), none, .fad 7 (.t 54)⟩), (.o, ⟨(some 56), none, .load none (.t 55)⟩), (.s, ⟨(some 57), none, .call (.c (.fn 30 [])) [(.t 52), (.t 56)]⟩), (.o, ⟨(some 58), none, .build [(.v (.int .i64 0)), (.v (.int .u8 0)), (.v (.int .u8 0)), (.v (.int .u16 0)), (.v (.int .u16 0)), (.v (.int .u16 0)), (.v (.int .u8 0)), (.v (.int .u16 0)), (.v (.int .u16 0)), (.v (.int .u16 0)), (.v (.int .u8 0)), (.v (.int .u16 0)), (.v (.bool false)), (.v (.int .u8 0)), (.v (.int .u16 0)), (.v (.int .u32 0)), (.v (.int .u8 0)), (.v (.int .u8 0)), (.v (.string ⟨#[]⟩))] [(0, 1, (.c (.v (.int .i64 4)))), (14, 2, (.t 36)), (16, 1, (.t 41)), (17, 1, (.t 47)), (18, 1, (.t 57))]⟩), (.o, ⟨(some 4), none, .alloc [(.v (.int .i64 0)), (.v (.int .u8 0)), (.v (.int .u8 0)), (.v (.int .u16 0)), (.v (.int .u16 0)), (.v (.int .u16 0)), (.v (.int .u8 0)), (.v (.int .u16 0)), (.v (.int .u16 0)), (.v (.int .u16 0)), (.v (.int .u8 0)), (.v (.int .u16 0)), (.v (.bool false)), (.v (.int .u8 0)), (.v (.int .u16 0)), (.v (.int .u32 0)), (.v (.int .u8 0)), (.v (.int .u8 0)), (.v (.string ⟨#[]⟩))]⟩), (.o, ⟨none, none, .store 19 (.t 4) (.t 58)⟩)])
    (.seq (.reg [⟨(some 59), none, .mv (.t 0)⟩, ⟨(some 60), none, .nilck (.t 59)⟩, ⟨(some 61), none, .fad 7 (.t 60)⟩, ⟨(some 62), none, .load none (.t 61)⟩, ⟨(some 63), none, .bin .add (.t 62) (.c (.v (.int .i64 1)))⟩, ⟨(some 64), none, .nilck (.t 59)⟩, ⟨(some 65), none, .fad 7 (.t 64)⟩, ⟨none, none, .store 1 (.t 65) (.t 63)⟩])
     (.seq (.reg [⟨(some 66), none, .mv (.t 0)⟩, ⟨(some 67), none, .nilck (.t 66)⟩, ⟨(some 68), none, .fad 8 (.t 67)⟩, ⟨(some 69), none, .load none (.t 68)⟩, ⟨(some 70), none, .bin .sub (.t 69) (.c (.v (.int .i64 1)))⟩, ⟨(some 71), none, .nilck (.t 66)⟩, ⟨(some 72), none, .fad 8 (.t 71)⟩, ⟨none, none, .store 1 (.t 72) (.t 70)⟩])
      (.seq (.reg [⟨(some 73), none, .load (some 19) (.t 4)⟩, ⟨none, none, .store 19 (.t 2) (.t 73)⟩, ⟨(some 3), none, .mv (.c (.v (.bool true)))⟩])
       .ret)))))))
def a_gdata_Pub_Next : AFn := ⟨1, b_gdata_Pub_Next, [.cell 2 (some 19), .t 3], false, true⟩
theorem a_gdata_Pub_Next_ok : compF Try.prog Try.f11 [] false true hv = some a_gdata_Pub_Next := by kernel_rfl

/-! (*fugleman/parts.Glue).fits: 41 -/
def b_parts_Glue_fits : AC :=
 (.seq (.reg [⟨(some 3), none, .box (.t 1)⟩, ⟨(some 4), none, .mv (.c (.v (.bool false)))⟩])
 (.seq (.regq [⟨(some 8), none, .mv (.t 0)⟩, ⟨(some 9), none, .nilck (.t 8)⟩, ⟨(some 10), none, .fad 0 (.t 9)⟩, ⟨(some 11), none, .load none (.t 10)⟩, ⟨(some 12), none, .len (.t 11)⟩, ⟨(some 13), none, .fad 16 (.t 3)⟩, ⟨(some 14), none, .load none (.t 13)⟩, ⟨(some 15), none, .cvi .i64 (.t 14)⟩, ⟨(some 16), none, .call (.c (.fn 40 [])) [(.t 12), (.t 15)]⟩, ⟨(some 7), none, .mv (.t 16)⟩, ⟨(some 17), none, .ext 0 (.t 7)⟩, ⟨(some 18), none, .ext 1 (.t 7)⟩, ⟨(some 5), none, .mv (.t 17)⟩, ⟨(some 6), none, .mv (.t 18)⟩])
  (.seq (.regq [⟨(some 19), none, .fad 17 (.t 3)⟩, ⟨(some 20), none, .load none (.t 19)⟩, ⟨(some 21), none, .cvi .i64 (.t 20)⟩, ⟨(some 22), none, .mv (.t 0)⟩, ⟨(some 23), none, .nilck (.t 22)⟩, ⟨(some 24), none, .fad 0 (.t 23)⟩, ⟨(some 25), none, .load none (.t 24)⟩, ⟨(some 26), none, .len (.t 25)⟩, ⟨(some 27), none, .call (.c (.fn 26 [])) [(.t 26)]⟩, ⟨(some 28), none, .bin .eql (.t 21) (.t 27)⟩, ⟨(some 29), none, .mv (.t 28)⟩, ⟨(some 30), (some (29, true)), .mv (.t 6)⟩, ⟨(some 31), (some (29, true)), .bin .gtr (.t 30) (.c (.v (.int .i64 0)))⟩, ⟨(some 32), none, .pick (.t 29) (.t 31) (.c (.v (.bool false)))⟩, ⟨(some 33), none, .mv (.t 32)⟩, ⟨(some 34), (some (33, true)), .fad 18 (.t 3)⟩, ⟨(some 35), (some (33, true)), .load none (.t 34)⟩, ⟨(some 36), (some (33, true)), .lens (.t 35)⟩, ⟨(some 37), (some (33, true)), .mv (.t 6)⟩, ⟨(some 38), (some (33, true)), .bin .eql (.t 36) (.t 37)⟩, ⟨(some 39), none, .pick (.t 33) (.t 38) (.c (.v (.bool false)))⟩, ⟨(some 4), none, .mv (.t 39)⟩])
   .ret)))
def a_parts_Glue_fits : AFn := ⟨2, b_parts_Glue_fits, [.t 4], false, false⟩
theorem a_parts_Glue_fits_ok : compF Try.prog Try.f41 [] false false hv = some a_parts_Glue_fits := by kernel_rfl

/-! cmp.Or[int]: 51 -/
def l_cmp_Or_int_1 : AC :=
 (.seq (.reg [⟨(some 17), none, .mv (.t 3)⟩, ⟨(some 2), none, .mv (.t 17)⟩])
 .ret)
def l_cmp_Or_int_0 : AC :=
 (.seq (.reg [⟨(some 9), none, .bin .lss (.t 8) (.t 7)⟩])
 (.seq (.cond (.t 9) .skip
   (.exit 0))
  (.seq (.block 1 (.seq (.reg [⟨(some 10), none, .ixs 1 (.t 6) (.t 8)⟩, ⟨(some 11), none, .load none (.t 10)⟩, ⟨(some 5), none, .mv (.t 11)⟩])
     (.seq (.reg [⟨(some 12), none, .mv (.t 5)⟩, ⟨(some 13), none, .mv (.t 3)⟩, ⟨(some 14), none, .bin .neq (.t 12) (.t 13)⟩])
      (.cond (.t 14) (.seq (.reg [⟨(some 15), none, .mv (.t 5)⟩, ⟨(some 2), none, .mv (.t 15)⟩])
        .ret)
       .skip))))
   (.reg [⟨(some 16), none, .bin .add (.t 8) (.c (.v (.int .i64 1)))⟩, ⟨(some 8), none, .mv (.t 16)⟩]))))
def b_cmp_Or_int : AC :=
 (.seq (.reg [⟨(some 2), none, .mv (.c (.v (.int .i64 0)))⟩])
 (.seq (.reg [⟨(some 3), none, .mv (.c (.v (.int .i64 0)))⟩])
  (.seq (.seq (.reg [⟨(some 6), none, .mv (.t 0)⟩, ⟨(some 7), none, .len (.t 6)⟩, ⟨(some 8), none, .mv (.c (.v (.int .i64 0)))⟩])
    (.block 0 (.loop [3, 6, 7, 8] l_cmp_Or_int_0)))
   l_cmp_Or_int_1)))
def a_cmp_Or_int : AFn := ⟨1, b_cmp_Or_int, [.t 2], false, false⟩
theorem a_cmp_Or_int_ok : compF Try.prog Try.f51 [[3, 6, 7, 8]] false false hv = some a_cmp_Or_int := by kernel_rfl

/-! cmp.isNaN[uint16]: 56 -/
def b_cmp_isNaN_uint16 : AC :=
 (.seq (.reg [⟨(some 2), none, .mv (.c (.v (.bool false)))⟩])
 (.seq (.reg [⟨(some 3), none, .mv (.t 0)⟩, ⟨(some 4), none, .mv (.t 0)⟩, ⟨(some 5), none, .bin .neq (.t 3) (.t 4)⟩, ⟨(some 2), none, .mv (.t 5)⟩])
  .ret))
def a_cmp_isNaN_uint16 : AFn := ⟨1, b_cmp_isNaN_uint16, [.t 2], false, false⟩
theorem a_cmp_isNaN_uint16_ok : compF Try.prog Try.f56 [] false false hv = some a_cmp_isNaN_uint16 := by kernel_rfl

/-! cmp.Compare[uint16]: 52 -/
def b_cmp_Compare_uint16 : AC :=
 (.seq (.reg [⟨(some 4), none, .mv (.c (.v (.int .i64 0)))⟩])
 (.seq (.reg [⟨(some 7), none, .mv (.t 0)⟩, ⟨(some 8), none, .call (.c (.fn 56 [])) [(.t 7)]⟩, ⟨(some 5), none, .mv (.t 8)⟩])
  (.seq (.reg [⟨(some 9), none, .mv (.t 1)⟩, ⟨(some 10), none, .call (.c (.fn 56 [])) [(.t 9)]⟩, ⟨(some 6), none, .mv (.t 10)⟩])
   (.seq (.seq (.reg [⟨(some 11), none, .mv (.t 5)⟩])
     (.cond (.t 11) (.seq (.seq (.reg [⟨(some 12), none, .mv (.t 6)⟩])
        (.cond (.t 12) (.seq (.reg [⟨(some 4), none, .mv (.c (.v (.int .i64 0)))⟩])
          .ret)
         .skip))
       (.seq (.reg [⟨(some 4), none, .mv (.c (.v (.int .i64 (-1))))⟩])
        .ret))
      .skip))
    (.seq (.seq (.reg [⟨(some 13), none, .mv (.t 6)⟩])
      (.cond (.t 13) (.seq (.reg [⟨(some 4), none, .mv (.c (.v (.int .i64 1)))⟩])
        .ret)
       .skip))
     (.seq (.seq (.reg [⟨(some 14), none, .mv (.t 0)⟩, ⟨(some 15), none, .mv (.t 1)⟩, ⟨(some 16), none, .bin .lss (.t 14) (.t 15)⟩])
       (.cond (.t 16) (.seq (.reg [⟨(some 4), none, .mv (.c (.v (.int .i64 (-1))))⟩])
         .ret)
        .skip))
      (.seq (.seq (.reg [⟨(some 17), none, .mv (.t 0)⟩, ⟨(some 18), none, .mv (.t 1)⟩, ⟨(some 19), none, .bin .gtr (.t 17) (.t 18)⟩])
        (.cond (.t 19) (.seq (.reg [⟨(some 4), none, .mv (.c (.v (.int .i64 1)))⟩])
          .ret)
         .skip))
       (.seq (.reg [⟨(some 4), none, .mv (.c (.v (.int .i64 0)))⟩])
        .ret))))))))
def a_cmp_Compare_uint16 : AFn := ⟨2, b_cmp_Compare_uint16, [.t 4], false, false⟩
theorem a_cmp_Compare_uint16_ok : compF Try.prog Try.f52 [] false false hv = some a_cmp_Compare_uint16 := by kernel_rfl

/-! cmp.isNaN[uint32]: 57 -/
def b_cmp_isNaN_uint32 : AC :=
 (.seq (.reg [⟨(some 2), none, .mv (.c (.v (.bool false)))⟩])
 (.seq (.reg [⟨(some 3), none, .mv (.t 0)⟩, ⟨(some 4), none, .mv (.t 0)⟩, ⟨(some 5), none, .bin .neq (.t 3) (.t 4)⟩, ⟨(some 2), none, .mv (.t 5)⟩])
  .ret))
def a_cmp_isNaN_uint32 : AFn := ⟨1, b_cmp_isNaN_uint32, [.t 2], false, false⟩
theorem a_cmp_isNaN_uint32_ok : compF Try.prog Try.f57 [] false false hv = some a_cmp_isNaN_uint32 := by kernel_rfl

/-! cmp.Compare[uint32]: 53 -/
def b_cmp_Compare_uint32 : AC :=
 (.seq (.reg [⟨(some 4), none, .mv (.c (.v (.int .i64 0)))⟩])
 (.seq (.reg [⟨(some 7), none, .mv (.t 0)⟩, ⟨(some 8), none, .call (.c (.fn 57 [])) [(.t 7)]⟩, ⟨(some 5), none, .mv (.t 8)⟩])
  (.seq (.reg [⟨(some 9), none, .mv (.t 1)⟩, ⟨(some 10), none, .call (.c (.fn 57 [])) [(.t 9)]⟩, ⟨(some 6), none, .mv (.t 10)⟩])
   (.seq (.seq (.reg [⟨(some 11), none, .mv (.t 5)⟩])
     (.cond (.t 11) (.seq (.seq (.reg [⟨(some 12), none, .mv (.t 6)⟩])
        (.cond (.t 12) (.seq (.reg [⟨(some 4), none, .mv (.c (.v (.int .i64 0)))⟩])
          .ret)
         .skip))
       (.seq (.reg [⟨(some 4), none, .mv (.c (.v (.int .i64 (-1))))⟩])
        .ret))
      .skip))
    (.seq (.seq (.reg [⟨(some 13), none, .mv (.t 6)⟩])
      (.cond (.t 13) (.seq (.reg [⟨(some 4), none, .mv (.c (.v (.int .i64 1)))⟩])
        .ret)
       .skip))
     (.seq (.seq (.reg [⟨(some 14), none, .mv (.t 0)⟩, ⟨(some 15), none, .mv (.t 1)⟩, ⟨(some 16), none, .bin .lss (.t 14) (.t 15)⟩])
       (.cond (.t 16) (.seq (.reg [⟨(some 4), none, .mv (.c (.v (.int .i64 (-1))))⟩])
         .ret)
        .skip))
      (.seq (.seq (.reg [⟨(some 17), none, .mv (.t 0)⟩, ⟨(some 18), none, .mv (.t 1)⟩, ⟨(some 19), none, .bin .gtr (.t 17) (.t 18)⟩])
        (.cond (.t 19) (.seq (.reg [⟨(some 4), none, .mv (.c (.v (.int .i64 1)))⟩])
          .ret)
         .skip))
       (.seq (.reg [⟨(some 4), none, .mv (.c (.v (.int .i64 0)))⟩])
        .ret))))))))
def a_cmp_Compare_uint32 : AFn := ⟨2, b_cmp_Compare_uint32, [.t 4], false, false⟩
theorem a_cmp_Compare_uint32_ok : compF Try.prog Try.f53 [] false false hv = some a_cmp_Compare_uint32 := by kernel_rfl

/-! fugleman/parts.Compare: 42 -/
def b_parts_Compare : AC :=
 (.seq (.reg [⟨(some 2), none, .box (.t 0)⟩, ⟨(some 3), none, .box (.t 1)⟩, ⟨(some 4), none, .mv (.c (.v (.int .i64 0)))⟩])
 (.seq (.regt 9 [⟨(some 5), none, .fad 0 (.t 2)⟩, ⟨(some 6), none, .load none (.t 5)⟩, ⟨(some 7), none, .fad 0 (.t 3)⟩, ⟨(some 8), none, .load none (.t 7)⟩, ⟨(some 9), none, .call (.c (.fn 52 [])) [(.t 6), (.t 8)]⟩, ⟨(some 10), none, .fad 1 (.t 2)⟩, ⟨(some 11), none, .load none (.t 10)⟩, ⟨(some 12), none, .fad 1 (.t 3)⟩, ⟨(some 13), none, .load none (.t 12)⟩, ⟨(some 14), none, .call (.c (.fn 53 [])) [(.t 11), (.t 13)]⟩, ⟨(some 15), none, .row 1 2 [(.v (.int .i64 0))] [(0, 1, (.t 9)), (1, 1, (.t 14))]⟩, ⟨(some 16), none, .call (.c (.fn 51 [])) [(.t 15)]⟩, ⟨(some 4), none, .mv (.t 16)⟩])
  .ret))
def a_parts_Compare : AFn := ⟨2, b_parts_Compare, [.t 4], false, false⟩
theorem a_parts_Compare_ok : compF Try.prog Try.f42 [] false false hv = some a_parts_Compare := by kernel_rfl

/-! (*fugleman/parts.Glue).begin: 43 -/
def b_parts_Glue_begin : AC :=
 (.seq (.reg [⟨(some 3), none, .box (.t 1)⟩])
 (.reg [⟨(some 4), none, .mv (.t 0)⟩, ⟨(some 5), none, .mv (.t 0)⟩, ⟨(some 6), none, .mv (.t 0)⟩, ⟨(some 7), none, .mv (.t 0)⟩, ⟨(some 8), none, .load (some 2) (.t 3)⟩, ⟨(some 9), none, .nilck (.t 4)⟩, ⟨(some 10), none, .fad 1 (.t 9)⟩, ⟨none, none, .store 2 (.t 10) (.t 8)⟩, ⟨(some 11), none, .nilck (.t 5)⟩, ⟨(some 12), none, .fad 3 (.t 11)⟩, ⟨none, none, .store 1 (.t 12) (.c (.v (.bool true)))⟩, ⟨(some 13), none, .nilck (.t 6)⟩, ⟨(some 14), none, .fad 4 (.t 13)⟩, ⟨none, none, .store 1 (.t 14) (.c (.v (.int .u8 0)))⟩, ⟨(some 15), none, .nilck (.t 7)⟩, ⟨(some 16), none, .fad 5 (.t 15)⟩, ⟨none, none, .store 1 (.t 16) (.c (.v (.int .i64 0)))⟩]))
def a_parts_Glue_begin : AFn := ⟨2, b_parts_Glue_begin, [], false, true⟩
theorem a_parts_Glue_begin_ok : compF Try.prog Try.f43 [] false true hv = some a_parts_Glue_begin := by kernel_rfl

/-! (*fugleman/parts.Glue).Put: 31 -/
def b_parts_Glue_Put : AC :=
 (.seq (.reg [⟨(some 3), none, .box (.t 1)⟩, ⟨(some 4), none, .mv (.c (.v (.string ⟨#[]⟩)))⟩, ⟨(some 5), none, .mv (.c (.v (.bool false)))⟩, ⟨(some 6), none, .mv (.c (.v (.int .i64 0)))⟩])
 (.seq (.block 0 (.seq (.reg [⟨(some 11), none, .mv (.t 0)⟩, ⟨(some 12), none, .eqp false (.t 11) (.c (.v (.pointer none)))⟩, ⟨(some 10), none, .mv (.t 12)⟩])
    (.cond (.t 10) (.seq (.reg [⟨(some 4), none, .mv (.c (.v (.string ⟨#[]⟩)))⟩, ⟨(some 5), none, .mv (.c (.v (.bool false)))⟩, ⟨(some 6), none, .mv (.c (.v (.int .i64 1)))⟩])
      .ret)
     (.seq (.reg [⟨(some 14), none, .fad 0 (.t 3)⟩, ⟨(some 15), none, .load none (.t 14)⟩, ⟨(some 16), none, .bin .neq (.t 15) (.c (.v (.int .i64 4)))⟩, ⟨(some 13), none, .mv (.t 16)⟩])
      (.cond (.t 13) (.seq (.reg [⟨(some 4), none, .mv (.c (.v (.string ⟨#[]⟩)))⟩, ⟨(some 5), none, .mv (.c (.v (.bool false)))⟩, ⟨(some 6), none, .mv (.c (.v (.int .i64 11)))⟩])
        .ret)
       (.seq (.reg [⟨(some 18), none, .mv (.t 0)⟩, ⟨(some 19), none, .load (some 19) (.t 3)⟩, ⟨(some 20), none, .call (.c (.fn 41 [])) [(.t 18), (.t 19)]⟩, ⟨(some 21), none, .un .not (.t 20)⟩, ⟨(some 17), none, .mv (.t 21)⟩])
        (.cond (.t 17) (.seq (.reg [⟨(some 4), none, .mv (.c (.v (.string ⟨#[]⟩)))⟩, ⟨(some 5), none, .mv (.c (.v (.bool false)))⟩, ⟨(some 6), none, .mv (.c (.v (.int .i64 3)))⟩])
          .ret)
         .skip)))))))
  (.seq (.regq [⟨(some 22), none, .fad 14 (.t 3)⟩, ⟨(some 23), none, .load (some 2) (.t 22)⟩, ⟨(some 24), none, .mv (.t 0)⟩, ⟨(some 25), none, .nilck (.t 24)⟩, ⟨(some 26), none, .fad 1 (.t 25)⟩, ⟨(some 27), none, .load (some 2) (.t 26)⟩, ⟨(some 28), none, .call (.c (.fn 42 [])) [(.t 23), (.t 27)]⟩, ⟨(some 7), none, .mv (.t 28)⟩])
   (.seq (.seq (.reg [⟨(some 29), none, .mv (.t 0)⟩, ⟨(some 30), none, .nilck (.t 29)⟩, ⟨(some 31), none, .fad 3 (.t 30)⟩, ⟨(some 32), none, .load none (.t 31)⟩, ⟨(some 33), none, .mv (.t 32)⟩, ⟨(some 34), (some (33, true)), .mv (.t 7)⟩, ⟨(some 35), (some (33, true)), .bin .lss (.t 34) (.c (.v (.int .i64 0)))⟩, ⟨(some 36), none, .pick (.t 33) (.t 35) (.c (.v (.bool false)))⟩])
     (.cond (.t 36) (.seq (.reg [⟨(some 4), none, .mv (.c (.v (.string ⟨#[]⟩)))⟩, ⟨(some 5), none, .mv (.c (.v (.bool false)))⟩, ⟨(some 6), none, .mv (.c (.v (.int .i64 1)))⟩])
       .ret)
      .skip))
    (.seq (.seq (.reg [⟨(some 37), none, .mv (.t 0)⟩, ⟨(some 38), none, .nilck (.t 37)⟩, ⟨(some 39), none, .fad 3 (.t 38)⟩, ⟨(some 40), none, .load none (.t 39)⟩, ⟨(some 41), none, .un .not (.t 40)⟩, ⟨(some 42), none, .mv (.t 41)⟩, ⟨(some 43), (some (42, false)), .mv (.t 7)⟩, ⟨(some 44), (some (42, false)), .bin .gtr (.t 43) (.c (.v (.int .i64 0)))⟩, ⟨(some 45), none, .pick (.t 42) (.c (.v (.bool true))) (.t 44)⟩])
      (.cond (.t 45) (.reg [⟨(some 46), none, .mv (.t 0)⟩, ⟨(some 47), none, .fad 14 (.t 3)⟩, ⟨(some 48), none, .load (some 2) (.t 47)⟩, ⟨(some 49), none, .call (.c (.fn 43 [])) [(.t 46), (.t 48)]⟩])
       .skip))
     (.seq (.seq (.regq [⟨(some 50), none, .mv (.t 0)⟩, ⟨(some 51), none, .nilck (.t 50)⟩, ⟨(some 52), none, .fad 4 (.t 51)⟩, ⟨(some 53), none, .load none (.t 52)⟩, ⟨(some 54), none, .fad 16 (.t 3)⟩, ⟨(some 55), none, .load none (.t 54)⟩, ⟨(some 56), none, .bin .shr (.t 53) (.t 55)⟩, ⟨(some 57), none, .bin .and (.t 56) (.c (.v (.int .u8 1)))⟩, ⟨(some 58), none, .bin .eql (.t 57) (.c (.v (.int .u8 1)))⟩])
       (.cond (.t 58) (.seq (.reg [⟨(some 4), none, .mv (.c (.v (.string ⟨#[]⟩)))⟩, ⟨(some 5), none, .mv (.c (.v (.bool false)))⟩, ⟨(some 6), none, .mv (.c (.v (.int .i64 14)))⟩])
         .ret)
        .skip))
      (.seq (.regq [⟨(some 60), none, .mv (.t 0)⟩, ⟨(some 61), none, .nilck (.t 60)⟩, ⟨(some 62), none, .fad 0 (.t 61)⟩, ⟨(some 63), none, .load none (.t 62)⟩, ⟨(some 64), none, .len (.t 63)⟩, ⟨(some 65), none, .fad 16 (.t 3)⟩, ⟨(some 66), none, .load none (.t 65)⟩, ⟨(some 67), none, .cvi .i64 (.t 66)⟩, ⟨(some 68), none, .call (.c (.fn 40 [])) [(.t 64), (.t 67)]⟩, ⟨(some 59), none, .mv (.t 68)⟩, ⟨(some 69), none, .ext 0 (.t 59)⟩, ⟨(some 70), none, .ext 1 (.t 59)⟩, ⟨(some 8), none, .mv (.t 69)⟩, ⟨(some 9), none, .mv (.t 70)⟩])
       (.seq (.regt 8 [⟨(some 71), none, .mv (.t 0)⟩, ⟨(some 72), none, .nilck (.t 71)⟩, ⟨(some 73), none, .fad 0 (.t 72)⟩, ⟨(some 74), none, .load none (.t 73)⟩, ⟨(some 75), none, .mv (.t 8)⟩, ⟨(some 76), none, .sls 1 (.t 74) (some (.t 75)) none none⟩, ⟨(some 77), none, .fad 18 (.t 3)⟩, ⟨(some 78), none, .load none (.t 77)⟩, ⟨(some 79), none, .cpy 1 (.t 76) (.t 78)⟩])
        (.seq (.regt 7 [⟨(some 80), none, .mv (.t 0)⟩, ⟨(some 81), none, .nilck (.t 80)⟩, ⟨(some 82), none, .fad 4 (.t 81)⟩, ⟨(some 83), none, .load none (.t 82)⟩, ⟨(some 84), none, .fad 16 (.t 3)⟩, ⟨(some 85), none, .load none (.t 84)⟩, ⟨(some 86), none, .bin .shl (.c (.v (.int .u8 1))) (.t 85)⟩, ⟨(some 87), none, .bin .or (.t 83) (.t 86)⟩, ⟨(some 88), none, .nilck (.t 80)⟩, ⟨(some 89), none, .fad 4 (.t 88)⟩, ⟨none, none, .store 1 (.t 89) (.t 87)⟩])
         (.seq (.seq (.reg [⟨(some 90), none, .mv (.t 0)⟩, ⟨(some 91), none, .nilck (.t 90)⟩, ⟨(some 92), none, .fad 5 (.t 91)⟩, ⟨(some 93), none, .load none (.t 92)⟩, ⟨(some 94), none, .bin .add (.t 93) (.c (.v (.int .i64 1)))⟩, ⟨(some 95), none, .nilck (.t 90)⟩, ⟨(some 96), none, .fad 5 (.t 95)⟩, ⟨none, none, .store 1 (.t 96) (.t 94)⟩])
           (.seq (.regq [⟨(some 97), none, .mv (.t 0)⟩, ⟨(some 98), none, .nilck (.t 97)⟩, ⟨(some 99), none, .fad 5 (.t 98)⟩, ⟨(some 100), none, .load none (.t 99)⟩, ⟨(some 101), none, .fad 17 (.t 3)⟩, ⟨(some 102), none, .load none (.t 101)⟩, ⟨(some 103), none, .cvi .i64 (.t 102)⟩, ⟨(some 104), none, .bin .lss (.t 100) (.t 103)⟩])
            (.cond (.t 104) (.seq (.reg [⟨(some 4), none, .mv (.c (.v (.string ⟨#[]⟩)))⟩, ⟨(some 5), none, .mv (.c (.v (.bool false)))⟩, ⟨(some 6), none, .mv (.c (.v (.int .i64 0)))⟩])
              .ret)
             .skip)))
          (.seq (.reg [⟨(some 105), none, .mv (.t 0)⟩, ⟨(some 106), none, .nilck (.t 105)⟩, ⟨(some 107), none, .fad 0 (.t 106)⟩, ⟨(some 108), none, .load none (.t 107)⟩, ⟨(some 109), none, .cvbs (.t 108)⟩, ⟨(some 4), none, .mv (.t 109)⟩, ⟨(some 5), none, .mv (.c (.v (.bool true)))⟩, ⟨(some 6), none, .mv (.c (.v (.int .i64 0)))⟩])
           .ret)))))))))))
def a_parts_Glue_Put : AFn := ⟨2, b_parts_Glue_Put, [.t 4, .t 5, .t 6], false, true⟩
theorem a_parts_Glue_Put_ok : compF Try.prog Try.f31 [] false true hv = some a_parts_Glue_Put := by kernel_rfl

/-! (*fugleman/gdata.Sub).Put: 12 -/
def b_gdata_Sub_Put : AC :=
 (.seq (.reg [⟨(some 3), none, .box (.t 1)⟩, ⟨(some 4), none, .mv (.c (.v (.bool false)))⟩, ⟨(some 5), none, .mv (.c (.v (.int .i64 0)))⟩])
 (.seq (.seq (.reg [⟨(some 9), none, .mv (.t 0)⟩, ⟨(some 10), none, .eqp false (.t 9) (.c (.v (.pointer none)))⟩])
   (.cond (.t 10) (.seq (.reg [⟨(some 4), none, .mv (.c (.v (.bool false)))⟩, ⟨(some 5), none, .mv (.c (.v (.int .i64 1)))⟩])
     .ret)
    .skip))
  (.seq (.regm [(.o, ⟨(some 12), none, .mv (.t 0)⟩), (.o, ⟨(some 13), none, .nilck (.t 12)⟩), (.o, ⟨(some 14), none, .fad 0 (.t 13)⟩), (.o, ⟨(some 15), none, .load none (.t 14)⟩), (.o, ⟨(some 16), none, .load (some 19) (.t 3)⟩), (.o, ⟨(some 17), none, .call (.c (.fn 31 [])) [(.t 15), (.t 16)]⟩), (.o, ⟨(some 11), none, .mv (.t 17)⟩), (.o, ⟨(some 18), none, .ext 0 (.t 11)⟩), (.o, ⟨(some 19), none, .ext 1 (.t 11)⟩), (.o, ⟨(some 20), none, .ext 2 (.t 11)⟩), (.o, ⟨(some 6), none, .mv (.t 18)⟩), (.o, ⟨(some 7), none, .mv (.t 19)⟩), (.o, ⟨(some 8), none, .mv (.t 20)⟩)])
   (.seq (.reg [⟨(some 21), none, .mv (.t 0)⟩, ⟨(some 22), none, .mv (.t 0)⟩, ⟨(some 23), none, .nilck (.t 22)⟩, ⟨(some 24), none, .fad 8 (.t 23)⟩, ⟨(some 25), none, .load none (.t 24)⟩, ⟨(some 26), none, .mv (.t 25)⟩, ⟨(some 27), (some (26, false)), .mv (.t 8)⟩, ⟨(some 28), (some (26, false)), .bin .eql (.t 27) (.c (.v (.int .i64 3)))⟩, ⟨(some 29), none, .pick (.t 26) (.c (.v (.bool true))) (.t 28)⟩, ⟨(some 30), none, .nilck (.t 21)⟩, ⟨(some 31), none, .fad 8 (.t 30)⟩, ⟨none, none, .store 1 (.t 31) (.t 29)⟩])
    (.seq (.seq (.reg [⟨(some 32), none, .mv (.t 7)⟩])
      (.cond (.t 32) (.reg [⟨(some 33), none, .mv (.t 0)⟩, ⟨(some 34), none, .mv (.t 0)⟩, ⟨(some 35), none, .mv (.t 6)⟩, ⟨(some 36), none, .fad 14 (.t 3)⟩, ⟨(some 37), none, .load (some 2) (.t 36)⟩, ⟨(some 38), none, .build [(.v (.string ⟨#[]⟩)), (.v (.int .u16 0)), (.v (.int .u32 0))] [(0, 1, (.t 35)), (1, 2, (.t 37))]⟩, ⟨(some 39), none, .nilck (.t 33)⟩, ⟨(some 40), none, .fad 4 (.t 39)⟩, ⟨none, none, .store 3 (.t 40) (.t 38)⟩, ⟨(some 41), none, .nilck (.t 34)⟩, ⟨(some 42), none, .fad 7 (.t 41)⟩, ⟨none, none, .store 1 (.t 42) (.c (.v (.bool true)))⟩])
       .skip))
     (.seq (.reg [⟨(some 43), none, .mv (.t 7)⟩, ⟨(some 44), none, .mv (.t 8)⟩, ⟨(some 4), none, .mv (.t 43)⟩, ⟨(some 5), none, .mv (.t 44)⟩])
      .ret))))))
def a_gdata_Sub_Put : AFn := ⟨2, b_gdata_Sub_Put, [.t 4, .t 5], false, true⟩
theorem a_gdata_Sub_Put_ok : compF Try.prog Try.f12 [] false true hv = some a_gdata_Sub_Put := by kernel_rfl

/-! (*fugleman/gdata.Pub).Commit: 13 -/
def b_gdata_Pub_Commit : AC :=
 (.seq (.reg [⟨(some 4), none, .mv (.c (.v (.int .i64 0)))⟩])
 (.seq (.block 0 (.seq (.reg [⟨(some 6), none, .mv (.t 0)⟩, ⟨(some 7), none, .eqp false (.t 6) (.c (.v (.pointer none)))⟩, ⟨(some 5), none, .mv (.t 7)⟩])
    (.cond (.t 5) (.seq (.reg [⟨(some 4), none, .mv (.c (.v (.int .i64 1)))⟩])
      .ret)
     (.seq (.reg [⟨(some 9), none, .mv (.t 1)⟩, ⟨(some 10), none, .lens (.t 9)⟩, ⟨(some 11), none, .mv (.t 0)⟩, ⟨(some 12), none, .nilck (.t 11)⟩, ⟨(some 13), none, .fad 0 (.t 12)⟩, ⟨(some 14), none, .load none (.t 13)⟩, ⟨(some 15), none, .bin .neq (.t 10) (.t 14)⟩, ⟨(some 8), none, .mv (.t 15)⟩])
      (.cond (.t 8) (.seq (.reg [⟨(some 4), none, .mv (.c (.v (.int .i64 10)))⟩])
        .ret)
       (.seq (.reg [⟨(some 17), none, .mv (.t 0)⟩, ⟨(some 18), none, .nilck (.t 17)⟩, ⟨(some 19), none, .fad 1 (.t 18)⟩, ⟨(some 20), none, .fad 1 (.t 19)⟩, ⟨(some 21), none, .fad 1 (.t 20)⟩, ⟨(some 22), none, .load none (.t 21)⟩, ⟨(some 23), none, .bin .eql (.t 22) (.c (.v (.int .u32 4294967295)))⟩, ⟨(some 16), none, .mv (.t 23)⟩])
        (.cond (.t 16) (.seq (.reg [⟨(some 4), none, .mv (.c (.v (.int .i64 13)))⟩])
          .ret)
         .skip)))))))
  (.seq (.reg [⟨(some 24), none, .mv (.t 0)⟩, ⟨(some 25), none, .mv (.t 1)⟩, ⟨(some 26), none, .nilck (.t 24)⟩, ⟨(some 27), none, .fad 1 (.t 26)⟩, ⟨(some 28), none, .fad 0 (.t 27)⟩, ⟨none, none, .store 1 (.t 28) (.t 25)⟩])
   (.seq (.reg [⟨(some 29), none, .mv (.t 0)⟩, ⟨(some 30), none, .nilck (.t 29)⟩, ⟨(some 31), none, .fad 1 (.t 30)⟩, ⟨(some 32), none, .fad 1 (.t 31)⟩, ⟨(some 33), none, .fad 1 (.t 32)⟩, ⟨(some 34), none, .load none (.t 33)⟩, ⟨(some 35), none, .bin .add (.t 34) (.c (.v (.int .u32 1)))⟩, ⟨(some 36), none, .nilck (.t 29)⟩, ⟨(some 37), none, .fad 1 (.t 36)⟩, ⟨(some 38), none, .fad 1 (.t 37)⟩, ⟨(some 39), none, .fad 1 (.t 38)⟩, ⟨none, none, .store 1 (.t 39) (.t 35)⟩])
    (.seq (.reg [⟨(some 4), none, .mv (.c (.v (.int .i64 0)))⟩])
     .ret)))))
def a_gdata_Pub_Commit : AFn := ⟨2, b_gdata_Pub_Commit, [.t 4], false, true⟩
theorem a_gdata_Pub_Commit_ok : compF Try.prog Try.f13 [] false true hv = some a_gdata_Pub_Commit := by kernel_rfl

/-! (*fugleman/gdata.Sub).Latch: 15 -/
def b_gdata_Sub_Latch : AC :=
 (.seq (.reg [⟨(some 2), none, .mv (.c (.v (.bool false)))⟩])
 (.seq (.seq (.reg [⟨(some 3), none, .mv (.t 0)⟩, ⟨(some 4), none, .eqp false (.t 3) (.c (.v (.pointer none)))⟩, ⟨(some 5), none, .mv (.t 4)⟩, ⟨(some 6), (some (5, false)), .mv (.t 0)⟩, ⟨(some 7), (some (5, false)), .nilck (.t 6)⟩, ⟨(some 8), (some (5, false)), .fad 7 (.t 7)⟩, ⟨(some 9), (some (5, false)), .load none (.t 8)⟩, ⟨(some 10), (some (5, false)), .un .not (.t 9)⟩, ⟨(some 11), none, .pick (.t 5) (.c (.v (.bool true))) (.t 10)⟩])
   (.cond (.t 11) (.seq (.reg [⟨(some 2), none, .mv (.c (.v (.bool false)))⟩])
     .ret)
    .skip))
  (.seq (.reg [⟨(some 12), none, .mv (.t 0)⟩, ⟨(some 13), none, .mv (.t 0)⟩, ⟨(some 14), none, .mv (.t 0)⟩, ⟨(some 15), none, .mv (.t 0)⟩, ⟨(some 16), none, .nilck (.t 15)⟩, ⟨(some 17), none, .fad 4 (.t 16)⟩, ⟨(some 18), none, .load (some 3) (.t 17)⟩, ⟨(some 19), none, .build [(.v (.string ⟨#[]⟩)), (.v (.int .u16 0)), (.v (.int .u32 0))] []⟩, ⟨(some 20), none, .nilck (.t 12)⟩, ⟨(some 21), none, .fad 1 (.t 20)⟩, ⟨none, none, .store 3 (.t 21) (.t 18)⟩, ⟨(some 22), none, .nilck (.t 13)⟩, ⟨(some 23), none, .fad 4 (.t 22)⟩, ⟨none, none, .store 3 (.t 23) (.t 19)⟩, ⟨(some 24), none, .nilck (.t 14)⟩, ⟨(some 25), none, .fad 7 (.t 24)⟩, ⟨none, none, .store 1 (.t 25) (.c (.v (.bool false)))⟩])
   (.seq (.reg [⟨(some 2), none, .mv (.c (.v (.bool true)))⟩])
    .ret))))
def a_gdata_Sub_Latch : AFn := ⟨1, b_gdata_Sub_Latch, [.t 2], false, true⟩
theorem a_gdata_Sub_Latch_ok : compF Try.prog Try.f15 [] false true hv = some a_gdata_Sub_Latch := by kernel_rfl

/-! (*fugleman/gdata.Sub).Front: 16 -/
def b_gdata_Sub_Front : AC :=
 (.seq (.reg [⟨(some 2), none, .mv (.c (.v (.string ⟨#[]⟩)))⟩, ⟨(some 3), none, .alloc [(.v (.int .u16 0)), (.v (.int .u32 0))]⟩])
 (.seq (.seq (.reg [⟨(some 4), none, .mv (.t 0)⟩, ⟨(some 5), none, .eqp false (.t 4) (.c (.v (.pointer none)))⟩])
   (.cond (.t 5) (.seq (.reg [⟨(some 6), none, .build [(.v (.int .u16 0)), (.v (.int .u32 0))] []⟩, ⟨(some 2), none, .mv (.c (.v (.string ⟨#[]⟩)))⟩, ⟨none, none, .store 2 (.t 3) (.t 6)⟩])
     .ret)
    .skip))
  (.seq (.regt 11 [⟨(some 7), none, .mv (.t 0)⟩, ⟨(some 8), none, .nilck (.t 7)⟩, ⟨(some 9), none, .fad 1 (.t 8)⟩, ⟨(some 10), none, .fad 0 (.t 9)⟩, ⟨(some 11), none, .load none (.t 10)⟩, ⟨(some 12), none, .mv (.t 0)⟩, ⟨(some 13), none, .nilck (.t 12)⟩, ⟨(some 14), none, .fad 1 (.t 13)⟩, ⟨(some 15), none, .fad 1 (.t 14)⟩, ⟨(some 16), none, .load (some 2) (.t 15)⟩, ⟨(some 2), none, .mv (.t 11)⟩, ⟨none, none, .store 2 (.t 3) (.t 16)⟩])
   .ret)))
def a_gdata_Sub_Front : AFn := ⟨1, b_gdata_Sub_Front, [.t 2, .cell 3 (some 2)], false, false⟩
theorem a_gdata_Sub_Front_ok : compF Try.prog Try.f16 [] false false hv = some a_gdata_Sub_Front := by kernel_rfl

/-! fugleman/fuglemanlaw18.awake: 7 -/
def b_fuglemanlaw18_awake : AC :=
 (.seq (.reg [⟨(some 0), none, .mv (.c (.v (.bool false)))⟩])
 (.seq (.reg [⟨(some 13), none, .call (.c (.fn 8 [])) [(.c (.v (.int .i64 2))), (.c (.v (.int .u16 5)))]⟩, ⟨(some 14), none, .call (.c (.fn 9 [])) [(.c (.v (.int .i64 2))), (.c (.v (.string ⟨#[120, 121]⟩)))]⟩, ⟨(some 1), none, .mv (.t 13)⟩, ⟨(some 2), none, .mv (.t 14)⟩])
  (.seq (.reg [⟨(some 15), none, .mv (.t 1)⟩, ⟨(some 16), none, .call (.c (.fn 13 [])) [(.t 15), (.c (.v (.string ⟨#[97, 98]⟩)))]⟩, ⟨(some 3), none, .mv (.t 16)⟩])
   (.seq (.reg [⟨(some 18), none, .mv (.t 1)⟩, ⟨(some 19), none, .call (.c (.fn 11 [])) [(.t 18)]⟩, ⟨(some 17), none, .mv (.t 19)⟩, ⟨(some 20), none, .ext 0 (.t 17)⟩, ⟨(some 21), none, .ext 1 (.t 17)⟩, ⟨(some 4), none, .alloc [(.v (.int .i64 0)), (.v (.int .u8 0)), (.v (.int .u8 0)), (.v (.int .u16 0)), (.v (.int .u16 0)), (.v (.int .u16 0)), (.v (.int .u8 0)), (.v (.int .u16 0)), (.v (.int .u16 0)), (.v (.int .u16 0)), (.v (.int .u8 0)), (.v (.int .u16 0)), (.v (.bool false)), (.v (.int .u8 0)), (.v (.int .u16 0)), (.v (.int .u32 0)), (.v (.int .u8 0)), (.v (.int .u8 0)), (.v (.string ⟨#[]⟩))]⟩, ⟨none, none, .store 19 (.t 4) (.t 20)⟩, ⟨(some 5), none, .mv (.t 21)⟩])
    (.seq (.reg [⟨(some 23), none, .mv (.t 2)⟩, ⟨(some 24), none, .load (some 19) (.t 4)⟩, ⟨(some 25), none, .call (.c (.fn 12 [])) [(.t 23), (.t 24)]⟩, ⟨(some 22), none, .mv (.t 25)⟩, ⟨(some 26), none, .ext 0 (.t 22)⟩, ⟨(some 27), none, .ext 1 (.t 22)⟩, ⟨(some 6), none, .mv (.t 26)⟩, ⟨(some 7), none, .mv (.t 27)⟩])
     (.seq (.reg [⟨(some 29), none, .mv (.t 2)⟩, ⟨(some 30), none, .call (.c (.fn 16 [])) [(.t 29)]⟩, ⟨(some 28), none, .mv (.t 30)⟩, ⟨(some 31), none, .ext 0 (.t 28)⟩, ⟨(some 32), none, .ext 1 (.t 28)⟩, ⟨(some 9), none, .alloc [(.v (.int .u16 0)), (.v (.int .u32 0))]⟩, ⟨(some 8), none, .mv (.t 31)⟩, ⟨none, none, .store 2 (.t 9) (.t 32)⟩])
      (.seq (.reg [⟨(some 33), none, .mv (.t 2)⟩, ⟨(some 34), none, .call (.c (.fn 15 [])) [(.t 33)]⟩, ⟨(some 10), none, .mv (.t 34)⟩])
       (.seq (.reg [⟨(some 36), none, .mv (.t 2)⟩, ⟨(some 37), none, .call (.c (.fn 16 [])) [(.t 36)]⟩, ⟨(some 35), none, .mv (.t 37)⟩, ⟨(some 38), none, .ext 0 (.t 35)⟩, ⟨(some 39), none, .ext 1 (.t 35)⟩, ⟨(some 12), none, .alloc [(.v (.int .u16 0)), (.v (.int .u32 0))]⟩, ⟨(some 11), none, .mv (.t 38)⟩, ⟨none, none, .store 2 (.t 12) (.t 39)⟩])
        (.seq (.reg [⟨(some 40), none, .mv (.t 3)⟩, ⟨(some 41), none, .bin .eql (.t 40) (.c (.v (.int .i64 0)))⟩, ⟨(some 42), none, .mv (.t 41)⟩, ⟨(some 43), (some (42, true)), .mv (.t 5)⟩, ⟨(some 44), none, .pick (.t 42) (.t 43) (.c (.v (.bool false)))⟩, ⟨(some 45), none, .mv (.t 44)⟩, ⟨(some 46), (some (45, true)), .mv (.t 6)⟩, ⟨(some 47), none, .pick (.t 45) (.t 46) (.c (.v (.bool false)))⟩, ⟨(some 48), none, .mv (.t 47)⟩, ⟨(some 49), (some (48, true)), .mv (.t 7)⟩, ⟨(some 50), (some (48, true)), .bin .eql (.t 49) (.c (.v (.int .i64 0)))⟩, ⟨(some 51), none, .pick (.t 48) (.t 50) (.c (.v (.bool false)))⟩, ⟨(some 52), none, .mv (.t 51)⟩, ⟨(some 53), (some (52, true)), .mv (.t 8)⟩, ⟨(some 54), (some (52, true)), .bin .eql (.t 53) (.c (.v (.string ⟨#[120, 121]⟩)))⟩, ⟨(some 55), none, .pick (.t 52) (.t 54) (.c (.v (.bool false)))⟩, ⟨(some 56), none, .mv (.t 55)⟩, ⟨(some 57), (some (56, true)), .load (some 2) (.t 9)⟩, ⟨(some 58), (some (56, true)), .build [(.v (.int .u16 0)), (.v (.int .u32 0))] []⟩, ⟨(some 59), (some (56, true)), .eqst false [(0, .i), (1, .i)] (.t 57) (.t 58)⟩, ⟨(some 60), none, .pick (.t 56) (.t 59) (.c (.v (.bool false)))⟩, ⟨(some 61), none, .mv (.t 60)⟩, ⟨(some 62), (some (61, true)), .mv (.t 10)⟩, ⟨(some 63), none, .pick (.t 61) (.t 62) (.c (.v (.bool false)))⟩, ⟨(some 64), none, .mv (.t 63)⟩, ⟨(some 65), (some (64, true)), .mv (.t 11)⟩, ⟨(some 66), (some (64, true)), .bin .eql (.t 65) (.c (.v (.string ⟨#[97, 98]⟩)))⟩, ⟨(some 67), none, .pick (.t 64) (.t 66) (.c (.v (.bool false)))⟩, ⟨(some 68), none, .mv (.t 67)⟩, ⟨(some 69), (some (68, true)), .load (some 2) (.t 12)⟩, ⟨(some 70), (some (68, true)), .build [(.v (.int .u16 0)), (.v (.int .u32 0))] [(0, 1, (.c (.v (.int .u16 5)))), (1, 1, (.c (.v (.int .u32 1))))]⟩, ⟨(some 71), (some (68, true)), .eqst false [(0, .i), (1, .i)] (.t 69) (.t 70)⟩, ⟨(some 72), none, .pick (.t 68) (.t 71) (.c (.v (.bool false)))⟩, ⟨(some 0), none, .mv (.t 72)⟩])
         .ret)))))))))
def a_fuglemanlaw18_awake : AFn := ⟨0, b_fuglemanlaw18_awake, [.t 0], false, false⟩
theorem a_fuglemanlaw18_awake_ok : compF Try.prog Try.f7 [] false false hv = some a_fuglemanlaw18_awake := by kernel_rfl

/-! (*fugleman/gdata.Pub).Left: 14 -/
def b_gdata_Pub_Left : AC :=
 (.seq (.reg [⟨(some 2), none, .mv (.c (.v (.int .i64 0)))⟩])
 (.seq (.seq (.reg [⟨(some 3), none, .mv (.t 0)⟩, ⟨(some 4), none, .eqp false (.t 3) (.c (.v (.pointer none)))⟩])
   (.cond (.t 4) (.seq (.reg [⟨(some 2), none, .mv (.c (.v (.int .i64 0)))⟩])
     .ret)
    .skip))
  (.seq (.reg [⟨(some 5), none, .mv (.t 0)⟩, ⟨(some 6), none, .nilck (.t 5)⟩, ⟨(some 7), none, .fad 8 (.t 6)⟩, ⟨(some 8), none, .load none (.t 7)⟩, ⟨(some 2), none, .mv (.t 8)⟩])
   .ret)))
def a_gdata_Pub_Left : AFn := ⟨1, b_gdata_Pub_Left, [.t 2], false, false⟩
theorem a_gdata_Pub_Left_ok : compF Try.prog Try.f14 [] false false hv = some a_gdata_Pub_Left := by kernel_rfl

/-! fugleman/fuglemanlaw18.GdataComes: 3 -/
def l_fuglemanlaw18_GdataComes_1 : AC :=
 (.seq (.seq (.reg [⟨(some 73), none, .mv (.t 11)⟩, ⟨(some 74), none, .load none (.t 8)⟩, ⟨(some 75), none, .call (.c (.fn 14 [])) [(.t 74)]⟩, ⟨(some 76), none, .call (.t 73) [(.t 75)]⟩, ⟨(some 77), none, .un .not (.t 76)⟩, ⟨(some 78), none, .mv (.t 77)⟩, ⟨(some 79), (some (78, false)), .mv (.t 11)⟩, ⟨(some 80), (some (78, false)), .mv (.t 7)⟩, ⟨(some 81), (some (78, false)), .bin .add (.t 80) (.c (.v (.int .i64 15)))⟩, ⟨(some 82), (some (78, false)), .bin .quo (.t 81) (.c (.v (.int .i64 16)))⟩, ⟨(some 83), (some (78, false)), .call (.t 79) [(.t 82)]⟩, ⟨(some 84), (some (78, false)), .un .not (.t 83)⟩, ⟨(some 85), none, .pick (.t 78) (.c (.v (.bool true))) (.t 84)⟩])
  (.cond (.t 85) (.seq (.reg [⟨(some 6), none, .mv (.c (.v (.bool false)))⟩])
    .ret)
   .skip))
 (.seq (.reg [⟨(some 86), none, .load none (.t 9)⟩, ⟨(some 87), none, .call (.c (.fn 15 [])) [(.t 86)]⟩])
  (.seq (.reg [⟨(some 89), none, .load none (.t 9)⟩, ⟨(some 90), none, .call (.c (.fn 16 [])) [(.t 89)]⟩, ⟨(some 88), none, .mv (.t 90)⟩, ⟨(some 91), none, .ext 0 (.t 88)⟩, ⟨(some 92), none, .ext 1 (.t 88)⟩, ⟨(some 16), none, .alloc [(.v (.int .u16 0)), (.v (.int .u32 0))]⟩, ⟨(some 15), none, .mv (.t 91)⟩, ⟨none, none, .store 2 (.t 16) (.t 92)⟩])
   (.seq (.reg [⟨(some 93), none, .mv (.t 15)⟩, ⟨(some 94), none, .mv (.t 10)⟩, ⟨(some 95), none, .bin .eql (.t 93) (.t 94)⟩, ⟨(some 96), none, .mv (.t 95)⟩, ⟨(some 97), (some (96, true)), .load (some 2) (.t 16)⟩, ⟨(some 98), (some (96, true)), .mv (.t 1)⟩, ⟨(some 99), (some (96, true)), .len (.t 98)⟩, ⟨(some 100), (some (96, true)), .cvi .u32 (.t 99)⟩, ⟨(some 101), (some (96, true)), .build [(.v (.int .u16 0)), (.v (.int .u32 0))] [(0, 1, (.c (.v (.int .u16 1)))), (1, 1, (.t 100))]⟩, ⟨(some 102), (some (96, true)), .eqst false [(0, .i), (1, .i)] (.t 97) (.t 101)⟩, ⟨(some 103), none, .pick (.t 96) (.t 102) (.c (.v (.bool false)))⟩, ⟨(some 6), none, .mv (.t 103)⟩])
    .ret))))
def l_fuglemanlaw18_GdataComes_0 : AC :=
 (.seq (.reg [⟨(some 46), none, .bin .lss (.t 45) (.t 44)⟩])
 (.seq (.cond (.t 46) .skip
   (.exit 0))
  (.seq (.block 1 (.seq (.reg [⟨(some 47), none, .mv (.t 45)⟩, ⟨(some 48), none, .ixs 1 (.t 43) (.t 45)⟩, ⟨(some 49), none, .load none (.t 48)⟩, ⟨(some 12), none, .mv (.t 47)⟩, ⟨(some 13), none, .mv (.t 49)⟩])
     (.seq (.reg [⟨(some 50), none, .mv (.t 7)⟩, ⟨(some 51), none, .mks 1 1 [(.v (.int .u8 0))] (.t 50) (.t 50)⟩, ⟨(some 14), none, .mv (.t 51)⟩])
      (.seq (.reg [⟨(some 52), none, .mv (.t 14)⟩, ⟨(some 53), none, .mv (.t 13)⟩, ⟨(some 54), none, .cpy 1 (.t 52) (.t 53)⟩])
       (.seq (.reg [⟨(some 55), none, .mv (.t 14)⟩, ⟨(some 56), none, .cvbs (.t 55)⟩, ⟨(some 10), none, .mv (.t 56)⟩])
        (.seq (.reg [⟨(some 57), none, .load none (.t 8)⟩, ⟨(some 58), none, .mv (.t 10)⟩, ⟨(some 59), none, .call (.c (.fn 13 [])) [(.t 57), (.t 58)]⟩, ⟨(some 60), none, .bin .neq (.t 59) (.c (.v (.int .i64 0)))⟩, ⟨(some 61), none, .mv (.t 60)⟩, ⟨(some 62), (some (61, false)), .mv (.t 11)⟩, ⟨(some 63), (some (61, false)), .mv (.t 2)⟩, ⟨(some 64), (some (61, false)), .mv (.t 12)⟩, ⟨(some 65), (some (61, false)), .ixs 1 (.t 63) (.t 64)⟩, ⟨(some 66), (some (61, false)), .load none (.t 65)⟩, ⟨(some 67), (some (61, false)), .bin .rem (.t 66) (.c (.v (.int .u8 10)))⟩, ⟨(some 68), (some (61, false)), .cvi .i64 (.t 67)⟩, ⟨(some 69), (some (61, false)), .call (.t 62) [(.t 68)]⟩, ⟨(some 70), (some (61, false)), .un .not (.t 69)⟩, ⟨(some 71), none, .pick (.t 61) (.c (.v (.bool true))) (.t 70)⟩])
         (.cond (.t 71) (.seq (.reg [⟨(some 6), none, .mv (.c (.v (.bool false)))⟩])
           .ret)
          .skip)))))))
   (.reg [⟨(some 72), none, .bin .add (.t 45) (.c (.v (.int .i64 1)))⟩, ⟨(some 45), none, .mv (.t 72)⟩]))))
def b_fuglemanlaw18_GdataComes : AC :=
 (.seq (.reg [⟨(some 6), none, .mv (.c (.v (.bool false)))⟩])
 (.seq (.seq (.reg [⟨(some 17), none, .call (.c (.fn 7 [])) []⟩, ⟨(some 18), none, .un .not (.t 17)⟩])
   (.cond (.t 18) (.seq (.reg [⟨(some 6), none, .mv (.c (.v (.bool false)))⟩])
     .ret)
    .skip))
  (.seq (.reg [⟨(some 19), none, .mv (.t 0)⟩, ⟨(some 20), none, .cvi .i64 (.t 19)⟩, ⟨(some 21), none, .bin .rem (.t 20) (.c (.v (.int .i64 64)))⟩, ⟨(some 22), none, .bin .add (.c (.v (.int .i64 1))) (.t 21)⟩, ⟨(some 7), none, .mv (.t 22)⟩])
   (.seq (.seq (.reg [⟨(some 23), none, .mv (.t 1)⟩, ⟨(some 24), none, .len (.t 23)⟩, ⟨(some 25), none, .bin .lss (.t 24) (.c (.v (.int .i64 1)))⟩, ⟨(some 26), none, .mv (.t 25)⟩, ⟨(some 27), (some (26, false)), .mv (.t 1)⟩, ⟨(some 28), (some (26, false)), .len (.t 27)⟩, ⟨(some 29), (some (26, false)), .bin .gtr (.t 28) (.c (.v (.int .i64 20)))⟩, ⟨(some 30), none, .pick (.t 26) (.c (.v (.bool true))) (.t 29)⟩, ⟨(some 31), none, .mv (.t 30)⟩, ⟨(some 32), (some (31, false)), .mv (.t 2)⟩, ⟨(some 33), (some (31, false)), .len (.t 32)⟩, ⟨(some 34), (some (31, false)), .mv (.t 1)⟩, ⟨(some 35), (some (31, false)), .len (.t 34)⟩, ⟨(some 36), (some (31, false)), .bin .lss (.t 33) (.t 35)⟩, ⟨(some 37), none, .pick (.t 31) (.c (.v (.bool true))) (.t 36)⟩])
     (.cond (.t 37) (.seq (.reg [⟨(some 6), none, .mv (.c (.v (.bool true)))⟩])
       .ret)
      .skip))
    (.seq (.reg [⟨(some 38), none, .mv (.t 7)⟩, ⟨(some 39), none, .call (.c (.fn 8 [])) [(.t 38), (.c (.v (.int .u16 1)))]⟩, ⟨(some 40), none, .mv (.t 7)⟩, ⟨(some 41), none, .call (.c (.fn 9 [])) [(.t 40), (.c (.v (.string ⟨#[]⟩)))]⟩, ⟨(some 8), none, .alloc [(.v (.pointer none))]⟩, ⟨(some 9), none, .alloc [(.v (.pointer none))]⟩, ⟨none, none, .store 1 (.t 8) (.t 39)⟩, ⟨none, none, .store 1 (.t 9) (.t 41)⟩])
     (.seq (.reg [⟨(some 10), none, .mv (.c (.v (.string ⟨#[]⟩)))⟩])
      (.seq (.reg [⟨(some 42), none, .mkf 10 [(.t 8), (.t 9)]⟩, ⟨(some 11), none, .mv (.t 42)⟩])
       (.seq (.seq (.reg [⟨(some 43), none, .mv (.t 1)⟩, ⟨(some 44), none, .len (.t 43)⟩, ⟨(some 45), none, .mv (.c (.v (.int .i64 0)))⟩])
         (.block 0 (.loop [1, 2, 7, 8, 9, 10, 11, 43, 44, 45] l_fuglemanlaw18_GdataComes_0)))
        l_fuglemanlaw18_GdataComes_1))))))))
def a_fuglemanlaw18_GdataComes : AFn := ⟨3, b_fuglemanlaw18_GdataComes, [.t 6], false, false⟩
theorem a_fuglemanlaw18_GdataComes_ok : compF Try.prog Try.f3 [[1, 2, 7, 8, 9, 10, 11, 43, 44, 45]] false false hv = some a_fuglemanlaw18_GdataComes := by kernel_rfl

/-! (*fugleman/gdata.Sub).Fault: 17 -/
def b_gdata_Sub_Fault : AC :=
 (.seq (.reg [⟨(some 2), none, .mv (.c (.v (.bool false)))⟩])
 (.seq (.reg [⟨(some 3), none, .mv (.t 0)⟩, ⟨(some 4), none, .eqp true (.t 3) (.c (.v (.pointer none)))⟩, ⟨(some 5), none, .mv (.t 4)⟩, ⟨(some 6), (some (5, true)), .mv (.t 0)⟩, ⟨(some 7), (some (5, true)), .nilck (.t 6)⟩, ⟨(some 8), (some (5, true)), .fad 8 (.t 7)⟩, ⟨(some 9), (some (5, true)), .load none (.t 8)⟩, ⟨(some 10), none, .pick (.t 5) (.t 9) (.c (.v (.bool false)))⟩, ⟨(some 2), none, .mv (.t 10)⟩])
  .ret))
def a_gdata_Sub_Fault : AFn := ⟨1, b_gdata_Sub_Fault, [.t 2], false, false⟩
theorem a_gdata_Sub_Fault_ok : compF Try.prog Try.f17 [] false false hv = some a_gdata_Sub_Fault := by kernel_rfl

/-! fugleman/fuglemanref18.NewSub: 18 -/
def l_fuglemanref18_NewSub_1 : AC :=
 (.seq (.reg [⟨(some 11), none, .mv (.t 0)⟩, ⟨(some 12), none, .build [(.v (.int .i64 0)), (.v (.bool false)), (.v (.int .u16 0)), (.v (.int .u32 0)), (.v (.slice none 0 0))] [(0, 1, (.t 11))]⟩, ⟨(some 13), none, .mv (.t 1)⟩, ⟨(some 14), none, .mv (.t 0)⟩, ⟨(some 15), none, .slstr (.t 13) none (some (.t 14))⟩, ⟨(some 16), none, .build [(.v (.int .i64 0)), (.v (.bool false)), (.v (.int .u16 0)), (.v (.int .u32 0)), (.v (.slice none 0 0)), (.v (.string ⟨#[]⟩)), (.v (.string ⟨#[]⟩)), (.v (.int .u16 0)), (.v (.int .u32 0)), (.v (.int .u16 0)), (.v (.int .u32 0)), (.v (.bool false)), (.v (.bool false))] [(0, 5, (.t 12)), (5, 1, (.t 15))]⟩, ⟨(some 17), none, .box (.t 16)⟩, ⟨(some 4), none, .mv (.t 17)⟩])
 .ret)
def l_fuglemanref18_NewSub_0 : AC :=
 (.seq (.seq (.reg [⟨(some 5), none, .mv (.t 1)⟩, ⟨(some 6), none, .lens (.t 5)⟩, ⟨(some 7), none, .mv (.t 0)⟩, ⟨(some 8), none, .bin .lss (.t 6) (.t 7)⟩])
  (.cond (.t 8) .skip
   (.exit 0)))
 (.block 1 (.reg [⟨(some 9), none, .mv (.t 1)⟩, ⟨(some 10), none, .bin .add (.t 9) (.c (.v (.string ⟨#[0]⟩)))⟩, ⟨(some 1), none, .mv (.t 10)⟩])))
def b_fuglemanref18_NewSub : AC :=
 (.seq (.reg [⟨(some 4), none, .mv (.c (.v (.pointer none)))⟩])
 (.seq (.block 0 (.loop [0, 1] l_fuglemanref18_NewSub_0))
  l_fuglemanref18_NewSub_1))
def a_fuglemanref18_NewSub : AFn := ⟨2, b_fuglemanref18_NewSub, [.t 4], false, false⟩
theorem a_fuglemanref18_NewSub_ok : compF Try.prog Try.f18 [[0, 1]] false false hv = some a_fuglemanref18_NewSub := by kernel_rfl

/-! (*fugleman/fuglemanref18.Sub).Latch: 19 -/
def b_fuglemanref18_Sub_Latch : AC :=
 (.seq (.reg [⟨(some 2), none, .mv (.c (.v (.bool false)))⟩])
 (.seq (.seq (.reg [⟨(some 3), none, .mv (.t 0)⟩, ⟨(some 4), none, .nilck (.t 3)⟩, ⟨(some 5), none, .fad 11 (.t 4)⟩, ⟨(some 6), none, .load none (.t 5)⟩, ⟨(some 7), none, .un .not (.t 6)⟩])
   (.cond (.t 7) (.seq (.reg [⟨(some 2), none, .mv (.c (.v (.bool false)))⟩])
     .ret)
    .skip))
  (.seq (.reg [⟨(some 8), none, .mv (.t 0)⟩, ⟨(some 9), none, .mv (.t 0)⟩, ⟨(some 10), none, .nilck (.t 9)⟩, ⟨(some 11), none, .fad 6 (.t 10)⟩, ⟨(some 12), none, .load none (.t 11)⟩, ⟨(some 13), none, .nilck (.t 8)⟩, ⟨(some 14), none, .fad 5 (.t 13)⟩, ⟨none, none, .store 1 (.t 14) (.t 12)⟩])
   (.seq (.reg [⟨(some 15), none, .mv (.t 0)⟩, ⟨(some 16), none, .mv (.t 0)⟩, ⟨(some 17), none, .nilck (.t 16)⟩, ⟨(some 18), none, .fad 9 (.t 17)⟩, ⟨(some 19), none, .load (some 2) (.t 18)⟩, ⟨(some 20), none, .nilck (.t 15)⟩, ⟨(some 21), none, .fad 7 (.t 20)⟩, ⟨none, none, .store 2 (.t 21) (.t 19)⟩])
    (.seq (.reg [⟨(some 22), none, .mv (.t 0)⟩, ⟨(some 23), none, .nilck (.t 22)⟩, ⟨(some 24), none, .fad 6 (.t 23)⟩, ⟨none, none, .store 1 (.t 24) (.c (.v (.string ⟨#[]⟩)))⟩])
     (.seq (.reg [⟨(some 25), none, .mv (.t 0)⟩, ⟨(some 26), none, .build [(.v (.int .u16 0)), (.v (.int .u32 0))] []⟩, ⟨(some 27), none, .nilck (.t 25)⟩, ⟨(some 28), none, .fad 9 (.t 27)⟩, ⟨none, none, .store 2 (.t 28) (.t 26)⟩])
      (.seq (.reg [⟨(some 29), none, .mv (.t 0)⟩, ⟨(some 30), none, .nilck (.t 29)⟩, ⟨(some 31), none, .fad 11 (.t 30)⟩, ⟨none, none, .store 1 (.t 31) (.c (.v (.bool false)))⟩])
       (.seq (.reg [⟨(some 2), none, .mv (.c (.v (.bool true)))⟩])
        .ret))))))))
def a_fuglemanref18_Sub_Latch : AFn := ⟨1, b_fuglemanref18_Sub_Latch, [.t 2], false, true⟩
theorem a_fuglemanref18_Sub_Latch_ok : compF Try.prog Try.f19 [] false true hv = some a_fuglemanref18_Sub_Latch := by kernel_rfl

/-! fugleman/fuglemanref17.Number: 23 -/
def b_fuglemanref17_Number : AC :=
 (.seq (.reg [⟨(some 1), none, .box (.t 0)⟩, ⟨(some 2), none, .mv (.c (.v (.int .u64 0)))⟩])
 (.seq (.reg [⟨(some 3), none, .fad 0 (.t 1)⟩, ⟨(some 4), none, .load none (.t 3)⟩, ⟨(some 5), none, .cvi .u64 (.t 4)⟩, ⟨(some 6), none, .bin .mul (.t 5) (.c (.v (.int .u64 4294967296)))⟩, ⟨(some 7), none, .fad 1 (.t 1)⟩, ⟨(some 8), none, .load none (.t 7)⟩, ⟨(some 9), none, .cvi .u64 (.t 8)⟩, ⟨(some 10), none, .bin .add (.t 6) (.t 9)⟩, ⟨(some 2), none, .mv (.t 10)⟩])
  .ret))
def a_fuglemanref17_Number : AFn := ⟨1, b_fuglemanref17_Number, [.t 2], false, false⟩
theorem a_fuglemanref17_Number_ok : compF Try.prog Try.f23 [] false false hv = some a_fuglemanref17_Number := by kernel_rfl

/-! fugleman/fuglemanref16.All: 45 -/
def l_fuglemanref16_All_1 : AC :=
 (.seq (.seq (.reg [⟨(some 14), none, .mv (.t 0)⟩, ⟨(some 15), none, .bin .neq (.t 14) (.c (.v (.string ⟨#[]⟩)))⟩])
  (.cond (.t 15) (.reg [⟨(some 16), none, .mv (.t 3)⟩, ⟨(some 17), none, .mv (.t 0)⟩, ⟨(some 18), none, .row 1 1 [(.v (.string ⟨#[]⟩))] [(0, 1, (.t 17))]⟩, ⟨(some 19), none, .app 1 16 (.t 16) (.t 18)⟩, ⟨(some 3), none, .mv (.t 19)⟩])
   .skip))
 (.seq (.reg [⟨(some 20), none, .mv (.t 3)⟩, ⟨(some 2), none, .mv (.t 20)⟩])
  .ret))
def l_fuglemanref16_All_0 : AC :=
 (.seq (.seq (.reg [⟨(some 4), none, .mv (.t 0)⟩, ⟨(some 5), none, .lens (.t 4)⟩, ⟨(some 6), none, .bin .gtr (.t 5) (.c (.v (.int .i64 16)))⟩])
  (.cond (.t 6) .skip
   (.exit 0)))
 (.block 1 (.seq (.reg [⟨(some 7), none, .mv (.t 3)⟩, ⟨(some 8), none, .mv (.t 0)⟩, ⟨(some 9), none, .slstr (.t 8) none (some (.c (.v (.int .i64 16))))⟩, ⟨(some 10), none, .row 1 1 [(.v (.string ⟨#[]⟩))] [(0, 1, (.t 9))]⟩, ⟨(some 11), none, .app 1 16 (.t 7) (.t 10)⟩, ⟨(some 3), none, .mv (.t 11)⟩])
   (.reg [⟨(some 12), none, .mv (.t 0)⟩, ⟨(some 13), none, .slstr (.t 12) (some (.c (.v (.int .i64 16)))) none⟩, ⟨(some 0), none, .mv (.t 13)⟩]))))
def b_fuglemanref16_All : AC :=
 (.seq (.reg [⟨(some 2), none, .mv (.c (.v (.slice none 0 0)))⟩])
 (.seq (.reg [⟨(some 3), none, .mv (.c (.v (.slice none 0 0)))⟩])
  (.seq (.block 0 (.loop [0, 3] l_fuglemanref16_All_0))
   l_fuglemanref16_All_1)))
def a_fuglemanref16_All : AFn := ⟨1, b_fuglemanref16_All, [.t 2], true, false⟩
theorem a_fuglemanref16_All_ok : compF Try.prog Try.f45 [[0, 3]] true false hv = some a_fuglemanref16_All := by kernel_rfl

/-! fugleman/fuglemanref17.lengths: 44 -/
def b_fuglemanref17_lengths : AC :=
 (.seq (.reg [⟨(some 2), none, .mv (.c (.v (.slice none 0 0)))⟩])
 (.seq (.reg [⟨(some 3), none, .mv (.t 0)⟩, ⟨(some 4), none, .mks 1 1 [(.v (.int .u8 0))] (.t 3) (.t 3)⟩, ⟨(some 5), none, .cvbs (.t 4)⟩, ⟨(some 6), none, .call (.c (.fn 45 [])) [(.t 5)]⟩, ⟨(some 2), none, .mv (.t 6)⟩])
  .ret))
def a_fuglemanref17_lengths : AFn := ⟨1, b_fuglemanref17_lengths, [.t 2], true, false⟩
theorem a_fuglemanref17_lengths_ok : compF Try.prog Try.f44 [] true false hv = some a_fuglemanref17_lengths := by kernel_rfl

/-! (*fugleman/fuglemanref17.Glue).Put: 32 -/
def l_fuglemanref17_Glue_Put_1 : AC :=
 (.seq (.reg [⟨(some 130), none, .mv (.t 8)⟩, ⟨(some 4), none, .mv (.t 130)⟩, ⟨(some 5), none, .mv (.c (.v (.bool true)))⟩, ⟨(some 6), none, .mv (.c (.v (.int .i64 0)))⟩])
 .ret)
def l_fuglemanref17_Glue_Put_0 : AC :=
 (.seq (.seq (.reg [⟨(some 107), none, .mv (.t 9)⟩, ⟨(some 108), none, .mv (.t 7)⟩, ⟨(some 109), none, .len (.t 108)⟩, ⟨(some 110), none, .bin .lss (.t 107) (.t 109)⟩])
  (.cond (.t 110) .skip
   (.exit 0)))
 (.seq (.block 1 (.seq (.seq (.reg [⟨(some 113), none, .mv (.t 0)⟩, ⟨(some 114), none, .nilck (.t 113)⟩, ⟨(some 115), none, .fad 4 (.t 114)⟩, ⟨(some 116), none, .load none (.t 115)⟩, ⟨(some 117), none, .mv (.t 9)⟩, ⟨(some 118), none, .ixs 1 (.t 116) (.t 117)⟩, ⟨(some 119), none, .load none (.t 118)⟩, ⟨(some 120), none, .bin .eql (.t 119) (.c (.v (.string ⟨#[]⟩)))⟩])
     (.cond (.t 120) (.seq (.reg [⟨(some 4), none, .mv (.c (.v (.string ⟨#[]⟩)))⟩, ⟨(some 5), none, .mv (.c (.v (.bool false)))⟩, ⟨(some 6), none, .mv (.c (.v (.int .i64 0)))⟩])
       .ret)
      .skip))
    (.reg [⟨(some 121), none, .mv (.t 8)⟩, ⟨(some 122), none, .mv (.t 0)⟩, ⟨(some 123), none, .nilck (.t 122)⟩, ⟨(some 124), none, .fad 4 (.t 123)⟩, ⟨(some 125), none, .load none (.t 124)⟩, ⟨(some 126), none, .mv (.t 9)⟩, ⟨(some 127), none, .ixs 1 (.t 125) (.t 126)⟩, ⟨(some 128), none, .load none (.t 127)⟩, ⟨(some 129), none, .bin .add (.t 121) (.t 128)⟩, ⟨(some 8), none, .mv (.t 129)⟩])))
  (.reg [⟨(some 111), none, .mv (.t 9)⟩, ⟨(some 112), none, .bin .add (.t 111) (.c (.v (.int .i64 1)))⟩, ⟨(some 9), none, .mv (.t 112)⟩])))
def b_fuglemanref17_Glue_Put : AC :=
 (.seq (.reg [⟨(some 3), none, .box (.t 1)⟩, ⟨(some 4), none, .mv (.c (.v (.string ⟨#[]⟩)))⟩, ⟨(some 5), none, .mv (.c (.v (.bool false)))⟩, ⟨(some 6), none, .mv (.c (.v (.int .i64 0)))⟩])
 (.seq (.seq (.reg [⟨(some 10), none, .fad 0 (.t 3)⟩, ⟨(some 11), none, .load none (.t 10)⟩, ⟨(some 12), none, .bin .neq (.t 11) (.c (.v (.int .i64 4)))⟩])
   (.cond (.t 12) (.seq (.reg [⟨(some 4), none, .mv (.c (.v (.string ⟨#[]⟩)))⟩, ⟨(some 5), none, .mv (.c (.v (.bool false)))⟩, ⟨(some 6), none, .mv (.c (.v (.int .i64 11)))⟩])
     .ret)
    .skip))
  (.seq (.reg [⟨(some 13), none, .mv (.t 0)⟩, ⟨(some 14), none, .nilck (.t 13)⟩, ⟨(some 15), none, .fad 0 (.t 14)⟩, ⟨(some 16), none, .load none (.t 15)⟩, ⟨(some 17), none, .call (.c (.fn 44 [])) [(.t 16)]⟩, ⟨(some 7), none, .mv (.t 17)⟩])
   (.seq (.seq (.regq [⟨(some 18), none, .fad 17 (.t 3)⟩, ⟨(some 19), none, .load none (.t 18)⟩, ⟨(some 20), none, .cvi .i64 (.t 19)⟩, ⟨(some 21), none, .mv (.t 7)⟩, ⟨(some 22), none, .len (.t 21)⟩, ⟨(some 23), none, .bin .neq (.t 20) (.t 22)⟩, ⟨(some 24), none, .mv (.t 23)⟩, ⟨(some 25), (some (24, false)), .fad 16 (.t 3)⟩, ⟨(some 26), (some (24, false)), .load none (.t 25)⟩, ⟨(some 27), (some (24, false)), .cvi .i64 (.t 26)⟩, ⟨(some 28), (some (24, false)), .mv (.t 7)⟩, ⟨(some 29), (some (24, false)), .len (.t 28)⟩, ⟨(some 30), (some (24, false)), .bin .geq (.t 27) (.t 29)⟩, ⟨(some 31), none, .pick (.t 24) (.c (.v (.bool true))) (.t 30)⟩, ⟨(some 32), none, .mv (.t 31)⟩, ⟨(some 33), (some (32, false)), .fad 18 (.t 3)⟩, ⟨(some 34), (some (32, false)), .load none (.t 33)⟩, ⟨(some 35), (some (32, false)), .lens (.t 34)⟩, ⟨(some 36), (some (32, false)), .mv (.t 7)⟩, ⟨(some 37), (some (32, false)), .fad 16 (.t 3)⟩, ⟨(some 38), (some (32, false)), .load none (.t 37)⟩, ⟨(some 39), (some (32, false)), .ixs 1 (.t 36) (.t 38)⟩, ⟨(some 40), (some (32, false)), .load none (.t 39)⟩, ⟨(some 41), (some (32, false)), .lens (.t 40)⟩, ⟨(some 42), (some (32, false)), .bin .neq (.t 35) (.t 41)⟩, ⟨(some 43), none, .pick (.t 32) (.c (.v (.bool true))) (.t 42)⟩])
     (.cond (.t 43) (.seq (.reg [⟨(some 4), none, .mv (.c (.v (.string ⟨#[]⟩)))⟩, ⟨(some 5), none, .mv (.c (.v (.bool false)))⟩, ⟨(some 6), none, .mv (.c (.v (.int .i64 3)))⟩])
       .ret)
      .skip))
    (.seq (.seq (.regq [⟨(some 44), none, .mv (.t 0)⟩, ⟨(some 45), none, .nilck (.t 44)⟩, ⟨(some 46), none, .fad 1 (.t 45)⟩, ⟨(some 47), none, .load none (.t 46)⟩, ⟨(some 48), none, .mv (.t 47)⟩, ⟨(some 49), (some (48, true)), .fad 14 (.t 3)⟩, ⟨(some 50), (some (48, true)), .load (some 2) (.t 49)⟩, ⟨(some 51), (some (48, true)), .call (.c (.fn 23 [])) [(.t 50)]⟩, ⟨(some 52), (some (48, true)), .mv (.t 0)⟩, ⟨(some 53), (some (48, true)), .nilck (.t 52)⟩, ⟨(some 54), (some (48, true)), .fad 2 (.t 53)⟩, ⟨(some 55), (some (48, true)), .load (some 2) (.t 54)⟩, ⟨(some 56), (some (48, true)), .call (.c (.fn 23 [])) [(.t 55)]⟩, ⟨(some 57), (some (48, true)), .bin .lss (.t 51) (.t 56)⟩, ⟨(some 58), none, .pick (.t 48) (.t 57) (.c (.v (.bool false)))⟩])
      (.cond (.t 58) (.seq (.reg [⟨(some 4), none, .mv (.c (.v (.string ⟨#[]⟩)))⟩, ⟨(some 5), none, .mv (.c (.v (.bool false)))⟩, ⟨(some 6), none, .mv (.c (.v (.int .i64 1)))⟩])
        .ret)
       .skip))
     (.seq (.seq (.regq [⟨(some 59), none, .mv (.t 0)⟩, ⟨(some 60), none, .nilck (.t 59)⟩, ⟨(some 61), none, .fad 1 (.t 60)⟩, ⟨(some 62), none, .load none (.t 61)⟩, ⟨(some 63), none, .un .not (.t 62)⟩, ⟨(some 64), none, .mv (.t 63)⟩, ⟨(some 65), (some (64, false)), .fad 14 (.t 3)⟩, ⟨(some 66), (some (64, false)), .load (some 2) (.t 65)⟩, ⟨(some 67), (some (64, false)), .call (.c (.fn 23 [])) [(.t 66)]⟩, ⟨(some 68), (some (64, false)), .mv (.t 0)⟩, ⟨(some 69), (some (64, false)), .nilck (.t 68)⟩, ⟨(some 70), (some (64, false)), .fad 2 (.t 69)⟩, ⟨(some 71), (some (64, false)), .load (some 2) (.t 70)⟩, ⟨(some 72), (some (64, false)), .call (.c (.fn 23 [])) [(.t 71)]⟩, ⟨(some 73), (some (64, false)), .bin .gtr (.t 67) (.t 72)⟩, ⟨(some 74), none, .pick (.t 64) (.c (.v (.bool true))) (.t 73)⟩])
       (.cond (.t 74) (.seq (.reg [⟨(some 75), none, .mv (.t 0)⟩, ⟨(some 76), none, .nilck (.t 75)⟩, ⟨(some 77), none, .fad 1 (.t 76)⟩, ⟨none, none, .store 1 (.t 77) (.c (.v (.bool true)))⟩])
         (.seq (.reg [⟨(some 78), none, .mv (.t 0)⟩, ⟨(some 79), none, .fad 14 (.t 3)⟩, ⟨(some 80), none, .load (some 2) (.t 79)⟩, ⟨(some 81), none, .nilck (.t 78)⟩, ⟨(some 82), none, .fad 2 (.t 81)⟩, ⟨none, none, .store 2 (.t 82) (.t 80)⟩])
          (.reg [⟨(some 83), none, .mv (.t 0)⟩, ⟨(some 84), none, .mv (.t 7)⟩, ⟨(some 85), none, .len (.t 84)⟩, ⟨(some 86), none, .mks 1 16 [(.v (.string ⟨#[]⟩))] (.t 85) (.t 85)⟩, ⟨(some 87), none, .nilck (.t 83)⟩, ⟨(some 88), none, .fad 4 (.t 87)⟩, ⟨none, none, .store 1 (.t 88) (.t 86)⟩])))
        .skip))
      (.seq (.seq (.regq [⟨(some 89), none, .mv (.t 0)⟩, ⟨(some 90), none, .nilck (.t 89)⟩, ⟨(some 91), none, .fad 4 (.t 90)⟩, ⟨(some 92), none, .load none (.t 91)⟩, ⟨(some 93), none, .fad 16 (.t 3)⟩, ⟨(some 94), none, .load none (.t 93)⟩, ⟨(some 95), none, .ixs 1 (.t 92) (.t 94)⟩, ⟨(some 96), none, .load none (.t 95)⟩, ⟨(some 97), none, .bin .neq (.t 96) (.c (.v (.string ⟨#[]⟩)))⟩])
        (.cond (.t 97) (.seq (.reg [⟨(some 4), none, .mv (.c (.v (.string ⟨#[]⟩)))⟩, ⟨(some 5), none, .mv (.c (.v (.bool false)))⟩, ⟨(some 6), none, .mv (.c (.v (.int .i64 14)))⟩])
          .ret)
         .skip))
       (.seq (.regt 8 [⟨(some 98), none, .mv (.t 0)⟩, ⟨(some 99), none, .nilck (.t 98)⟩, ⟨(some 100), none, .fad 4 (.t 99)⟩, ⟨(some 101), none, .load none (.t 100)⟩, ⟨(some 102), none, .fad 16 (.t 3)⟩, ⟨(some 103), none, .load none (.t 102)⟩, ⟨(some 104), none, .fad 18 (.t 3)⟩, ⟨(some 105), none, .load none (.t 104)⟩, ⟨(some 106), none, .ixs 1 (.t 101) (.t 103)⟩, ⟨none, none, .store 1 (.t 106) (.t 105)⟩])
        (.seq (.reg [⟨(some 8), none, .mv (.c (.v (.string ⟨#[]⟩)))⟩])
         (.seq (.seq (.reg [⟨(some 9), none, .mv (.c (.v (.int .i64 0)))⟩])
           (.block 0 (.loop [0, 7, 8, 9] l_fuglemanref17_Glue_Put_0)))
          l_fuglemanref17_Glue_Put_1))))))))))
def a_fuglemanref17_Glue_Put : AFn := ⟨2, b_fuglemanref17_Glue_Put, [.t 4, .t 5, .t 6], false, true⟩
theorem a_fuglemanref17_Glue_Put_ok : compF Try.prog Try.f32 [[0, 7, 8, 9]] false true hv = some a_fuglemanref17_Glue_Put := by kernel_rfl

/-! (*fugleman/fuglemanref18.Sub).Put: 20 -/
def b_fuglemanref18_Sub_Put : AC :=
 (.seq (.reg [⟨(some 3), none, .box (.t 1)⟩, ⟨(some 4), none, .mv (.c (.v (.bool false)))⟩, ⟨(some 5), none, .mv (.c (.v (.int .i64 0)))⟩])
 (.seq (.regm [(.o, ⟨(some 10), none, .mv (.t 0)⟩), (.o, ⟨(some 11), none, .nilck (.t 10)⟩), (.o, ⟨(some 12), none, .fad 0 (.t 11)⟩), (.o, ⟨(some 13), none, .load (some 19) (.t 3)⟩), (.o, ⟨(some 14), none, .call (.c (.fn 32 [])) [(.t 12), (.t 13)]⟩), (.o, ⟨(some 9), none, .mv (.t 14)⟩), (.o, ⟨(some 15), none, .ext 0 (.t 9)⟩), (.o, ⟨(some 16), none, .ext 1 (.t 9)⟩), (.o, ⟨(some 17), none, .ext 2 (.t 9)⟩), (.o, ⟨(some 6), none, .mv (.t 15)⟩), (.o, ⟨(some 7), none, .mv (.t 16)⟩), (.o, ⟨(some 8), none, .mv (.t 17)⟩)])
  (.seq (.seq (.reg [⟨(some 18), none, .mv (.t 8)⟩, ⟨(some 19), none, .bin .eql (.t 18) (.c (.v (.int .i64 3)))⟩])
    (.cond (.t 19) (.reg [⟨(some 20), none, .mv (.t 0)⟩, ⟨(some 21), none, .nilck (.t 20)⟩, ⟨(some 22), none, .fad 12 (.t 21)⟩, ⟨none, none, .store 1 (.t 22) (.c (.v (.bool true)))⟩])
     .skip))
   (.seq (.seq (.reg [⟨(some 23), none, .mv (.t 7)⟩])
     (.cond (.t 23) (.seq (.reg [⟨(some 24), none, .mv (.t 0)⟩, ⟨(some 25), none, .mv (.t 6)⟩, ⟨(some 26), none, .nilck (.t 24)⟩, ⟨(some 27), none, .fad 6 (.t 26)⟩, ⟨none, none, .store 1 (.t 27) (.t 25)⟩])
       (.seq (.reg [⟨(some 28), none, .mv (.t 0)⟩, ⟨(some 29), none, .fad 14 (.t 3)⟩, ⟨(some 30), none, .load (some 2) (.t 29)⟩, ⟨(some 31), none, .nilck (.t 28)⟩, ⟨(some 32), none, .fad 9 (.t 31)⟩, ⟨none, none, .store 2 (.t 32) (.t 30)⟩])
        (.reg [⟨(some 33), none, .mv (.t 0)⟩, ⟨(some 34), none, .nilck (.t 33)⟩, ⟨(some 35), none, .fad 11 (.t 34)⟩, ⟨none, none, .store 1 (.t 35) (.c (.v (.bool true)))⟩])))
      .skip))
    (.seq (.reg [⟨(some 36), none, .mv (.t 7)⟩, ⟨(some 37), none, .mv (.t 8)⟩, ⟨(some 4), none, .mv (.t 36)⟩, ⟨(some 5), none, .mv (.t 37)⟩])
     .ret)))))
def a_fuglemanref18_Sub_Put : AFn := ⟨2, b_fuglemanref18_Sub_Put, [.t 4, .t 5], false, true⟩
theorem a_fuglemanref18_Sub_Put_ok : compF Try.prog Try.f20 [] false true hv = some a_fuglemanref18_Sub_Put := by kernel_rfl

/-! (*fugleman/gdata.Sub).Waits: 21 -/
def b_gdata_Sub_Waits : AC :=
 (.seq (.reg [⟨(some 2), none, .mv (.c (.v (.string ⟨#[]⟩)))⟩, ⟨(some 3), none, .alloc [(.v (.int .u16 0)), (.v (.int .u32 0))]⟩, ⟨(some 4), none, .mv (.c (.v (.bool false)))⟩])
 (.seq (.seq (.reg [⟨(some 5), none, .mv (.t 0)⟩, ⟨(some 6), none, .eqp false (.t 5) (.c (.v (.pointer none)))⟩])
   (.cond (.t 6) (.seq (.reg [⟨(some 7), none, .build [(.v (.int .u16 0)), (.v (.int .u32 0))] []⟩, ⟨(some 2), none, .mv (.c (.v (.string ⟨#[]⟩)))⟩, ⟨none, none, .store 2 (.t 3) (.t 7)⟩, ⟨(some 4), none, .mv (.c (.v (.bool false)))⟩])
     .ret)
    .skip))
  (.seq (.regs 15 [⟨(some 8), none, .mv (.t 0)⟩, ⟨(some 9), none, .nilck (.t 8)⟩, ⟨(some 10), none, .fad 4 (.t 9)⟩, ⟨(some 11), none, .fad 0 (.t 10)⟩, ⟨(some 12), none, .load none (.t 11)⟩, ⟨(some 13), none, .mv (.t 0)⟩, ⟨(some 14), none, .nilck (.t 13)⟩, ⟨(some 15), none, .fad 4 (.t 14)⟩, ⟨(some 16), none, .fad 1 (.t 15)⟩, ⟨(some 17), none, .load (some 2) (.t 16)⟩, ⟨(some 18), none, .mv (.t 0)⟩, ⟨(some 19), none, .nilck (.t 18)⟩, ⟨(some 20), none, .fad 7 (.t 19)⟩, ⟨(some 21), none, .load none (.t 20)⟩, ⟨(some 2), none, .mv (.t 12)⟩, ⟨none, none, .store 2 (.t 3) (.t 17)⟩, ⟨(some 4), none, .mv (.t 21)⟩])
   .ret)))
def a_gdata_Sub_Waits : AFn := ⟨1, b_gdata_Sub_Waits, [.t 2, .cell 3 (some 2), .t 4], false, false⟩
theorem a_gdata_Sub_Waits_ok : compF Try.prog Try.f21 [] false false hv = some a_gdata_Sub_Waits := by kernel_rfl

/-! fugleman/fuglemanlaw18.GdataSubscribes: 4 -/
def l_fuglemanlaw18_GdataSubscribes_1 : AC :=
 (.seq (.reg [⟨(some 6), none, .mv (.c (.v (.bool true)))⟩])
 .ret)
def l_fuglemanlaw18_GdataSubscribes_0 : AC :=
 (.seq (.reg [⟨(some 84), none, .bin .lss (.t 83) (.t 82)⟩])
 (.seq (.cond (.t 84) .skip
   (.exit 0))
  (.seq (.block 1 (.seq (.reg [⟨(some 85), none, .ixs 19 (.t 81) (.t 83)⟩, ⟨(some 86), none, .load (some 19) (.t 85)⟩, ⟨(some 14), none, .alloc [(.v (.int .i64 0)), (.v (.int .u8 0)), (.v (.int .u8 0)), (.v (.int .u16 0)), (.v (.int .u16 0)), (.v (.int .u16 0)), (.v (.int .u8 0)), (.v (.int .u16 0)), (.v (.int .u16 0)), (.v (.int .u16 0)), (.v (.int .u8 0)), (.v (.int .u16 0)), (.v (.bool false)), (.v (.int .u8 0)), (.v (.int .u16 0)), (.v (.int .u32 0)), (.v (.int .u8 0)), (.v (.int .u8 0)), (.v (.string ⟨#[]⟩))]⟩, ⟨none, none, .store 19 (.t 14) (.t 86)⟩])
     (.seq (.seq (.reg [⟨(some 87), none, .fad 0 (.t 14)⟩, ⟨(some 88), none, .fad 18 (.t 87)⟩, ⟨(some 89), none, .load none (.t 88)⟩, ⟨(some 90), none, .lens (.t 89)⟩, ⟨(some 91), none, .bin .gtr (.t 90) (.c (.v (.int .i64 40)))⟩])
       (.cond (.t 91) (.seq (.reg [⟨(some 6), none, .mv (.c (.v (.bool true)))⟩])
         .ret)
        .skip))
      (.seq (.seq (.reg [⟨(some 92), none, .fad 0 (.t 14)⟩, ⟨(some 93), none, .fad 0 (.t 92)⟩, ⟨(some 94), none, .load none (.t 93)⟩, ⟨(some 95), none, .bin .eql (.t 94) (.c (.v (.int .i64 0)))⟩])
        (.cond (.t 95) (.seq (.reg [⟨(some 96), none, .mv (.t 7)⟩, ⟨(some 97), none, .call (.c (.fn 15 [])) [(.t 96)]⟩, ⟨(some 98), none, .mv (.t 12)⟩, ⟨(some 99), none, .call (.c (.fn 19 [])) [(.t 98)]⟩, ⟨(some 100), none, .eqb true (.t 97) (.t 99)⟩])
          (.cond (.t 100) (.seq (.reg [⟨(some 6), none, .mv (.c (.v (.bool false)))⟩])
            .ret)
           .skip))
         (.seq (.reg [⟨(some 102), none, .mv (.t 7)⟩, ⟨(some 103), none, .fad 0 (.t 14)⟩, ⟨(some 104), none, .load (some 19) (.t 103)⟩, ⟨(some 105), none, .call (.c (.fn 12 [])) [(.t 102), (.t 104)]⟩, ⟨(some 101), none, .mv (.t 105)⟩, ⟨(some 106), none, .ext 0 (.t 101)⟩, ⟨(some 107), none, .ext 1 (.t 101)⟩, ⟨(some 15), none, .mv (.t 106)⟩, ⟨(some 16), none, .mv (.t 107)⟩])
          (.seq (.reg [⟨(some 109), none, .mv (.t 12)⟩, ⟨(some 110), none, .fad 0 (.t 14)⟩, ⟨(some 111), none, .load (some 19) (.t 110)⟩, ⟨(some 112), none, .call (.c (.fn 20 [])) [(.t 109), (.t 111)]⟩, ⟨(some 108), none, .mv (.t 112)⟩, ⟨(some 113), none, .ext 0 (.t 108)⟩, ⟨(some 114), none, .ext 1 (.t 108)⟩, ⟨(some 17), none, .mv (.t 113)⟩, ⟨(some 18), none, .mv (.t 114)⟩])
           (.seq (.reg [⟨(some 115), none, .mv (.t 15)⟩, ⟨(some 116), none, .mv (.t 17)⟩, ⟨(some 117), none, .eqb true (.t 115) (.t 116)⟩, ⟨(some 118), none, .mv (.t 117)⟩, ⟨(some 119), (some (118, false)), .mv (.t 16)⟩, ⟨(some 120), (some (118, false)), .mv (.t 18)⟩, ⟨(some 121), (some (118, false)), .bin .neq (.t 119) (.t 120)⟩, ⟨(some 122), none, .pick (.t 118) (.c (.v (.bool true))) (.t 121)⟩])
            (.cond (.t 122) (.seq (.reg [⟨(some 6), none, .mv (.c (.v (.bool false)))⟩])
              .ret)
             .skip))))))
       (.seq (.reg [⟨(some 124), none, .mv (.t 7)⟩, ⟨(some 125), none, .call (.c (.fn 16 [])) [(.t 124)]⟩, ⟨(some 123), none, .mv (.t 125)⟩, ⟨(some 126), none, .ext 0 (.t 123)⟩, ⟨(some 127), none, .ext 1 (.t 123)⟩, ⟨(some 20), none, .alloc [(.v (.int .u16 0)), (.v (.int .u32 0))]⟩, ⟨(some 19), none, .mv (.t 126)⟩, ⟨none, none, .store 2 (.t 20) (.t 127)⟩])
        (.seq (.reg [⟨(some 129), none, .mv (.t 7)⟩, ⟨(some 130), none, .call (.c (.fn 21 [])) [(.t 129)]⟩, ⟨(some 128), none, .mv (.t 130)⟩, ⟨(some 131), none, .ext 0 (.t 128)⟩, ⟨(some 132), none, .ext 1 (.t 128)⟩, ⟨(some 133), none, .ext 2 (.t 128)⟩, ⟨(some 22), none, .alloc [(.v (.int .u16 0)), (.v (.int .u32 0))]⟩, ⟨(some 21), none, .mv (.t 131)⟩, ⟨none, none, .store 2 (.t 22) (.t 132)⟩, ⟨(some 23), none, .mv (.t 133)⟩])
         (.seq (.regq [⟨(some 134), none, .mv (.t 19)⟩, ⟨(some 135), none, .mv (.t 12)⟩, ⟨(some 136), none, .nilck (.t 135)⟩, ⟨(some 137), none, .fad 5 (.t 136)⟩, ⟨(some 138), none, .load none (.t 137)⟩, ⟨(some 139), none, .bin .neq (.t 134) (.t 138)⟩, ⟨(some 140), none, .mv (.t 139)⟩, ⟨(some 141), (some (140, false)), .load (some 2) (.t 20)⟩, ⟨(some 142), (some (140, false)), .mv (.t 12)⟩, ⟨(some 143), (some (140, false)), .nilck (.t 142)⟩, ⟨(some 144), (some (140, false)), .fad 7 (.t 143)⟩, ⟨(some 145), (some (140, false)), .load (some 2) (.t 144)⟩, ⟨(some 146), (some (140, false)), .eqst true [(0, .i), (1, .i)] (.t 141) (.t 145)⟩, ⟨(some 147), none, .pick (.t 140) (.c (.v (.bool true))) (.t 146)⟩, ⟨(some 148), none, .mv (.t 147)⟩, ⟨(some 149), (some (148, false)), .mv (.t 21)⟩, ⟨(some 150), (some (148, false)), .mv (.t 12)⟩, ⟨(some 151), (some (148, false)), .nilck (.t 150)⟩, ⟨(some 152), (some (148, false)), .fad 6 (.t 151)⟩, ⟨(some 153), (some (148, false)), .load none (.t 152)⟩, ⟨(some 154), (some (148, false)), .bin .neq (.t 149) (.t 153)⟩, ⟨(some 155), none, .pick (.t 148) (.c (.v (.bool true))) (.t 154)⟩, ⟨(some 156), none, .mv (.t 155)⟩, ⟨(some 157), (some (156, false)), .load (some 2) (.t 22)⟩, ⟨(some 158), (some (156, false)), .mv (.t 12)⟩, ⟨(some 159), (some (156, false)), .nilck (.t 158)⟩, ⟨(some 160), (some (156, false)), .fad 9 (.t 159)⟩, ⟨(some 161), (some (156, false)), .load (some 2) (.t 160)⟩, ⟨(some 162), (some (156, false)), .eqst true [(0, .i), (1, .i)] (.t 157) (.t 161)⟩, ⟨(some 163), none, .pick (.t 156) (.c (.v (.bool true))) (.t 162)⟩, ⟨(some 164), none, .mv (.t 163)⟩, ⟨(some 165), (some (164, false)), .mv (.t 23)⟩, ⟨(some 166), (some (164, false)), .mv (.t 12)⟩, ⟨(some 167), (some (164, false)), .nilck (.t 166)⟩, ⟨(some 168), (some (164, false)), .fad 11 (.t 167)⟩, ⟨(some 169), (some (164, false)), .load none (.t 168)⟩, ⟨(some 170), (some (164, false)), .eqb true (.t 165) (.t 169)⟩, ⟨(some 171), none, .pick (.t 164) (.c (.v (.bool true))) (.t 170)⟩, ⟨(some 172), none, .mv (.t 171)⟩, ⟨(some 173), (some (172, false)), .mv (.t 7)⟩, ⟨(some 174), (some (172, false)), .call (.c (.fn 17 [])) [(.t 173)]⟩, ⟨(some 175), (some (172, false)), .mv (.t 12)⟩, ⟨(some 176), (some (172, false)), .nilck (.t 175)⟩, ⟨(some 177), (some (172, false)), .fad 12 (.t 176)⟩, ⟨(some 178), (some (172, false)), .load none (.t 177)⟩, ⟨(some 179), (some (172, false)), .eqb true (.t 174) (.t 178)⟩, ⟨(some 180), none, .pick (.t 172) (.c (.v (.bool true))) (.t 179)⟩])
          (.cond (.t 180) (.seq (.reg [⟨(some 6), none, .mv (.c (.v (.bool false)))⟩])
            .ret)
           .skip))))))))
   (.reg [⟨(some 181), none, .bin .add (.t 83) (.c (.v (.int .i64 1)))⟩, ⟨(some 83), none, .mv (.t 181)⟩]))))
def b_fuglemanlaw18_GdataSubscribes : AC :=
 (.seq (.reg [⟨(some 6), none, .mv (.c (.v (.bool false)))⟩])
 (.seq (.seq (.reg [⟨(some 24), none, .call (.c (.fn 7 [])) []⟩, ⟨(some 25), none, .un .not (.t 24)⟩])
   (.cond (.t 25) (.seq (.reg [⟨(some 6), none, .mv (.c (.v (.bool false)))⟩])
     .ret)
    .skip))
  (.seq (.seq (.reg [⟨(some 26), none, .mv (.t 1)⟩, ⟨(some 27), none, .lens (.t 26)⟩, ⟨(some 28), none, .bin .gtr (.t 27) (.c (.v (.int .i64 100)))⟩, ⟨(some 29), none, .mv (.t 28)⟩, ⟨(some 30), (some (29, false)), .mv (.t 2)⟩, ⟨(some 31), (some (29, false)), .len (.t 30)⟩, ⟨(some 32), (some (29, false)), .bin .gtr (.t 31) (.c (.v (.int .i64 80)))⟩, ⟨(some 33), none, .pick (.t 29) (.c (.v (.bool true))) (.t 32)⟩])
    (.cond (.t 33) (.seq (.reg [⟨(some 6), none, .mv (.c (.v (.bool true)))⟩])
      .ret)
     .skip))
   (.seq (.reg [⟨(some 34), none, .mv (.t 0)⟩, ⟨(some 35), none, .mv (.t 1)⟩, ⟨(some 36), none, .call (.c (.fn 9 [])) [(.t 34), (.t 35)]⟩, ⟨(some 7), none, .mv (.t 36)⟩])
    (.seq (.seq (.reg [⟨(some 37), none, .mv (.t 0)⟩, ⟨(some 38), none, .bin .lss (.t 37) (.c (.v (.int .i64 1)))⟩, ⟨(some 39), none, .mv (.t 38)⟩, ⟨(some 40), (some (39, false)), .mv (.t 0)⟩, ⟨(some 41), (some (39, false)), .bin .gtr (.t 40) (.c (.v (.int .i64 64)))⟩, ⟨(some 42), none, .pick (.t 39) (.c (.v (.bool true))) (.t 41)⟩])
      (.cond (.t 42) (.seq (.reg [⟨(some 44), none, .mv (.t 7)⟩, ⟨(some 45), none, .build [(.v (.int .i64 0)), (.v (.int .u8 0)), (.v (.int .u8 0)), (.v (.int .u16 0)), (.v (.int .u16 0)), (.v (.int .u16 0)), (.v (.int .u8 0)), (.v (.int .u16 0)), (.v (.int .u16 0)), (.v (.int .u16 0)), (.v (.int .u8 0)), (.v (.int .u16 0)), (.v (.bool false)), (.v (.int .u8 0)), (.v (.int .u16 0)), (.v (.int .u32 0)), (.v (.int .u8 0)), (.v (.int .u8 0)), (.v (.string ⟨#[]⟩))] [(0, 1, (.c (.v (.int .i64 4))))]⟩, ⟨(some 46), none, .call (.c (.fn 12 [])) [(.t 44), (.t 45)]⟩, ⟨(some 43), none, .mv (.t 46)⟩, ⟨(some 47), none, .ext 0 (.t 43)⟩, ⟨(some 48), none, .ext 1 (.t 43)⟩, ⟨(some 8), none, .mv (.t 47)⟩, ⟨(some 9), none, .mv (.t 48)⟩])
        (.seq (.reg [⟨(some 50), none, .mv (.t 7)⟩, ⟨(some 51), none, .call (.c (.fn 16 [])) [(.t 50)]⟩, ⟨(some 49), none, .mv (.t 51)⟩, ⟨(some 52), none, .ext 0 (.t 49)⟩, ⟨(some 53), none, .ext 1 (.t 49)⟩, ⟨(some 11), none, .alloc [(.v (.int .u16 0)), (.v (.int .u32 0))]⟩, ⟨(some 10), none, .mv (.t 52)⟩, ⟨none, none, .store 2 (.t 11) (.t 53)⟩])
         (.seq (.reg [⟨(some 54), none, .mv (.t 7)⟩, ⟨(some 55), none, .eqp false (.t 54) (.c (.v (.pointer none)))⟩, ⟨(some 56), none, .mv (.t 55)⟩, ⟨(some 57), (some (56, true)), .mv (.t 8)⟩, ⟨(some 58), (some (56, true)), .un .not (.t 57)⟩, ⟨(some 59), none, .pick (.t 56) (.t 58) (.c (.v (.bool false)))⟩, ⟨(some 60), none, .mv (.t 59)⟩, ⟨(some 61), (some (60, true)), .mv (.t 9)⟩, ⟨(some 62), (some (60, true)), .bin .eql (.t 61) (.c (.v (.int .i64 1)))⟩, ⟨(some 63), none, .pick (.t 60) (.t 62) (.c (.v (.bool false)))⟩, ⟨(some 64), none, .mv (.t 63)⟩, ⟨(some 65), (some (64, true)), .mv (.t 10)⟩, ⟨(some 66), (some (64, true)), .bin .eql (.t 65) (.c (.v (.string ⟨#[]⟩)))⟩, ⟨(some 67), none, .pick (.t 64) (.t 66) (.c (.v (.bool false)))⟩, ⟨(some 68), none, .mv (.t 67)⟩, ⟨(some 69), (some (68, true)), .mv (.t 7)⟩, ⟨(some 70), (some (68, true)), .call (.c (.fn 15 [])) [(.t 69)]⟩, ⟨(some 71), (some (68, true)), .un .not (.t 70)⟩, ⟨(some 72), none, .pick (.t 68) (.t 71) (.c (.v (.bool false)))⟩, ⟨(some 73), none, .mv (.t 72)⟩, ⟨(some 74), (some (73, true)), .mv (.t 7)⟩, ⟨(some 75), (some (73, true)), .call (.c (.fn 17 [])) [(.t 74)]⟩, ⟨(some 76), (some (73, true)), .un .not (.t 75)⟩, ⟨(some 77), none, .pick (.t 73) (.t 76) (.c (.v (.bool false)))⟩, ⟨(some 6), none, .mv (.t 77)⟩])
          .ret)))
       .skip))
     (.seq (.reg [⟨(some 78), none, .mv (.t 0)⟩, ⟨(some 79), none, .mv (.t 1)⟩, ⟨(some 80), none, .call (.c (.fn 18 [])) [(.t 78), (.t 79)]⟩, ⟨(some 12), none, .mv (.t 80)⟩])
      (.seq (.seq (.reg [⟨(some 81), none, .mv (.t 2)⟩, ⟨(some 82), none, .len (.t 81)⟩, ⟨(some 83), none, .mv (.c (.v (.int .i64 0)))⟩])
        (.block 0 (.loop [7, 12, 81, 82, 83] l_fuglemanlaw18_GdataSubscribes_0)))
       l_fuglemanlaw18_GdataSubscribes_1)))))))
def a_fuglemanlaw18_GdataSubscribes : AFn := ⟨3, b_fuglemanlaw18_GdataSubscribes, [.t 6], false, false⟩
theorem a_fuglemanlaw18_GdataSubscribes_ok : compF Try.prog Try.f4 [[7, 12, 81, 82, 83]] false false hv = some a_fuglemanlaw18_GdataSubscribes := by kernel_rfl

/-! (*fugleman/gdata.Pub).Last: 22 -/
def b_gdata_Pub_Last : AC :=
 (.seq (.reg [⟨(some 2), none, .mv (.c (.v (.string ⟨#[]⟩)))⟩, ⟨(some 3), none, .alloc [(.v (.int .u16 0)), (.v (.int .u32 0))]⟩, ⟨(some 4), none, .mv (.c (.v (.bool false)))⟩])
 (.seq (.seq (.reg [⟨(some 5), none, .mv (.t 0)⟩, ⟨(some 6), none, .call (.c (.fn 29 [])) [(.t 5)]⟩, ⟨(some 7), none, .un .not (.t 6)⟩])
   (.cond (.t 7) (.seq (.reg [⟨(some 8), none, .build [(.v (.int .u16 0)), (.v (.int .u32 0))] []⟩, ⟨(some 2), none, .mv (.c (.v (.string ⟨#[]⟩)))⟩, ⟨none, none, .store 2 (.t 3) (.t 8)⟩, ⟨(some 4), none, .mv (.c (.v (.bool false)))⟩])
     .ret)
    .skip))
  (.seq (.regt 11 [⟨(some 9), none, .mv (.t 0)⟩, ⟨(some 10), none, .nilck (.t 9)⟩, ⟨(some 11), none, .fad 1 (.t 10)⟩, ⟨(some 12), none, .fad 0 (.t 11)⟩, ⟨(some 13), none, .load none (.t 12)⟩, ⟨(some 14), none, .mv (.t 0)⟩, ⟨(some 15), none, .nilck (.t 14)⟩, ⟨(some 16), none, .fad 1 (.t 15)⟩, ⟨(some 17), none, .fad 1 (.t 16)⟩, ⟨(some 18), none, .load (some 2) (.t 17)⟩, ⟨(some 2), none, .mv (.t 13)⟩, ⟨none, none, .store 2 (.t 3) (.t 18)⟩, ⟨(some 4), none, .mv (.c (.v (.bool true)))⟩])
   .ret)))
def a_gdata_Pub_Last : AFn := ⟨1, b_gdata_Pub_Last, [.t 2, .cell 3 (some 2), .t 4], false, false⟩
theorem a_gdata_Pub_Last_ok : compF Try.prog Try.f22 [] false false hv = some a_gdata_Pub_Last := by kernel_rfl

/-! (*fugleman/fuglemanref18.Pub).Commit: 24 -/
def b_fuglemanref18_Pub_Commit : AC :=
 (.seq (.reg [⟨(some 4), none, .mv (.c (.v (.int .i64 0)))⟩])
 (.seq (.seq (.reg [⟨(some 5), none, .mv (.t 1)⟩, ⟨(some 6), none, .lens (.t 5)⟩, ⟨(some 7), none, .mv (.t 0)⟩, ⟨(some 8), none, .nilck (.t 7)⟩, ⟨(some 9), none, .fad 0 (.t 8)⟩, ⟨(some 10), none, .load none (.t 9)⟩, ⟨(some 11), none, .bin .neq (.t 6) (.t 10)⟩])
   (.cond (.t 11) (.seq (.reg [⟨(some 4), none, .mv (.c (.v (.int .i64 10)))⟩])
     .ret)
    .skip))
  (.seq (.seq (.reg [⟨(some 12), none, .mv (.t 0)⟩, ⟨(some 13), none, .nilck (.t 12)⟩, ⟨(some 14), none, .fad 2 (.t 13)⟩, ⟨(some 15), none, .load none (.t 14)⟩, ⟨(some 16), none, .bin .eql (.t 15) (.c (.v (.int .u32 4294967295)))⟩])
    (.cond (.t 16) (.seq (.reg [⟨(some 4), none, .mv (.c (.v (.int .i64 13)))⟩])
      .ret)
     .skip))
   (.seq (.reg [⟨(some 17), none, .mv (.t 0)⟩, ⟨(some 18), none, .nilck (.t 17)⟩, ⟨(some 19), none, .fad 2 (.t 18)⟩, ⟨(some 20), none, .load none (.t 19)⟩, ⟨(some 21), none, .bin .add (.t 20) (.c (.v (.int .u32 1)))⟩, ⟨(some 22), none, .nilck (.t 17)⟩, ⟨(some 23), none, .fad 2 (.t 22)⟩, ⟨none, none, .store 1 (.t 23) (.t 21)⟩])
    (.seq (.reg [⟨(some 24), none, .mv (.t 0)⟩, ⟨(some 25), none, .mv (.t 1)⟩, ⟨(some 26), none, .nilck (.t 24)⟩, ⟨(some 27), none, .fad 3 (.t 26)⟩, ⟨none, none, .store 1 (.t 27) (.t 25)⟩])
     (.seq (.reg [⟨(some 4), none, .mv (.c (.v (.int .i64 0)))⟩])
      .ret))))))
def a_fuglemanref18_Pub_Commit : AFn := ⟨2, b_fuglemanref18_Pub_Commit, [.t 4], false, true⟩
theorem a_fuglemanref18_Pub_Commit_ok : compF Try.prog Try.f24 [] false true hv = some a_fuglemanref18_Pub_Commit := by kernel_rfl

/-! fugleman/fuglemanref17.Split: 33 -/
def l_fuglemanref17_Split_1 : AC :=
 (.seq (.reg [⟨(some 36), none, .mv (.t 6)⟩, ⟨(some 4), none, .mv (.t 36)⟩])
 .ret)
def l_fuglemanref17_Split_0 : AC :=
 (.seq (.seq (.reg [⟨(some 13), none, .mv (.t 7)⟩, ⟨(some 14), none, .mv (.t 5)⟩, ⟨(some 15), none, .len (.t 14)⟩, ⟨(some 16), none, .bin .lss (.t 13) (.t 15)⟩])
  (.cond (.t 16) .skip
   (.exit 0)))
 (.seq (.block 1 (.seq (.reg [⟨(some 19), none, .fad 0 (.t 2)⟩, ⟨none, none, .store 1 (.t 19) (.c (.v (.int .i64 4)))⟩])
    (.seq (.reg [⟨(some 20), none, .mv (.t 7)⟩, ⟨(some 21), none, .cvi .u8 (.t 20)⟩, ⟨(some 22), none, .fad 16 (.t 2)⟩, ⟨none, none, .store 1 (.t 22) (.t 21)⟩])
     (.seq (.reg [⟨(some 23), none, .mv (.t 5)⟩, ⟨(some 24), none, .len (.t 23)⟩, ⟨(some 25), none, .cvi .u8 (.t 24)⟩, ⟨(some 26), none, .fad 17 (.t 2)⟩, ⟨none, none, .store 1 (.t 26) (.t 25)⟩])
      (.seq (.reg [⟨(some 27), none, .mv (.t 5)⟩, ⟨(some 28), none, .mv (.t 7)⟩, ⟨(some 29), none, .ixs 1 (.t 27) (.t 28)⟩, ⟨(some 30), none, .load none (.t 29)⟩, ⟨(some 31), none, .fad 18 (.t 2)⟩, ⟨none, none, .store 1 (.t 31) (.t 30)⟩])
       (.reg [⟨(some 32), none, .mv (.t 6)⟩, ⟨(some 33), none, .load (some 19) (.t 2)⟩, ⟨(some 34), none, .row 19 1 [(.v (.int .i64 0)), (.v (.int .u8 0)), (.v (.int .u8 0)), (.v (.int .u16 0)), (.v (.int .u16 0)), (.v (.int .u16 0)), (.v (.int .u8 0)), (.v (.int .u16 0)), (.v (.int .u16 0)), (.v (.int .u16 0)), (.v (.int .u8 0)), (.v (.int .u16 0)), (.v (.bool false)), (.v (.int .u8 0)), (.v (.int .u16 0)), (.v (.int .u32 0)), (.v (.int .u8 0)), (.v (.int .u8 0)), (.v (.string ⟨#[]⟩))] [(0, 19, (.t 33))]⟩, ⟨(some 35), none, .app 19 64 (.t 32) (.t 34)⟩, ⟨(some 6), none, .mv (.t 35)⟩]))))))
  (.reg [⟨(some 17), none, .mv (.t 7)⟩, ⟨(some 18), none, .bin .add (.t 17) (.c (.v (.int .i64 1)))⟩, ⟨(some 7), none, .mv (.t 18)⟩])))
def b_fuglemanref17_Split : AC :=
 (.seq (.reg [⟨(some 2), none, .box (.t 0)⟩, ⟨(some 4), none, .mv (.c (.v (.slice none 0 0)))⟩])
 (.seq (.seq (.reg [⟨(some 8), none, .mv (.t 1)⟩, ⟨(some 9), none, .lens (.t 8)⟩, ⟨(some 10), none, .bin .gtr (.t 9) (.c (.v (.int .i64 64)))⟩])
   (.cond (.t 10) (.seq (.reg [⟨(some 4), none, .mv (.c (.v (.slice none 0 0)))⟩])
     .ret)
    .skip))
  (.seq (.reg [⟨(some 11), none, .mv (.t 1)⟩, ⟨(some 12), none, .call (.c (.fn 45 [])) [(.t 11)]⟩, ⟨(some 5), none, .mv (.t 12)⟩])
   (.seq (.reg [⟨(some 6), none, .mv (.c (.v (.slice none 0 0)))⟩])
    (.seq (.seq (.reg [⟨(some 7), none, .mv (.c (.v (.int .i64 0)))⟩])
      (.block 0 (.loop [2, 5, 6, 7] l_fuglemanref17_Split_0)))
     l_fuglemanref17_Split_1)))))
def a_fuglemanref17_Split : AFn := ⟨2, b_fuglemanref17_Split, [.t 4], true, false⟩
theorem a_fuglemanref17_Split_ok : compF Try.prog Try.f33 [[2, 5, 6, 7]] true false hv = some a_fuglemanref17_Split := by kernel_rfl

/-! (*fugleman/fuglemanref18.Pub).Next: 25 -/
def b_fuglemanref18_Pub_Next : AC :=
 (.seq (.reg [⟨(some 2), none, .alloc [(.v (.int .i64 0)), (.v (.int .u8 0)), (.v (.int .u8 0)), (.v (.int .u16 0)), (.v (.int .u16 0)), (.v (.int .u16 0)), (.v (.int .u8 0)), (.v (.int .u16 0)), (.v (.int .u16 0)), (.v (.int .u16 0)), (.v (.int .u8 0)), (.v (.int .u16 0)), (.v (.bool false)), (.v (.int .u8 0)), (.v (.int .u16 0)), (.v (.int .u32 0)), (.v (.int .u8 0)), (.v (.int .u8 0)), (.v (.string ⟨#[]⟩))]⟩, ⟨(some 3), none, .mv (.c (.v (.bool false)))⟩])
 (.seq (.seq (.reg [⟨(some 5), none, .mv (.t 0)⟩, ⟨(some 6), none, .nilck (.t 5)⟩, ⟨(some 7), none, .fad 2 (.t 6)⟩, ⟨(some 8), none, .load none (.t 7)⟩, ⟨(some 9), none, .bin .eql (.t 8) (.c (.v (.int .u32 0)))⟩])
   (.cond (.t 9) (.seq (.reg [⟨(some 10), none, .build [(.v (.int .i64 0)), (.v (.int .u8 0)), (.v (.int .u8 0)), (.v (.int .u16 0)), (.v (.int .u16 0)), (.v (.int .u16 0)), (.v (.int .u8 0)), (.v (.int .u16 0)), (.v (.int .u16 0)), (.v (.int .u16 0)), (.v (.int .u8 0)), (.v (.int .u16 0)), (.v (.bool false)), (.v (.int .u8 0)), (.v (.int .u16 0)), (.v (.int .u32 0)), (.v (.int .u8 0)), (.v (.int .u8 0)), (.v (.string ⟨#[]⟩))] []⟩, ⟨none, none, .store 19 (.t 2) (.t 10)⟩, ⟨(some 3), none, .mv (.c (.v (.bool false)))⟩])
     .ret)
    .skip))
  (.seq (.seq (.reg [⟨(some 11), none, .mv (.t 0)⟩, ⟨(some 12), none, .nilck (.t 11)⟩, ⟨(some 13), none, .fad 4 (.t 12)⟩, ⟨(some 14), none, .load none (.t 13)⟩, ⟨(some 15), none, .len (.t 14)⟩, ⟨(some 16), none, .bin .eql (.t 15) (.c (.v (.int .i64 0)))⟩])
    (.cond (.t 16) (.regm [(.o, ⟨(some 17), none, .mv (.t 0)⟩), (.o, ⟨(some 18), none, .mv (.t 0)⟩), (.o, ⟨(some 19), none, .nilck (.t 18)⟩), (.o, ⟨(some 20), none, .fad 1 (.t 19)⟩), (.o, ⟨(some 21), none, .load none (.t 20)⟩), (.o, ⟨(some 22), none, .mv (.t 0)⟩), (.o, ⟨(some 23), none, .nilck (.t 22)⟩), (.o, ⟨(some 24), none, .fad 2 (.t 23)⟩), (.o, ⟨(some 25), none, .load none (.t 24)⟩), (.o, ⟨(some 26), none, .build [(.v (.int .u16 0)), (.v (.int .u32 0))] [(0, 1, (.t 21)), (1, 1, (.t 25))]⟩), (.o, ⟨(some 27), none, .build [(.v (.int .i64 0)), (.v (.int .u8 0)), (.v (.int .u8 0)), (.v (.int .u16 0)), (.v (.int .u16 0)), (.v (.int .u16 0)), (.v (.int .u8 0)), (.v (.int .u16 0)), (.v (.int .u16 0)), (.v (.int .u16 0)), (.v (.int .u8 0)), (.v (.int .u16 0)), (.v (.bool false)), (.v (.int .u8 0)), (.v (.int .u16 0)), (.v (.int .u32 0)), (.v (.int .u8 0)), (.v (.int .u8 0)), (.v (.string ⟨#[]⟩))] [(14, 2, (.t 26))]⟩), (.o, ⟨(some 28), none, .mv (.t 0)⟩), (.o, ⟨(some 29), none, .nilck (.t 28)⟩), (.o, ⟨(some 30), none, .fad 3 (.t 29)⟩), (.o, ⟨(some 31), none, .load none (.t 30)⟩), (.o, ⟨(some 32), none, .call (.c (.fn 33 [])) [(.t 27), (.t 31)]⟩), (.o, ⟨(some 33), none, .nilck (.t 17)⟩), (.o, ⟨(some 34), none, .fad 4 (.t 33)⟩), (.o, ⟨none, none, .store 1 (.t 34) (.t 32)⟩)])
     .skip))
   (.seq (.reg [⟨(some 35), none, .mv (.t 0)⟩, ⟨(some 36), none, .nilck (.t 35)⟩, ⟨(some 37), none, .fad 4 (.t 36)⟩, ⟨(some 38), none, .load none (.t 37)⟩, ⟨(some 39), none, .ixs 19 (.t 38) (.c (.v (.int .i64 0)))⟩, ⟨(some 40), none, .load (some 19) (.t 39)⟩, ⟨(some 4), none, .alloc [(.v (.int .i64 0)), (.v (.int .u8 0)), (.v (.int .u8 0)), (.v (.int .u16 0)), (.v (.int .u16 0)), (.v (.int .u16 0)), (.v (.int .u8 0)), (.v (.int .u16 0)), (.v (.int .u16 0)), (.v (.int .u16 0)), (.v (.int .u8 0)), (.v (.int .u16 0)), (.v (.bool false)), (.v (.int .u8 0)), (.v (.int .u16 0)), (.v (.int .u32 0)), (.v (.int .u8 0)), (.v (.int .u8 0)), (.v (.string ⟨#[]⟩))]⟩, ⟨none, none, .store 19 (.t 4) (.t 40)⟩])
    (.seq (.reg [⟨(some 41), none, .mv (.t 0)⟩, ⟨(some 42), none, .mv (.t 0)⟩, ⟨(some 43), none, .nilck (.t 42)⟩, ⟨(some 44), none, .fad 4 (.t 43)⟩, ⟨(some 45), none, .load none (.t 44)⟩, ⟨(some 46), none, .sls 19 (.t 45) (some (.c (.v (.int .i64 1)))) none none⟩, ⟨(some 47), none, .nilck (.t 41)⟩, ⟨(some 48), none, .fad 4 (.t 47)⟩, ⟨none, none, .store 1 (.t 48) (.t 46)⟩])
     (.seq (.reg [⟨(some 49), none, .load (some 19) (.t 4)⟩, ⟨none, none, .store 19 (.t 2) (.t 49)⟩, ⟨(some 3), none, .mv (.c (.v (.bool true)))⟩])
      .ret))))))
def a_fuglemanref18_Pub_Next : AFn := ⟨1, b_fuglemanref18_Pub_Next, [.cell 2 (some 19), .t 3], false, true⟩
theorem a_fuglemanref18_Pub_Next_ok : compF Try.prog Try.f25 [] false true hv = some a_fuglemanref18_Pub_Next := by kernel_rfl

/-! fugleman/fuglemanlaw18.GdataPublishes: 6 -/
def l_fuglemanlaw18_GdataPublishes_1 : AC :=
 (.seq (.reg [⟨(some 6), none, .mv (.c (.v (.bool true)))⟩])
 .ret)
def l_fuglemanlaw18_GdataPublishes_0 : AC :=
 (.seq (.reg [⟨(some 63), none, .bin .lss (.t 62) (.t 61)⟩])
 (.seq (.cond (.t 63) .skip
   (.exit 0))
  (.seq (.block 1 (.seq (.reg [⟨(some 64), none, .ixs 1 (.t 60) (.t 62)⟩, ⟨(some 65), none, .load none (.t 64)⟩, ⟨(some 12), none, .mv (.t 65)⟩])
     (.seq (.seq (.reg [⟨(some 66), none, .mv (.t 12)⟩, ⟨(some 67), none, .lens (.t 66)⟩, ⟨(some 68), none, .bin .gtr (.t 67) (.c (.v (.int .i64 100)))⟩])
       (.cond (.t 68) (.seq (.reg [⟨(some 6), none, .mv (.c (.v (.bool true)))⟩])
         .ret)
        .skip))
      (.seq (.seq (.reg [⟨(some 69), none, .mv (.t 12)⟩, ⟨(some 70), none, .bin .neq (.t 69) (.c (.v (.string ⟨#[]⟩)))⟩])
        (.cond (.t 70) (.seq (.reg [⟨(some 71), none, .mv (.t 7)⟩, ⟨(some 72), none, .mv (.t 12)⟩, ⟨(some 73), none, .call (.c (.fn 13 [])) [(.t 71), (.t 72)]⟩, ⟨(some 74), none, .mv (.t 10)⟩, ⟨(some 75), none, .mv (.t 12)⟩, ⟨(some 76), none, .call (.c (.fn 24 [])) [(.t 74), (.t 75)]⟩, ⟨(some 77), none, .bin .neq (.t 73) (.t 76)⟩])
          (.cond (.t 77) (.seq (.reg [⟨(some 6), none, .mv (.c (.v (.bool false)))⟩])
            .ret)
           .skip))
         (.seq (.reg [⟨(some 79), none, .mv (.t 7)⟩, ⟨(some 80), none, .call (.c (.fn 11 [])) [(.t 79)]⟩, ⟨(some 78), none, .mv (.t 80)⟩, ⟨(some 81), none, .ext 0 (.t 78)⟩, ⟨(some 82), none, .ext 1 (.t 78)⟩, ⟨(some 13), none, .alloc [(.v (.int .i64 0)), (.v (.int .u8 0)), (.v (.int .u8 0)), (.v (.int .u16 0)), (.v (.int .u16 0)), (.v (.int .u16 0)), (.v (.int .u8 0)), (.v (.int .u16 0)), (.v (.int .u16 0)), (.v (.int .u16 0)), (.v (.int .u8 0)), (.v (.int .u16 0)), (.v (.bool false)), (.v (.int .u8 0)), (.v (.int .u16 0)), (.v (.int .u32 0)), (.v (.int .u8 0)), (.v (.int .u8 0)), (.v (.string ⟨#[]⟩))]⟩, ⟨none, none, .store 19 (.t 13) (.t 81)⟩, ⟨(some 14), none, .mv (.t 82)⟩])
          (.seq (.reg [⟨(some 84), none, .mv (.t 10)⟩, ⟨(some 85), none, .call (.c (.fn 25 [])) [(.t 84)]⟩, ⟨(some 83), none, .mv (.t 85)⟩, ⟨(some 86), none, .ext 0 (.t 83)⟩, ⟨(some 87), none, .ext 1 (.t 83)⟩, ⟨(some 15), none, .alloc [(.v (.int .i64 0)), (.v (.int .u8 0)), (.v (.int .u8 0)), (.v (.int .u16 0)), (.v (.int .u16 0)), (.v (.int .u16 0)), (.v (.int .u8 0)), (.v (.int .u16 0)), (.v (.int .u16 0)), (.v (.int .u16 0)), (.v (.int .u8 0)), (.v (.int .u16 0)), (.v (.bool false)), (.v (.int .u8 0)), (.v (.int .u16 0)), (.v (.int .u32 0)), (.v (.int .u8 0)), (.v (.int .u8 0)), (.v (.string ⟨#[]⟩))]⟩, ⟨none, none, .store 19 (.t 15) (.t 86)⟩, ⟨(some 16), none, .mv (.t 87)⟩])
           (.seq (.reg [⟨(some 88), none, .load (some 19) (.t 13)⟩, ⟨(some 89), none, .load (some 19) (.t 15)⟩, ⟨(some 90), none, .eqst true [(0, .i), (1, .i), (2, .i), (3, .i), (4, .i), (5, .i), (6, .i), (7, .i), (8, .i), (9, .i), (10, .i), (11, .i), (12, .b), (13, .i), (14, .i), (15, .i), (16, .i), (17, .i), (18, .s)] (.t 88) (.t 89)⟩, ⟨(some 91), none, .mv (.t 90)⟩, ⟨(some 92), (some (91, false)), .mv (.t 14)⟩, ⟨(some 93), (some (91, false)), .mv (.t 16)⟩, ⟨(some 94), (some (91, false)), .eqb true (.t 92) (.t 93)⟩, ⟨(some 95), none, .pick (.t 91) (.c (.v (.bool true))) (.t 94)⟩])
            (.cond (.t 95) (.seq (.reg [⟨(some 6), none, .mv (.c (.v (.bool false)))⟩])
              .ret)
             .skip))))))
       (.seq (.reg [⟨(some 97), none, .mv (.t 7)⟩, ⟨(some 98), none, .call (.c (.fn 22 [])) [(.t 97)]⟩, ⟨(some 96), none, .mv (.t 98)⟩, ⟨(some 99), none, .ext 0 (.t 96)⟩, ⟨(some 100), none, .ext 1 (.t 96)⟩, ⟨(some 101), none, .ext 2 (.t 96)⟩, ⟨(some 18), none, .alloc [(.v (.int .u16 0)), (.v (.int .u32 0))]⟩, ⟨(some 17), none, .mv (.t 99)⟩, ⟨none, none, .store 2 (.t 18) (.t 100)⟩, ⟨(some 19), none, .mv (.t 101)⟩])
        (.seq (.reg [⟨(some 102), none, .mv (.t 1)⟩, ⟨(some 103), none, .mv (.t 10)⟩, ⟨(some 104), none, .nilck (.t 103)⟩, ⟨(some 105), none, .fad 2 (.t 104)⟩, ⟨(some 106), none, .load none (.t 105)⟩, ⟨(some 107), none, .build [(.v (.int .u16 0)), (.v (.int .u32 0))] [(0, 1, (.t 102)), (1, 1, (.t 106))]⟩, ⟨(some 20), none, .alloc [(.v (.int .u16 0)), (.v (.int .u32 0))]⟩, ⟨none, none, .store 2 (.t 20) (.t 107)⟩])
         (.seq (.seq (.reg [⟨(some 108), none, .mv (.t 10)⟩, ⟨(some 109), none, .nilck (.t 108)⟩, ⟨(some 110), none, .fad 2 (.t 109)⟩, ⟨(some 111), none, .load none (.t 110)⟩, ⟨(some 112), none, .bin .eql (.t 111) (.c (.v (.int .u32 0)))⟩])
           (.cond (.t 112) (.reg [⟨(some 113), none, .build [(.v (.int .u16 0)), (.v (.int .u32 0))] []⟩, ⟨none, none, .store 2 (.t 20) (.t 113)⟩])
            .skip))
          (.seq (.regq [⟨(some 114), none, .mv (.t 7)⟩, ⟨(some 115), none, .call (.c (.fn 14 [])) [(.t 114)]⟩, ⟨(some 116), none, .mv (.t 10)⟩, ⟨(some 117), none, .nilck (.t 116)⟩, ⟨(some 118), none, .fad 4 (.t 117)⟩, ⟨(some 119), none, .load none (.t 118)⟩, ⟨(some 120), none, .len (.t 119)⟩, ⟨(some 121), none, .bin .neq (.t 115) (.t 120)⟩, ⟨(some 122), none, .mv (.t 121)⟩, ⟨(some 123), (some (122, false)), .mv (.t 17)⟩, ⟨(some 124), (some (122, false)), .mv (.t 10)⟩, ⟨(some 125), (some (122, false)), .nilck (.t 124)⟩, ⟨(some 126), (some (122, false)), .fad 3 (.t 125)⟩, ⟨(some 127), (some (122, false)), .load none (.t 126)⟩, ⟨(some 128), (some (122, false)), .bin .neq (.t 123) (.t 127)⟩, ⟨(some 129), none, .pick (.t 122) (.c (.v (.bool true))) (.t 128)⟩, ⟨(some 130), none, .mv (.t 129)⟩, ⟨(some 131), (some (130, false)), .load (some 2) (.t 18)⟩, ⟨(some 132), (some (130, false)), .load (some 2) (.t 20)⟩, ⟨(some 133), (some (130, false)), .eqst true [(0, .i), (1, .i)] (.t 131) (.t 132)⟩, ⟨(some 134), none, .pick (.t 130) (.c (.v (.bool true))) (.t 133)⟩, ⟨(some 135), none, .mv (.t 134)⟩, ⟨(some 136), (some (135, false)), .mv (.t 19)⟩, ⟨(some 137), (some (135, false)), .mv (.t 10)⟩, ⟨(some 138), (some (135, false)), .nilck (.t 137)⟩, ⟨(some 139), (some (135, false)), .fad 2 (.t 138)⟩, ⟨(some 140), (some (135, false)), .load none (.t 139)⟩, ⟨(some 141), (some (135, false)), .bin .gtr (.t 140) (.c (.v (.int .u32 0)))⟩, ⟨(some 142), (some (135, false)), .eqb true (.t 136) (.t 141)⟩, ⟨(some 143), none, .pick (.t 135) (.c (.v (.bool true))) (.t 142)⟩])
           (.cond (.t 143) (.seq (.reg [⟨(some 6), none, .mv (.c (.v (.bool false)))⟩])
             .ret)
            .skip)))))))))
   (.reg [⟨(some 144), none, .bin .add (.t 62) (.c (.v (.int .i64 1)))⟩, ⟨(some 62), none, .mv (.t 144)⟩]))))
def b_fuglemanlaw18_GdataPublishes : AC :=
 (.seq (.reg [⟨(some 6), none, .mv (.c (.v (.bool false)))⟩])
 (.seq (.seq (.reg [⟨(some 21), none, .call (.c (.fn 7 [])) []⟩, ⟨(some 22), none, .un .not (.t 21)⟩])
   (.cond (.t 22) (.seq (.reg [⟨(some 6), none, .mv (.c (.v (.bool false)))⟩])
     .ret)
    .skip))
  (.seq (.seq (.reg [⟨(some 23), none, .mv (.t 2)⟩, ⟨(some 24), none, .len (.t 23)⟩, ⟨(some 25), none, .bin .gtr (.t 24) (.c (.v (.int .i64 80)))⟩])
    (.cond (.t 25) (.seq (.reg [⟨(some 6), none, .mv (.c (.v (.bool true)))⟩])
      .ret)
     .skip))
   (.seq (.reg [⟨(some 26), none, .mv (.t 0)⟩, ⟨(some 27), none, .mv (.t 1)⟩, ⟨(some 28), none, .call (.c (.fn 8 [])) [(.t 26), (.t 27)]⟩, ⟨(some 7), none, .mv (.t 28)⟩])
    (.seq (.seq (.reg [⟨(some 29), none, .mv (.t 0)⟩, ⟨(some 30), none, .bin .lss (.t 29) (.c (.v (.int .i64 1)))⟩, ⟨(some 31), none, .mv (.t 30)⟩, ⟨(some 32), (some (31, false)), .mv (.t 0)⟩, ⟨(some 33), (some (31, false)), .bin .gtr (.t 32) (.c (.v (.int .i64 64)))⟩, ⟨(some 34), none, .pick (.t 31) (.c (.v (.bool true))) (.t 33)⟩])
      (.cond (.t 34) (.seq (.reg [⟨(some 36), none, .mv (.t 7)⟩, ⟨(some 37), none, .call (.c (.fn 11 [])) [(.t 36)]⟩, ⟨(some 35), none, .mv (.t 37)⟩, ⟨(some 38), none, .ext 0 (.t 35)⟩, ⟨(some 39), none, .ext 1 (.t 35)⟩, ⟨(some 8), none, .alloc [(.v (.int .i64 0)), (.v (.int .u8 0)), (.v (.int .u8 0)), (.v (.int .u16 0)), (.v (.int .u16 0)), (.v (.int .u16 0)), (.v (.int .u8 0)), (.v (.int .u16 0)), (.v (.int .u16 0)), (.v (.int .u16 0)), (.v (.int .u8 0)), (.v (.int .u16 0)), (.v (.bool false)), (.v (.int .u8 0)), (.v (.int .u16 0)), (.v (.int .u32 0)), (.v (.int .u8 0)), (.v (.int .u8 0)), (.v (.string ⟨#[]⟩))]⟩, ⟨none, none, .store 19 (.t 8) (.t 38)⟩, ⟨(some 9), none, .mv (.t 39)⟩])
        (.seq (.reg [⟨(some 40), none, .mv (.t 7)⟩, ⟨(some 41), none, .eqp false (.t 40) (.c (.v (.pointer none)))⟩, ⟨(some 42), none, .mv (.t 41)⟩, ⟨(some 43), (some (42, true)), .mv (.t 7)⟩, ⟨(some 44), (some (42, true)), .call (.c (.fn 13 [])) [(.t 43), (.c (.v (.string ⟨#[]⟩)))]⟩, ⟨(some 45), (some (42, true)), .bin .eql (.t 44) (.c (.v (.int .i64 1)))⟩, ⟨(some 46), none, .pick (.t 42) (.t 45) (.c (.v (.bool false)))⟩, ⟨(some 47), none, .mv (.t 46)⟩, ⟨(some 48), (some (47, true)), .mv (.t 9)⟩, ⟨(some 49), (some (47, true)), .un .not (.t 48)⟩, ⟨(some 50), none, .pick (.t 47) (.t 49) (.c (.v (.bool false)))⟩, ⟨(some 51), none, .mv (.t 50)⟩, ⟨(some 52), (some (51, true)), .mv (.t 7)⟩, ⟨(some 53), (some (51, true)), .call (.c (.fn 14 [])) [(.t 52)]⟩, ⟨(some 54), (some (51, true)), .bin .eql (.t 53) (.c (.v (.int .i64 0)))⟩, ⟨(some 55), none, .pick (.t 51) (.t 54) (.c (.v (.bool false)))⟩, ⟨(some 6), none, .mv (.t 55)⟩])
         .ret))
       .skip))
     (.seq (.reg [⟨(some 56), none, .mv (.t 0)⟩, ⟨(some 57), none, .mv (.t 1)⟩, ⟨(some 58), none, .build [(.v (.int .i64 0)), (.v (.int .u16 0)), (.v (.int .u32 0)), (.v (.string ⟨#[]⟩)), (.v (.slice none 0 0))] [(0, 1, (.t 56)), (1, 1, (.t 57))]⟩, ⟨(some 59), none, .box (.t 58)⟩, ⟨(some 10), none, .mv (.t 59)⟩])
      (.seq (.seq (.reg [⟨(some 60), none, .mv (.t 2)⟩, ⟨(some 61), none, .len (.t 60)⟩, ⟨(some 62), none, .mv (.c (.v (.int .i64 0)))⟩])
        (.block 0 (.loop [1, 7, 10, 60, 61, 62] l_fuglemanlaw18_GdataPublishes_0)))
       l_fuglemanlaw18_GdataPublishes_1)))))))
def a_fuglemanlaw18_GdataPublishes : AFn := ⟨3, b_fuglemanlaw18_GdataPublishes, [.t 6], false, false⟩
theorem a_fuglemanlaw18_GdataPublishes_ok : compF Try.prog Try.f6 [[1, 7, 10, 60, 61, 62]] false false hv = some a_fuglemanlaw18_GdataPublishes := by kernel_rfl

/-! fugleman/fuglemanlaw18.GdataComes$1: 10 -/
def l_fuglemanlaw18_GdataComes_1_1 : AC :=
 (.seq (.reg [⟨(some 4), none, .mv (.c (.v (.bool true)))⟩])
 .ret)
def l_fuglemanlaw18_GdataComes_1_0 : AC :=
 (.seq (.reg [⟨(some 11), none, .bin .lss (.t 10) (.t 9)⟩])
 (.seq (.cond (.t 11) .skip
   (.exit 0))
  (.seq (.block 1 (.seq (.reg [⟨(some 13), none, .load none (.t 1)⟩, ⟨(some 14), none, .call (.c (.fn 11 [])) [(.t 13)]⟩, ⟨(some 12), none, .mv (.t 14)⟩, ⟨(some 15), none, .ext 0 (.t 12)⟩, ⟨(some 16), none, .ext 1 (.t 12)⟩, ⟨(some 5), none, .alloc [(.v (.int .i64 0)), (.v (.int .u8 0)), (.v (.int .u8 0)), (.v (.int .u16 0)), (.v (.int .u16 0)), (.v (.int .u16 0)), (.v (.int .u8 0)), (.v (.int .u16 0)), (.v (.int .u16 0)), (.v (.int .u16 0)), (.v (.int .u8 0)), (.v (.int .u16 0)), (.v (.bool false)), (.v (.int .u8 0)), (.v (.int .u16 0)), (.v (.int .u32 0)), (.v (.int .u8 0)), (.v (.int .u8 0)), (.v (.string ⟨#[]⟩))]⟩, ⟨none, none, .store 19 (.t 5) (.t 15)⟩, ⟨(some 6), none, .mv (.t 16)⟩])
     (.seq (.reg [⟨(some 18), none, .load none (.t 2)⟩, ⟨(some 19), none, .load (some 19) (.t 5)⟩, ⟨(some 20), none, .call (.c (.fn 12 [])) [(.t 18), (.t 19)]⟩, ⟨(some 17), none, .mv (.t 20)⟩, ⟨(some 21), none, .ext 0 (.t 17)⟩, ⟨(some 22), none, .ext 1 (.t 17)⟩, ⟨(some 7), none, .mv (.t 21)⟩, ⟨(some 8), none, .mv (.t 22)⟩])
      (.seq (.reg [⟨(some 23), none, .mv (.t 6)⟩, ⟨(some 24), none, .un .not (.t 23)⟩, ⟨(some 25), none, .mv (.t 24)⟩, ⟨(some 26), (some (25, false)), .mv (.t 8)⟩, ⟨(some 27), (some (25, false)), .bin .neq (.t 26) (.c (.v (.int .i64 0)))⟩, ⟨(some 28), (some (25, false)), .mv (.t 27)⟩, ⟨(some 29), (some (28, true)), .mv (.t 8)⟩, ⟨(some 30), (some (28, true)), .bin .neq (.t 29) (.c (.v (.int .i64 14)))⟩, ⟨(some 31), (some (25, false)), .pick (.t 28) (.t 30) (.c (.v (.bool false)))⟩, ⟨(some 32), (some (25, false)), .mv (.t 31)⟩, ⟨(some 33), (some (32, true)), .mv (.t 8)⟩, ⟨(some 34), (some (32, true)), .bin .neq (.t 33) (.c (.v (.int .i64 1)))⟩, ⟨(some 35), (some (25, false)), .pick (.t 32) (.t 34) (.c (.v (.bool false)))⟩, ⟨(some 36), none, .pick (.t 25) (.c (.v (.bool true))) (.t 35)⟩])
       (.cond (.t 36) (.seq (.reg [⟨(some 4), none, .mv (.c (.v (.bool false)))⟩])
         .ret)
        .skip)))))
   (.reg [⟨(some 37), none, .bin .add (.t 10) (.c (.v (.int .i64 1)))⟩, ⟨(some 10), none, .mv (.t 37)⟩]))))
def b_fuglemanlaw18_GdataComes_1 : AC :=
 (.seq (.reg [⟨(some 4), none, .mv (.c (.v (.bool false)))⟩])
 (.seq (.seq (.reg [⟨(some 9), none, .mv (.t 0)⟩, ⟨(some 10), none, .mv (.c (.v (.int .i64 0)))⟩])
   (.block 0 (.loop [1, 2, 9, 10] l_fuglemanlaw18_GdataComes_1_0)))
  l_fuglemanlaw18_GdataComes_1_1))
def a_fuglemanlaw18_GdataComes_1 : AFn := ⟨3, b_fuglemanlaw18_GdataComes_1, [.t 4], false, true⟩
theorem a_fuglemanlaw18_GdataComes_1_ok : compF Try.prog Try.f10 [[1, 2, 9, 10]] false true hv = some a_fuglemanlaw18_GdataComes_1 := by kernel_rfl

def tab : Nat → Option AFn
  | 26 => some a_blocks_Parts
  | 8 => some a_gdata_NewPub
  | 27 => some a_parts_New
  | 46 => some a_bits_Mul32
  | 47 => some a_bits_Mul64
  | 34 => some a_bits_Mul
  | 48 => some a_stringslite_HasPrefix
  | 35 => some a_strings_HasPrefix
  | 38 => some a_strings_Builder_Len
  | 9 => some a_gdata_NewSub
  | 29 => some a_gdata_Pub_any
  | 40 => some a_blocks_Piece
  | 30 => some a_blocks_Cut
  | 11 => some a_gdata_Pub_Next
  | 41 => some a_parts_Glue_fits
  | 51 => some a_cmp_Or_int
  | 56 => some a_cmp_isNaN_uint16
  | 52 => some a_cmp_Compare_uint16
  | 57 => some a_cmp_isNaN_uint32
  | 53 => some a_cmp_Compare_uint32
  | 42 => some a_parts_Compare
  | 43 => some a_parts_Glue_begin
  | 31 => some a_parts_Glue_Put
  | 12 => some a_gdata_Sub_Put
  | 13 => some a_gdata_Pub_Commit
  | 15 => some a_gdata_Sub_Latch
  | 16 => some a_gdata_Sub_Front
  | 7 => some a_fuglemanlaw18_awake
  | 14 => some a_gdata_Pub_Left
  | 3 => some a_fuglemanlaw18_GdataComes
  | 17 => some a_gdata_Sub_Fault
  | 18 => some a_fuglemanref18_NewSub
  | 19 => some a_fuglemanref18_Sub_Latch
  | 23 => some a_fuglemanref17_Number
  | 45 => some a_fuglemanref16_All
  | 44 => some a_fuglemanref17_lengths
  | 32 => some a_fuglemanref17_Glue_Put
  | 20 => some a_fuglemanref18_Sub_Put
  | 21 => some a_gdata_Sub_Waits
  | 4 => some a_fuglemanlaw18_GdataSubscribes
  | 22 => some a_gdata_Pub_Last
  | 24 => some a_fuglemanref18_Pub_Commit
  | 33 => some a_fuglemanref17_Split
  | 25 => some a_fuglemanref18_Pub_Next
  | 6 => some a_fuglemanlaw18_GdataPublishes
  | 10 => some a_fuglemanlaw18_GdataComes_1
  | _ => none
def T : Tb := ⟨tab, Ext.ext⟩
theorem tableOK : TableOK Try.prog T := by
  refine ⟨fun f fn h => ?_, Ext.ext_ok⟩
  change tab f = some fn at h
  unfold tab at h
  split at h
  · cases h; exact ⟨_, _, _, _, _, Try.func26, a_blocks_Parts_ok⟩
  · cases h; exact ⟨_, _, _, _, _, Try.func8, a_gdata_NewPub_ok⟩
  · cases h; exact ⟨_, _, _, _, _, Try.func27, a_parts_New_ok⟩
  · cases h; exact ⟨_, _, _, _, _, Try.func46, a_bits_Mul32_ok⟩
  · cases h; exact ⟨_, _, _, _, _, Try.func47, a_bits_Mul64_ok⟩
  · cases h; exact ⟨_, _, _, _, _, Try.func34, a_bits_Mul_ok⟩
  · cases h; exact ⟨_, _, _, _, _, Try.func48, a_stringslite_HasPrefix_ok⟩
  · cases h; exact ⟨_, _, _, _, _, Try.func35, a_strings_HasPrefix_ok⟩
  · cases h; exact ⟨_, _, _, _, _, Try.func38, a_strings_Builder_Len_ok⟩
  · cases h; exact ⟨_, _, _, _, _, Try.func9, a_gdata_NewSub_ok⟩
  · cases h; exact ⟨_, _, _, _, _, Try.func29, a_gdata_Pub_any_ok⟩
  · cases h; exact ⟨_, _, _, _, _, Try.func40, a_blocks_Piece_ok⟩
  · cases h; exact ⟨_, _, _, _, _, Try.func30, a_blocks_Cut_ok⟩
  · cases h; exact ⟨_, _, _, _, _, Try.func11, a_gdata_Pub_Next_ok⟩
  · cases h; exact ⟨_, _, _, _, _, Try.func41, a_parts_Glue_fits_ok⟩
  · cases h; exact ⟨_, _, _, _, _, Try.func51, a_cmp_Or_int_ok⟩
  · cases h; exact ⟨_, _, _, _, _, Try.func56, a_cmp_isNaN_uint16_ok⟩
  · cases h; exact ⟨_, _, _, _, _, Try.func52, a_cmp_Compare_uint16_ok⟩
  · cases h; exact ⟨_, _, _, _, _, Try.func57, a_cmp_isNaN_uint32_ok⟩
  · cases h; exact ⟨_, _, _, _, _, Try.func53, a_cmp_Compare_uint32_ok⟩
  · cases h; exact ⟨_, _, _, _, _, Try.func42, a_parts_Compare_ok⟩
  · cases h; exact ⟨_, _, _, _, _, Try.func43, a_parts_Glue_begin_ok⟩
  · cases h; exact ⟨_, _, _, _, _, Try.func31, a_parts_Glue_Put_ok⟩
  · cases h; exact ⟨_, _, _, _, _, Try.func12, a_gdata_Sub_Put_ok⟩
  · cases h; exact ⟨_, _, _, _, _, Try.func13, a_gdata_Pub_Commit_ok⟩
  · cases h; exact ⟨_, _, _, _, _, Try.func15, a_gdata_Sub_Latch_ok⟩
  · cases h; exact ⟨_, _, _, _, _, Try.func16, a_gdata_Sub_Front_ok⟩
  · cases h; exact ⟨_, _, _, _, _, Try.func7, a_fuglemanlaw18_awake_ok⟩
  · cases h; exact ⟨_, _, _, _, _, Try.func14, a_gdata_Pub_Left_ok⟩
  · cases h; exact ⟨_, _, _, _, _, Try.func3, a_fuglemanlaw18_GdataComes_ok⟩
  · cases h; exact ⟨_, _, _, _, _, Try.func17, a_gdata_Sub_Fault_ok⟩
  · cases h; exact ⟨_, _, _, _, _, Try.func18, a_fuglemanref18_NewSub_ok⟩
  · cases h; exact ⟨_, _, _, _, _, Try.func19, a_fuglemanref18_Sub_Latch_ok⟩
  · cases h; exact ⟨_, _, _, _, _, Try.func23, a_fuglemanref17_Number_ok⟩
  · cases h; exact ⟨_, _, _, _, _, Try.func45, a_fuglemanref16_All_ok⟩
  · cases h; exact ⟨_, _, _, _, _, Try.func44, a_fuglemanref17_lengths_ok⟩
  · cases h; exact ⟨_, _, _, _, _, Try.func32, a_fuglemanref17_Glue_Put_ok⟩
  · cases h; exact ⟨_, _, _, _, _, Try.func20, a_fuglemanref18_Sub_Put_ok⟩
  · cases h; exact ⟨_, _, _, _, _, Try.func21, a_gdata_Sub_Waits_ok⟩
  · cases h; exact ⟨_, _, _, _, _, Try.func4, a_fuglemanlaw18_GdataSubscribes_ok⟩
  · cases h; exact ⟨_, _, _, _, _, Try.func22, a_gdata_Pub_Last_ok⟩
  · cases h; exact ⟨_, _, _, _, _, Try.func24, a_fuglemanref18_Pub_Commit_ok⟩
  · cases h; exact ⟨_, _, _, _, _, Try.func33, a_fuglemanref17_Split_ok⟩
  · cases h; exact ⟨_, _, _, _, _, Try.func25, a_fuglemanref18_Pub_Next_ok⟩
  · cases h; exact ⟨_, _, _, _, _, Try.func6, a_fuglemanlaw18_GdataPublishes_ok⟩
  · cases h; exact ⟨_, _, _, _, _, Try.func10, a_fuglemanlaw18_GdataComes_1_ok⟩
  · cases h
theorem mixed : Try.prog.follows .mixedOrders = true := by kernel_rfl
theorem calls (k : Nat) : CallsOK Try.prog (acall T k) := acall_ok mixed tableOK k
end Go.Proofs.Ytkaigdfklihlcaa.Tab
