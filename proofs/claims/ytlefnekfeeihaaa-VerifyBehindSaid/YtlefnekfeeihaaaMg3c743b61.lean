/- The program's functions, as the abstract machine has them. Written by a program for this claim. -/
import Derived.Test.YtlefnekfeeihaaaProg
import Derived.KernelRfl
import Derived.Test.YtlefnekfeeihaaaMgb96ff016
namespace Go.Proofs.Ytlefnekfeeihaaa.Tab
open Go Go.Proofs.Ytlefnekfeeihaaa.Sym
set_option linter.unusedVariables false

/-- Calls that act. -/
def hv : List Nat := [4000000, 1000000, 3000053, 54, 51, 45, 30]
/-! fugleman/iec.kinds: 54 -/
def b_iec_kinds : AC :=
 (.seq (.seq (.reg [⟨(some 0), none, .mv (.c (.v (.slice none 0 0)))⟩]) (.drop [0, 0]))
 (.seq (.seq (.reg [⟨(some 1), none, .build [(.v (.string ⟨#[]⟩)), (.v (.int .i64 0)), (.v (.bool false)), (.v (.bool false))] [(0, 1, (.c (.v (.string ⟨#[66, 79, 79, 76]⟩)))), (1, 1, (.c (.v (.int .i64 1)))), (2, 1, (.c (.v (.bool false)))), (3, 1, (.c (.v (.bool true))))]⟩, ⟨(some 2), none, .build [(.v (.string ⟨#[]⟩)), (.v (.int .i64 0)), (.v (.bool false)), (.v (.bool false))] [(0, 1, (.c (.v (.string ⟨#[83, 73, 78, 84]⟩)))), (1, 1, (.c (.v (.int .i64 1)))), (2, 1, (.c (.v (.bool true)))), (3, 1, (.c (.v (.bool false))))]⟩, ⟨(some 3), none, .build [(.v (.string ⟨#[]⟩)), (.v (.int .i64 0)), (.v (.bool false)), (.v (.bool false))] [(0, 1, (.c (.v (.string ⟨#[73, 78, 84]⟩)))), (1, 1, (.c (.v (.int .i64 2)))), (2, 1, (.c (.v (.bool true)))), (3, 1, (.c (.v (.bool false))))]⟩, ⟨(some 4), none, .build [(.v (.string ⟨#[]⟩)), (.v (.int .i64 0)), (.v (.bool false)), (.v (.bool false))] [(0, 1, (.c (.v (.string ⟨#[68, 73, 78, 84]⟩)))), (1, 1, (.c (.v (.int .i64 4)))), (2, 1, (.c (.v (.bool true)))), (3, 1, (.c (.v (.bool false))))]⟩, ⟨(some 5), none, .build [(.v (.string ⟨#[]⟩)), (.v (.int .i64 0)), (.v (.bool false)), (.v (.bool false))] [(0, 1, (.c (.v (.string ⟨#[85, 73, 78, 84]⟩)))), (1, 1, (.c (.v (.int .i64 2)))), (2, 1, (.c (.v (.bool false)))), (3, 1, (.c (.v (.bool false))))]⟩, ⟨(some 6), none, .build [(.v (.string ⟨#[]⟩)), (.v (.int .i64 0)), (.v (.bool false)), (.v (.bool false))] [(0, 1, (.c (.v (.string ⟨#[87, 79, 82, 68]⟩)))), (1, 1, (.c (.v (.int .i64 2)))), (2, 1, (.c (.v (.bool false)))), (3, 1, (.c (.v (.bool true))))]⟩, ⟨(some 7), none, .build [(.v (.string ⟨#[]⟩)), (.v (.int .i64 0)), (.v (.bool false)), (.v (.bool false))] [(0, 1, (.c (.v (.string ⟨#[68, 87, 79, 82, 68]⟩)))), (1, 1, (.c (.v (.int .i64 4)))), (2, 1, (.c (.v (.bool false)))), (3, 1, (.c (.v (.bool true))))]⟩, ⟨(some 8), none, .row 4 8 [(.v (.string ⟨#[]⟩)), (.v (.int .i64 0)), (.v (.bool false)), (.v (.bool false))] [(4, 4, (.t 1)), (8, 4, (.t 2)), (12, 4, (.t 3)), (16, 4, (.t 4)), (20, 4, (.t 5)), (24, 4, (.t 6)), (28, 4, (.t 7))]⟩, ⟨(some 0), none, .mv (.t 8)⟩]) (.drop [1, 8]))
  .ret))
def a_iec_kinds : AFn := ⟨0, b_iec_kinds, [.t 0], true, false⟩
theorem a_iec_kinds_ok : compF Try.prog Try.f54 [[0, 0], [1, 8]] true false hv = some a_iec_kinds := by kernel_rfl

/-! fugleman/iec.of: 50 -/
def b_iec_of : AC :=
 (.seq (.seq (.reg [⟨(some 2), none, .alloc [(.v (.string ⟨#[]⟩)), (.v (.int .i64 0)), (.v (.bool false)), (.v (.bool false))]⟩, ⟨(some 3), none, .mv (.c (.v (.bool false)))⟩]) (.drop [3, 3]))
 (.seq (.seq (.seq (.reg [⟨(some 4), none, .mv (.t 0)⟩, ⟨(some 5), none, .bin .lss (.t 4) (.c (.v (.int .i64 1)))⟩, ⟨(some 6), none, .mv (.t 5)⟩, ⟨(some 7), (some (6, false)), .mv (.t 0)⟩, ⟨(some 8), (some (6, false)), .bin .gtr (.t 7) (.c (.v (.int .i64 7)))⟩, ⟨(some 9), none, .pick (.t 6) (.c (.v (.bool true))) (.t 8)⟩]) (.drop [3, 8]))
   (.cond (.t 9) (.seq (.seq (.reg [⟨(some 10), none, .build [(.v (.string ⟨#[]⟩)), (.v (.int .i64 0)), (.v (.bool false)), (.v (.bool false))] []⟩, ⟨none, none, .store 4 (.t 2) (.t 10)⟩, ⟨(some 3), none, .mv (.c (.v (.bool false)))⟩]) (.drop [4, 10]))
     .ret)
    .skip))
  (.seq (.seq (.reg [⟨(some 11), none, .call (.c (.fn 54 [])) []⟩, ⟨(some 12), none, .mv (.t 0)⟩, ⟨(some 13), none, .ixs 4 (.t 11) (.t 12)⟩, ⟨(some 14), none, .load (some 4) (.t 13)⟩, ⟨none, none, .store 4 (.t 2) (.t 14)⟩, ⟨(some 3), none, .mv (.c (.v (.bool true)))⟩]) (.drop [4, 14]))
   .ret)))
def a_iec_of : AFn := ⟨1, b_iec_of, [.cell 2 (some 4), .t 3], false, false⟩
theorem a_iec_of_ok : compF Try.prog Try.f50 [[3, 3], [3, 8], [4, 10], [4, 14]] false false hv = some a_iec_of := by kernel_rfl

/-! fugleman/iec.Size: 35 -/
def b_iec_Size : AC :=
 (.seq (.seq (.reg [⟨(some 2), none, .mv (.c (.v (.int .i64 0)))⟩]) (.drop [1, 2]))
 (.seq (.seq (.reg [⟨(some 6), none, .mv (.t 0)⟩, ⟨(some 7), none, .call (.c (.fn 50 [])) [(.t 6)]⟩, ⟨(some 5), none, .mv (.t 7)⟩, ⟨(some 8), none, .ext 0 (.t 5)⟩, ⟨(some 9), none, .ext 1 (.t 5)⟩, ⟨(some 3), none, .alloc [(.v (.string ⟨#[]⟩)), (.v (.int .i64 0)), (.v (.bool false)), (.v (.bool false))]⟩, ⟨none, none, .store 4 (.t 3) (.t 8)⟩, ⟨(some 4), none, .mv (.t 9)⟩]) (.drop [4, 9]))
  (.seq (.seq (.reg [⟨(some 10), none, .fad 1 (.t 3)⟩, ⟨(some 11), none, .load none (.t 10)⟩, ⟨(some 2), none, .mv (.t 11)⟩]) (.drop [3, 11]))
   .ret)))
def a_iec_Size : AFn := ⟨1, b_iec_Size, [.t 2], false, false⟩
theorem a_iec_Size_ok : compF Try.prog Try.f35 [[1, 2], [4, 9], [3, 11]] false false hv = some a_iec_Size := by kernel_rfl

/-! fugleman/il.ops: 51 -/
def b_il_ops : AC :=
 (.seq (.seq (.reg [⟨(some 0), none, .mv (.c (.v (.slice none 0 0)))⟩]) (.drop [0, 0]))
 (.seq (.seq (.reg [⟨(some 1), none, .build [(.v (.string ⟨#[]⟩)), (.v (.int .i64 0))] [(0, 1, (.c (.v (.string ⟨#[76, 68]⟩)))), (1, 1, (.c (.v (.int .i64 1))))]⟩, ⟨(some 2), none, .build [(.v (.string ⟨#[]⟩)), (.v (.int .i64 0))] [(0, 1, (.c (.v (.string ⟨#[76, 68, 78]⟩)))), (1, 1, (.c (.v (.int .i64 1))))]⟩, ⟨(some 3), none, .build [(.v (.string ⟨#[]⟩)), (.v (.int .i64 0))] [(0, 1, (.c (.v (.string ⟨#[83, 84]⟩)))), (1, 1, (.c (.v (.int .i64 2))))]⟩, ⟨(some 4), none, .build [(.v (.string ⟨#[]⟩)), (.v (.int .i64 0))] [(0, 1, (.c (.v (.string ⟨#[83, 84, 78]⟩)))), (1, 1, (.c (.v (.int .i64 2))))]⟩, ⟨(some 5), none, .build [(.v (.string ⟨#[]⟩)), (.v (.int .i64 0))] [(0, 1, (.c (.v (.string ⟨#[83]⟩)))), (1, 1, (.c (.v (.int .i64 2))))]⟩, ⟨(some 6), none, .build [(.v (.string ⟨#[]⟩)), (.v (.int .i64 0))] [(0, 1, (.c (.v (.string ⟨#[82]⟩)))), (1, 1, (.c (.v (.int .i64 2))))]⟩, ⟨(some 7), none, .build [(.v (.string ⟨#[]⟩)), (.v (.int .i64 0))] [(0, 1, (.c (.v (.string ⟨#[65, 78, 68]⟩)))), (1, 1, (.c (.v (.int .i64 1))))]⟩, ⟨(some 8), none, .build [(.v (.string ⟨#[]⟩)), (.v (.int .i64 0))] [(0, 1, (.c (.v (.string ⟨#[79, 82]⟩)))), (1, 1, (.c (.v (.int .i64 1))))]⟩, ⟨(some 9), none, .build [(.v (.string ⟨#[]⟩)), (.v (.int .i64 0))] [(0, 1, (.c (.v (.string ⟨#[88, 79, 82]⟩)))), (1, 1, (.c (.v (.int .i64 1))))]⟩, ⟨(some 10), none, .build [(.v (.string ⟨#[]⟩)), (.v (.int .i64 0))] [(0, 1, (.c (.v (.string ⟨#[65, 78, 68, 78]⟩)))), (1, 1, (.c (.v (.int .i64 1))))]⟩, ⟨(some 11), none, .build [(.v (.string ⟨#[]⟩)), (.v (.int .i64 0))] [(0, 1, (.c (.v (.string ⟨#[79, 82, 78]⟩)))), (1, 1, (.c (.v (.int .i64 1))))]⟩, ⟨(some 12), none, .build [(.v (.string ⟨#[]⟩)), (.v (.int .i64 0))] [(0, 1, (.c (.v (.string ⟨#[88, 79, 82, 78]⟩)))), (1, 1, (.c (.v (.int .i64 1))))]⟩, ⟨(some 13), none, .build [(.v (.string ⟨#[]⟩)), (.v (.int .i64 0))] [(0, 1, (.c (.v (.string ⟨#[78, 79, 84]⟩)))), (1, 1, (.c (.v (.int .i64 4))))]⟩, ⟨(some 14), none, .build [(.v (.string ⟨#[]⟩)), (.v (.int .i64 0))] [(0, 1, (.c (.v (.string ⟨#[65, 68, 68]⟩)))), (1, 1, (.c (.v (.int .i64 1))))]⟩, ⟨(some 15), none, .build [(.v (.string ⟨#[]⟩)), (.v (.int .i64 0))] [(0, 1, (.c (.v (.string ⟨#[83, 85, 66]⟩)))), (1, 1, (.c (.v (.int .i64 1))))]⟩, ⟨(some 16), none, .build [(.v (.string ⟨#[]⟩)), (.v (.int .i64 0))] [(0, 1, (.c (.v (.string ⟨#[77, 85, 76]⟩)))), (1, 1, (.c (.v (.int .i64 1))))]⟩, ⟨(some 17), none, .build [(.v (.string ⟨#[]⟩)), (.v (.int .i64 0))] [(0, 1, (.c (.v (.string ⟨#[68, 73, 86]⟩)))), (1, 1, (.c (.v (.int .i64 1))))]⟩, ⟨(some 18), none, .build [(.v (.string ⟨#[]⟩)), (.v (.int .i64 0))] [(0, 1, (.c (.v (.string ⟨#[77, 79, 68]⟩)))), (1, 1, (.c (.v (.int .i64 1))))]⟩, ⟨(some 19), none, .build [(.v (.string ⟨#[]⟩)), (.v (.int .i64 0))] [(0, 1, (.c (.v (.string ⟨#[71, 84]⟩)))), (1, 1, (.c (.v (.int .i64 1))))]⟩, ⟨(some 20), none, .build [(.v (.string ⟨#[]⟩)), (.v (.int .i64 0))] [(0, 1, (.c (.v (.string ⟨#[71, 69]⟩)))), (1, 1, (.c (.v (.int .i64 1))))]⟩, ⟨(some 21), none, .build [(.v (.string ⟨#[]⟩)), (.v (.int .i64 0))] [(0, 1, (.c (.v (.string ⟨#[69, 81]⟩)))), (1, 1, (.c (.v (.int .i64 1))))]⟩, ⟨(some 22), none, .build [(.v (.string ⟨#[]⟩)), (.v (.int .i64 0))] [(0, 1, (.c (.v (.string ⟨#[78, 69]⟩)))), (1, 1, (.c (.v (.int .i64 1))))]⟩, ⟨(some 23), none, .build [(.v (.string ⟨#[]⟩)), (.v (.int .i64 0))] [(0, 1, (.c (.v (.string ⟨#[76, 69]⟩)))), (1, 1, (.c (.v (.int .i64 1))))]⟩, ⟨(some 24), none, .build [(.v (.string ⟨#[]⟩)), (.v (.int .i64 0))] [(0, 1, (.c (.v (.string ⟨#[76, 84]⟩)))), (1, 1, (.c (.v (.int .i64 1))))]⟩, ⟨(some 25), none, .build [(.v (.string ⟨#[]⟩)), (.v (.int .i64 0))] [(0, 1, (.c (.v (.string ⟨#[74, 77, 80]⟩)))), (1, 1, (.c (.v (.int .i64 3))))]⟩, ⟨(some 26), none, .build [(.v (.string ⟨#[]⟩)), (.v (.int .i64 0))] [(0, 1, (.c (.v (.string ⟨#[74, 77, 80, 67]⟩)))), (1, 1, (.c (.v (.int .i64 3))))]⟩, ⟨(some 27), none, .build [(.v (.string ⟨#[]⟩)), (.v (.int .i64 0))] [(0, 1, (.c (.v (.string ⟨#[74, 77, 80, 67, 78]⟩)))), (1, 1, (.c (.v (.int .i64 3))))]⟩, ⟨(some 28), none, .build [(.v (.string ⟨#[]⟩)), (.v (.int .i64 0))] [(0, 1, (.c (.v (.string ⟨#[82, 69, 84]⟩)))), (1, 1, (.c (.v (.int .i64 4))))]⟩, ⟨(some 29), none, .build [(.v (.string ⟨#[]⟩)), (.v (.int .i64 0))] [(0, 1, (.c (.v (.string ⟨#[82, 69, 84, 67]⟩)))), (1, 1, (.c (.v (.int .i64 4))))]⟩, ⟨(some 30), none, .build [(.v (.string ⟨#[]⟩)), (.v (.int .i64 0))] [(0, 1, (.c (.v (.string ⟨#[82, 69, 84, 67, 78]⟩)))), (1, 1, (.c (.v (.int .i64 4))))]⟩, ⟨(some 31), none, .build [(.v (.string ⟨#[]⟩)), (.v (.int .i64 0))] [(0, 1, (.c (.v (.string ⟨#[67, 79, 78, 86]⟩)))), (1, 1, (.c (.v (.int .i64 5))))]⟩, ⟨(some 32), none, .build [(.v (.string ⟨#[]⟩)), (.v (.int .i64 0))] [(0, 1, (.c (.v (.string ⟨#[]⟩)))), (1, 1, (.c (.v (.int .i64 6))))]⟩, ⟨(some 33), none, .build [(.v (.string ⟨#[]⟩)), (.v (.int .i64 0))] [(0, 1, (.c (.v (.string ⟨#[]⟩)))), (1, 1, (.c (.v (.int .i64 4))))]⟩, ⟨(some 34), none, .build [(.v (.string ⟨#[]⟩)), (.v (.int .i64 0))] [(0, 1, (.c (.v (.string ⟨#[84, 79, 78]⟩)))), (1, 1, (.c (.v (.int .i64 7))))]⟩, ⟨(some 35), none, .build [(.v (.string ⟨#[]⟩)), (.v (.int .i64 0))] [(0, 1, (.c (.v (.string ⟨#[67, 84, 85]⟩)))), (1, 1, (.c (.v (.int .i64 7))))]⟩, ⟨(some 36), none, .build [(.v (.string ⟨#[]⟩)), (.v (.int .i64 0))] [(0, 1, (.c (.v (.string ⟨#[84, 82, 73, 71]⟩)))), (1, 1, (.c (.v (.int .i64 8))))]⟩, ⟨(some 37), none, .row 2 37 [(.v (.string ⟨#[]⟩)), (.v (.int .i64 0))] [(2, 2, (.t 1)), (4, 2, (.t 2)), (6, 2, (.t 3)), (8, 2, (.t 4)), (10, 2, (.t 5)), (12, 2, (.t 6)), (14, 2, (.t 7)), (16, 2, (.t 8)), (18, 2, (.t 9)), (20, 2, (.t 10)), (22, 2, (.t 11)), (24, 2, (.t 12)), (26, 2, (.t 13)), (28, 2, (.t 14)), (30, 2, (.t 15)), (32, 2, (.t 16)), (34, 2, (.t 17)), (36, 2, (.t 18)), (38, 2, (.t 19)), (40, 2, (.t 20)), (42, 2, (.t 21)), (44, 2, (.t 22)), (46, 2, (.t 23)), (48, 2, (.t 24)), (50, 2, (.t 25)), (52, 2, (.t 26)), (54, 2, (.t 27)), (56, 2, (.t 28)), (58, 2, (.t 29)), (60, 2, (.t 30)), (62, 2, (.t 31)), (64, 2, (.t 32)), (66, 2, (.t 33)), (68, 2, (.t 34)), (70, 2, (.t 35)), (72, 2, (.t 36))]⟩, ⟨(some 0), none, .mv (.t 37)⟩]) (.drop [1, 37]))
  .ret))
def a_il_ops : AFn := ⟨0, b_il_ops, [.t 0], true, false⟩
theorem a_il_ops_ok : compF Try.prog Try.f51 [[0, 0], [1, 37]] true false hv = some a_il_ops := by kernel_rfl

/-! fugleman/il.of: 36 -/
def b_il_of : AC :=
 (.seq (.seq (.reg [⟨(some 2), none, .alloc [(.v (.string ⟨#[]⟩)), (.v (.int .i64 0))]⟩]) (.drop []))
 (.seq (.seq (.reg [⟨(some 4), none, .call (.c (.fn 51 [])) []⟩, ⟨(some 3), none, .mv (.t 4)⟩]) (.drop [4, 4]))
  (.seq (.seq (.seq (.reg [⟨(some 5), none, .mv (.t 0)⟩, ⟨(some 6), none, .bin .lss (.t 5) (.c (.v (.int .i64 0)))⟩, ⟨(some 7), none, .mv (.t 6)⟩, ⟨(some 8), (some (7, false)), .mv (.t 0)⟩, ⟨(some 9), (some (7, false)), .mv (.t 3)⟩, ⟨(some 10), (some (7, false)), .len (.t 9)⟩, ⟨(some 11), (some (7, false)), .bin .geq (.t 8) (.t 10)⟩, ⟨(some 12), none, .pick (.t 7) (.c (.v (.bool true))) (.t 11)⟩]) (.drop [4, 11]))
    (.cond (.t 12) (.seq (.seq (.reg [⟨(some 13), none, .build [(.v (.string ⟨#[]⟩)), (.v (.int .i64 0))] []⟩, ⟨none, none, .store 2 (.t 2) (.t 13)⟩]) (.drop [3, 13]))
      .ret)
     .skip))
   (.seq (.seq (.reg [⟨(some 14), none, .mv (.t 3)⟩, ⟨(some 15), none, .mv (.t 0)⟩, ⟨(some 16), none, .ixs 2 (.t 14) (.t 15)⟩, ⟨(some 17), none, .load (some 2) (.t 16)⟩, ⟨none, none, .store 2 (.t 2) (.t 17)⟩]) (.drop [3, 17]))
    .ret))))
def a_il_of : AFn := ⟨1, b_il_of, [.cell 2 (some 2)], false, false⟩
theorem a_il_of_ok : compF Try.prog Try.f36 [[], [4, 4], [4, 11], [3, 13], [3, 17]] false false hv = some a_il_of := by kernel_rfl

/-! fugleman/iec.Wrap: 52 -/
def c_iec_Wrap_0 : AC :=
 (.seq (.seq (.reg [⟨(some 63), none, .fad 1 (.t 5)⟩, ⟨(some 64), none, .load none (.t 63)⟩, ⟨(some 65), none, .bin .eql (.t 64) (.c (.v (.int .i64 4)))⟩, ⟨(some 62), none, .mv (.t 65)⟩]) (.drop [63, 65]))
                 (.cond (.t 62) (.seq (.seq (.reg [⟨(some 66), none, .mv (.t 1)⟩, ⟨(some 67), none, .cvi .u32 (.t 66)⟩, ⟨(some 68), none, .cvi .i64 (.t 67)⟩, ⟨(some 4), none, .mv (.t 68)⟩]) (.drop [5, 68]))
                   .ret)
                  .skip))
theorem g_iec_Wrap_0 {C : CT} {lf : Nat} {ks : List It} {s : St} : type_of% (@Sym.go_as C lf ks s _ _ c_iec_Wrap_0.eq_1) := Sym.go_as c_iec_Wrap_0.eq_1
def c_iec_Wrap_1 : AC :=
 (.seq (.seq (.reg [⟨(some 56), none, .fad 1 (.t 5)⟩, ⟨(some 57), none, .load none (.t 56)⟩, ⟨(some 58), none, .bin .eql (.t 57) (.c (.v (.int .i64 2)))⟩, ⟨(some 55), none, .mv (.t 58)⟩]) (.drop [56, 58]))
               (.cond (.t 55) (.seq (.seq (.reg [⟨(some 59), none, .mv (.t 1)⟩, ⟨(some 60), none, .cvi .u16 (.t 59)⟩, ⟨(some 61), none, .cvi .i64 (.t 60)⟩, ⟨(some 4), none, .mv (.t 61)⟩]) (.drop [5, 61]))
                 .ret)
                c_iec_Wrap_0))
theorem g_iec_Wrap_1 {C : CT} {lf : Nat} {ks : List It} {s : St} : type_of% (@Sym.go_as C lf ks s _ _ c_iec_Wrap_1.eq_1) := Sym.go_as c_iec_Wrap_1.eq_1
def c_iec_Wrap_2 : AC :=
 (.seq (.seq (.reg [⟨(some 45), none, .fad 1 (.t 5)⟩, ⟨(some 46), none, .load none (.t 45)⟩, ⟨(some 47), none, .bin .eql (.t 46) (.c (.v (.int .i64 4)))⟩, ⟨(some 48), none, .mv (.t 47)⟩, ⟨(some 49), (some (48, true)), .fad 2 (.t 5)⟩, ⟨(some 50), (some (48, true)), .load none (.t 49)⟩, ⟨(some 51), none, .pick (.t 48) (.t 50) (.c (.v (.bool false)))⟩, ⟨(some 44), none, .mv (.t 51)⟩]) (.drop [45, 51]))
             (.cond (.t 44) (.seq (.seq (.reg [⟨(some 52), none, .mv (.t 1)⟩, ⟨(some 53), none, .cvi .i32 (.t 52)⟩, ⟨(some 54), none, .cvi .i64 (.t 53)⟩, ⟨(some 4), none, .mv (.t 54)⟩]) (.drop [5, 54]))
               .ret)
              c_iec_Wrap_1))
theorem g_iec_Wrap_2 {C : CT} {lf : Nat} {ks : List It} {s : St} : type_of% (@Sym.go_as C lf ks s _ _ c_iec_Wrap_2.eq_1) := Sym.go_as c_iec_Wrap_2.eq_1
def c_iec_Wrap_3 : AC :=
 (.seq (.seq (.reg [⟨(some 34), none, .fad 1 (.t 5)⟩, ⟨(some 35), none, .load none (.t 34)⟩, ⟨(some 36), none, .bin .eql (.t 35) (.c (.v (.int .i64 2)))⟩, ⟨(some 37), none, .mv (.t 36)⟩, ⟨(some 38), (some (37, true)), .fad 2 (.t 5)⟩, ⟨(some 39), (some (37, true)), .load none (.t 38)⟩, ⟨(some 40), none, .pick (.t 37) (.t 39) (.c (.v (.bool false)))⟩, ⟨(some 33), none, .mv (.t 40)⟩]) (.drop [34, 40]))
           (.cond (.t 33) (.seq (.seq (.reg [⟨(some 41), none, .mv (.t 1)⟩, ⟨(some 42), none, .cvi .i16 (.t 41)⟩, ⟨(some 43), none, .cvi .i64 (.t 42)⟩, ⟨(some 4), none, .mv (.t 43)⟩]) (.drop [5, 43]))
             .ret)
            c_iec_Wrap_2))
theorem g_iec_Wrap_3 {C : CT} {lf : Nat} {ks : List It} {s : St} : type_of% (@Sym.go_as C lf ks s _ _ c_iec_Wrap_3.eq_1) := Sym.go_as c_iec_Wrap_3.eq_1
def c_iec_Wrap_4 : AC :=
 (.seq (.seq (.reg [⟨(some 23), none, .fad 1 (.t 5)⟩, ⟨(some 24), none, .load none (.t 23)⟩, ⟨(some 25), none, .bin .eql (.t 24) (.c (.v (.int .i64 1)))⟩, ⟨(some 26), none, .mv (.t 25)⟩, ⟨(some 27), (some (26, true)), .fad 2 (.t 5)⟩, ⟨(some 28), (some (26, true)), .load none (.t 27)⟩, ⟨(some 29), none, .pick (.t 26) (.t 28) (.c (.v (.bool false)))⟩, ⟨(some 22), none, .mv (.t 29)⟩]) (.drop [23, 29]))
         (.cond (.t 22) (.seq (.seq (.reg [⟨(some 30), none, .mv (.t 1)⟩, ⟨(some 31), none, .cvi .i8 (.t 30)⟩, ⟨(some 32), none, .cvi .i64 (.t 31)⟩, ⟨(some 4), none, .mv (.t 32)⟩]) (.drop [5, 32]))
           .ret)
          c_iec_Wrap_3))
theorem g_iec_Wrap_4 {C : CT} {lf : Nat} {ks : List It} {s : St} : type_of% (@Sym.go_as C lf ks s _ _ c_iec_Wrap_4.eq_1) := Sym.go_as c_iec_Wrap_4.eq_1
def c_iec_Wrap_5 : AC :=
 (.seq (.seq (.reg [⟨(some 16), none, .mv (.t 0)⟩, ⟨(some 17), none, .bin .eql (.t 16) (.c (.v (.int .i64 1)))⟩, ⟨(some 18), none, .mv (.t 17)⟩, ⟨(some 19), (some (18, true)), .mv (.t 1)⟩, ⟨(some 20), (some (18, true)), .bin .neq (.t 19) (.c (.v (.int .i64 0)))⟩, ⟨(some 21), none, .pick (.t 18) (.t 20) (.c (.v (.bool false)))⟩, ⟨(some 15), none, .mv (.t 21)⟩]) (.drop [16, 21]))
       (.cond (.t 15) (.seq (.seq (.reg [⟨(some 4), none, .mv (.c (.v (.int .i64 1)))⟩]) (.drop []))
         .ret)
        c_iec_Wrap_4))
theorem g_iec_Wrap_5 {C : CT} {lf : Nat} {ks : List It} {s : St} : type_of% (@Sym.go_as C lf ks s _ _ c_iec_Wrap_5.eq_1) := Sym.go_as c_iec_Wrap_5.eq_1
def b_iec_Wrap : AC :=
 (.seq (.seq (.reg [⟨(some 4), none, .mv (.c (.v (.int .i64 0)))⟩]) (.drop [2, 4]))
 (.seq (.seq (.reg [⟨(some 8), none, .mv (.t 0)⟩, ⟨(some 9), none, .call (.c (.fn 50 [])) [(.t 8)]⟩, ⟨(some 7), none, .mv (.t 9)⟩, ⟨(some 10), none, .ext 0 (.t 7)⟩, ⟨(some 11), none, .ext 1 (.t 7)⟩, ⟨(some 5), none, .alloc [(.v (.string ⟨#[]⟩)), (.v (.int .i64 0)), (.v (.bool false)), (.v (.bool false))]⟩, ⟨none, none, .store 4 (.t 5) (.t 10)⟩, ⟨(some 6), none, .mv (.t 11)⟩]) (.drop [7, 11]))
  (.seq (.block 0 (.seq (.seq (.reg [⟨(some 13), none, .mv (.t 6)⟩, ⟨(some 14), none, .un .not (.t 13)⟩, ⟨(some 12), none, .mv (.t 14)⟩]) (.drop [13, 14]))
     (.cond (.t 12) (.seq (.seq (.reg [⟨(some 4), none, .mv (.c (.v (.int .i64 0)))⟩]) (.drop []))
       .ret)
      c_iec_Wrap_5)))
   (.seq (.seq (.reg [⟨(some 4), none, .mv (.c (.v (.int .i64 0)))⟩]) (.drop []))
    .ret))))
def a_iec_Wrap : AFn := ⟨2, b_iec_Wrap, [.t 4], false, false⟩
theorem a_iec_Wrap_ok : compF Try.prog Try.f52 [[2, 4], [7, 11], [13, 14], [], [16, 21], [], [23, 29], [5, 32], [34, 40], [5, 43], [45, 51], [5, 54], [56, 58], [5, 61], [63, 65], [5, 68], []] false false hv = some a_iec_Wrap := by kernel_rfl

/-! fugleman/iec.Is: 37 -/
def b_iec_Is : AC :=
 (.seq (.seq (.reg [⟨(some 4), none, .mv (.c (.v (.bool false)))⟩]) (.drop [2, 4]))
 (.seq (.seq (.reg [⟨(some 8), none, .mv (.t 0)⟩, ⟨(some 9), none, .call (.c (.fn 50 [])) [(.t 8)]⟩, ⟨(some 7), none, .mv (.t 9)⟩, ⟨(some 10), none, .ext 0 (.t 7)⟩, ⟨(some 11), none, .ext 1 (.t 7)⟩, ⟨(some 5), none, .alloc [(.v (.string ⟨#[]⟩)), (.v (.int .i64 0)), (.v (.bool false)), (.v (.bool false))]⟩, ⟨none, none, .store 4 (.t 5) (.t 10)⟩, ⟨(some 6), none, .mv (.t 11)⟩]) (.drop [2, 5, 7, 11]))
  (.seq (.seq (.reg [⟨(some 12), none, .mv (.t 6)⟩, ⟨(some 13), none, .mv (.t 12)⟩, ⟨(some 14), (some (13, true)), .mv (.t 0)⟩, ⟨(some 15), (some (13, true)), .mv (.t 1)⟩, ⟨(some 16), (some (13, true)), .call (.c (.fn 52 [])) [(.t 14), (.t 15)]⟩, ⟨(some 17), (some (13, true)), .mv (.t 1)⟩, ⟨(some 18), (some (13, true)), .bin .eql (.t 16) (.t 17)⟩, ⟨(some 19), none, .pick (.t 13) (.t 18) (.c (.v (.bool false)))⟩, ⟨(some 4), none, .mv (.t 19)⟩]) (.drop [5, 19]))
   .ret)))
def a_iec_Is : AFn := ⟨2, b_iec_Is, [.t 4], false, false⟩
theorem a_iec_Is_ok : compF Try.prog Try.f37 [[2, 4], [2, 5, 7, 11], [5, 19]] false false hv = some a_iec_Is := by kernel_rfl

/-! fugleman/il.stands: 38 -/
def b_il_stands : AC :=
 (.seq (.seq (.reg [⟨(some 2), none, .box (.t 0)⟩, ⟨(some 4), none, .mv (.c (.v (.bool false)))⟩]) (.drop [3, 4]))
 (.seq (.seq (.reg [⟨(some 6), none, .fad 1 (.t 2)⟩, ⟨(some 7), none, .load none (.t 6)⟩, ⟨(some 8), none, .call (.c (.fn 35 [])) [(.t 7)]⟩, ⟨(some 5), none, .mv (.t 8)⟩]) (.drop [6, 8]))
  (.seq (.seq (.reg [⟨(some 9), none, .mv (.t 5)⟩, ⟨(some 10), none, .bin .gtr (.t 9) (.c (.v (.int .i64 0)))⟩, ⟨(some 11), none, .mv (.t 10)⟩, ⟨(some 12), (some (11, true)), .fad 2 (.t 2)⟩, ⟨(some 13), (some (11, true)), .load none (.t 12)⟩, ⟨(some 14), (some (11, true)), .mv (.t 1)⟩, ⟨(some 15), (some (11, true)), .bin .geq (.t 13) (.t 14)⟩, ⟨(some 16), none, .pick (.t 11) (.t 15) (.c (.v (.bool false)))⟩, ⟨(some 17), none, .mv (.t 16)⟩, ⟨(some 18), (some (17, true)), .fad 2 (.t 2)⟩, ⟨(some 19), (some (17, true)), .load none (.t 18)⟩, ⟨(some 20), (some (17, true)), .bin .leq (.t 19) (.c (.v (.int .i64 4)))⟩, ⟨(some 21), none, .pick (.t 17) (.t 20) (.c (.v (.bool false)))⟩, ⟨(some 22), none, .mv (.t 21)⟩, ⟨(some 23), (some (22, true)), .fad 3 (.t 2)⟩, ⟨(some 24), (some (22, true)), .load none (.t 23)⟩, ⟨(some 25), (some (22, true)), .bin .geq (.t 24) (.c (.v (.int .i64 0)))⟩, ⟨(some 26), none, .pick (.t 22) (.t 25) (.c (.v (.bool false)))⟩, ⟨(some 27), none, .mv (.t 26)⟩, ⟨(some 28), (some (27, true)), .fad 3 (.t 2)⟩, ⟨(some 29), (some (27, true)), .load none (.t 28)⟩, ⟨(some 30), (some (27, true)), .mv (.t 5)⟩, ⟨(some 31), (some (27, true)), .bin .sub (.c (.v (.int .i64 64))) (.t 30)⟩, ⟨(some 32), (some (27, true)), .bin .leq (.t 29) (.t 31)⟩, ⟨(some 33), none, .pick (.t 27) (.t 32) (.c (.v (.bool false)))⟩, ⟨(some 34), none, .mv (.t 33)⟩, ⟨(some 35), (some (34, true)), .fad 4 (.t 2)⟩, ⟨(some 36), (some (34, true)), .load none (.t 35)⟩, ⟨(some 37), (some (34, true)), .bin .eql (.t 36) (.c (.v (.int .i64 0)))⟩, ⟨(some 38), none, .pick (.t 34) (.t 37) (.c (.v (.bool false)))⟩, ⟨(some 4), none, .mv (.t 38)⟩]) (.drop [5, 38]))
   .ret)))
def a_il_stands : AFn := ⟨2, b_il_stands, [.t 4], false, false⟩
theorem a_il_stands_ok : compF Try.prog Try.f38 [[3, 4], [6, 8], [5, 38]] false false hv = some a_il_stands := by kernel_rfl

/-! fugleman/il.within: 39 -/
def b_il_within : AC :=
 (.seq (.seq (.reg [⟨(some 2), none, .mv (.c (.v (.bool false)))⟩]) (.drop [1, 2]))
 (.seq (.seq (.reg [⟨(some 3), none, .mv (.t 0)⟩, ⟨(some 4), none, .call (.c (.fn 36 [])) [(.t 3)]⟩, ⟨(some 5), none, .fld 1 none (.t 4)⟩, ⟨(some 6), none, .bin .eql (.t 5) (.c (.v (.int .i64 1)))⟩, ⟨(some 7), none, .mv (.t 6)⟩, ⟨(some 8), (some (7, true)), .mv (.t 0)⟩, ⟨(some 9), (some (7, true)), .bin .geq (.t 8) (.c (.v (.int .i64 7)))⟩, ⟨(some 10), none, .pick (.t 7) (.t 9) (.c (.v (.bool false)))⟩, ⟨(some 2), none, .mv (.t 10)⟩]) (.drop [3, 10]))
  .ret))
def a_il_within : AFn := ⟨1, b_il_within, [.t 2], false, false⟩
theorem a_il_within_ok : compF Try.prog Try.f39 [[1, 2], [3, 10]] false false hv = some a_il_within := by kernel_rfl

/-! fugleman/il.keeps: 40 -/
def b_il_keeps : AC :=
 (.seq (.seq (.reg [⟨(some 2), none, .mv (.c (.v (.bool false)))⟩]) (.drop [1, 2]))
 (.seq (.seq (.reg [⟨(some 3), none, .mv (.t 0)⟩, ⟨(some 4), none, .bin .eql (.t 3) (.c (.v (.int .i64 3)))⟩, ⟨(some 5), none, .mv (.t 4)⟩, ⟨(some 6), (some (5, false)), .mv (.t 0)⟩, ⟨(some 7), (some (5, false)), .bin .eql (.t 6) (.c (.v (.int .i64 4)))⟩, ⟨(some 8), none, .pick (.t 5) (.c (.v (.bool true))) (.t 7)⟩, ⟨(some 2), none, .mv (.t 8)⟩]) (.drop [3, 8]))
  .ret))
def a_il_keeps : AFn := ⟨1, b_il_keeps, [.t 2], false, false⟩
theorem a_il_keeps_ok : compF Try.prog Try.f40 [[1, 2], [3, 8]] false false hv = some a_il_keeps := by kernel_rfl

/-! fugleman/il.Right: 26 -/
def c_il_Right_0 : AC :=
 (.seq (.seq (.reg [⟨(some 23), none, .fad 3 (.t 1)⟩, ⟨(some 24), none, .load none (.t 23)⟩, ⟨(some 25), none, .bin .eql (.t 24) (.c (.v (.int .i64 0)))⟩, ⟨(some 26), none, .mv (.t 25)⟩, ⟨(some 27), (some (26, true)), .fad 1 (.t 1)⟩, ⟨(some 28), (some (26, true)), .load none (.t 27)⟩, ⟨(some 29), (some (26, true)), .fad 4 (.t 1)⟩, ⟨(some 30), (some (26, true)), .load none (.t 29)⟩, ⟨(some 31), (some (26, true)), .call (.c (.fn 37 [])) [(.t 28), (.t 30)]⟩, ⟨(some 32), none, .pick (.t 26) (.t 31) (.c (.v (.bool false)))⟩, ⟨(some 2), none, .mv (.t 32)⟩]) (.drop [3, 32]))
            .ret)
theorem g_il_Right_0 {C : CT} {lf : Nat} {ks : List It} {s : St} : type_of% (@Sym.go_as C lf ks s _ _ c_il_Right_0.eq_1) := Sym.go_as c_il_Right_0.eq_1
def c_il_Right_1 : AC :=
 (.seq (.seq (.seq (.reg [⟨(some 20), none, .fad 2 (.t 1)⟩, ⟨(some 21), none, .load none (.t 20)⟩, ⟨(some 22), none, .bin .eql (.t 21) (.c (.v (.int .i64 0)))⟩]) (.drop [2, 21]))
          (.cond (.t 22) c_il_Right_0
           .skip))
         (.seq (.seq (.reg [⟨(some 33), none, .load (some 5) (.t 1)⟩, ⟨(some 34), none, .call (.c (.fn 38 [])) [(.t 33), (.c (.v (.int .i64 1)))]⟩, ⟨(some 2), none, .mv (.t 34)⟩]) (.drop [3, 34]))
          .ret))
theorem g_il_Right_1 {C : CT} {lf : Nat} {ks : List It} {s : St} : type_of% (@Sym.go_as C lf ks s _ _ c_il_Right_1.eq_1) := Sym.go_as c_il_Right_1.eq_1
def c_il_Right_2 : AC :=
 (.seq (.seq (.reg [⟨(some 41), none, .mv (.t 4)⟩, ⟨(some 42), none, .mv (.t 41)⟩, ⟨(some 43), (some (42, true)), .fad 1 (.t 1)⟩, ⟨(some 44), (some (42, true)), .load none (.t 43)⟩, ⟨(some 45), (some (42, true)), .bin .eql (.t 44) (.c (.v (.int .i64 0)))⟩, ⟨(some 46), none, .pick (.t 42) (.t 45) (.c (.v (.bool false)))⟩, ⟨(some 47), none, .mv (.t 46)⟩, ⟨(some 48), (some (47, true)), .fad 3 (.t 1)⟩, ⟨(some 49), (some (47, true)), .load none (.t 48)⟩, ⟨(some 50), (some (47, true)), .bin .geq (.t 49) (.c (.v (.int .i64 0)))⟩, ⟨(some 51), none, .pick (.t 47) (.t 50) (.c (.v (.bool false)))⟩, ⟨(some 52), none, .mv (.t 51)⟩, ⟨(some 53), (some (52, true)), .fad 3 (.t 1)⟩, ⟨(some 54), (some (52, true)), .load none (.t 53)⟩, ⟨(some 55), (some (52, true)), .bin .leq (.t 54) (.c (.v (.int .i64 200)))⟩, ⟨(some 56), none, .pick (.t 52) (.t 55) (.c (.v (.bool false)))⟩, ⟨(some 2), none, .mv (.t 56)⟩]) (.drop [3, 56]))
             .ret)
theorem g_il_Right_2 {C : CT} {lf : Nat} {ks : List It} {s : St} : type_of% (@Sym.go_as C lf ks s _ _ c_il_Right_2.eq_1) := Sym.go_as c_il_Right_2.eq_1
def c_il_Right_3 : AC :=
 (.seq (.seq (.reg [⟨(some 59), none, .mv (.t 4)⟩, ⟨(some 60), none, .mv (.t 59)⟩, ⟨(some 61), (some (60, true)), .fad 1 (.t 1)⟩, ⟨(some 62), (some (60, true)), .load none (.t 61)⟩, ⟨(some 63), (some (60, true)), .bin .eql (.t 62) (.c (.v (.int .i64 0)))⟩, ⟨(some 64), none, .pick (.t 60) (.t 63) (.c (.v (.bool false)))⟩, ⟨(some 65), none, .mv (.t 64)⟩, ⟨(some 66), (some (65, true)), .fad 3 (.t 1)⟩, ⟨(some 67), (some (65, true)), .load none (.t 66)⟩, ⟨(some 68), (some (65, true)), .bin .eql (.t 67) (.c (.v (.int .i64 0)))⟩, ⟨(some 69), none, .pick (.t 65) (.t 68) (.c (.v (.bool false)))⟩, ⟨(some 2), none, .mv (.t 69)⟩]) (.drop [3, 69]))
               .ret)
theorem g_il_Right_3 {C : CT} {lf : Nat} {ks : List It} {s : St} : type_of% (@Sym.go_as C lf ks s _ _ c_il_Right_3.eq_1) := Sym.go_as c_il_Right_3.eq_1
def c_il_Right_4 : AC :=
 (.seq (.seq (.reg [⟨(some 72), none, .mv (.t 4)⟩, ⟨(some 73), none, .mv (.t 72)⟩, ⟨(some 74), (some (73, true)), .fad 3 (.t 1)⟩, ⟨(some 75), (some (73, true)), .load none (.t 74)⟩, ⟨(some 76), (some (73, true)), .bin .eql (.t 75) (.c (.v (.int .i64 0)))⟩, ⟨(some 77), none, .pick (.t 73) (.t 76) (.c (.v (.bool false)))⟩, ⟨(some 78), none, .mv (.t 77)⟩, ⟨(some 79), (some (78, true)), .fad 1 (.t 1)⟩, ⟨(some 80), (some (78, true)), .load none (.t 79)⟩, ⟨(some 81), (some (78, true)), .call (.c (.fn 35 [])) [(.t 80)]⟩, ⟨(some 82), (some (78, true)), .bin .gtr (.t 81) (.c (.v (.int .i64 0)))⟩, ⟨(some 83), none, .pick (.t 78) (.t 82) (.c (.v (.bool false)))⟩, ⟨(some 2), none, .mv (.t 83)⟩]) (.drop [3, 83]))
                 .ret)
theorem g_il_Right_4 {C : CT} {lf : Nat} {ks : List It} {s : St} : type_of% (@Sym.go_as C lf ks s _ _ c_il_Right_4.eq_1) := Sym.go_as c_il_Right_4.eq_1
def c_il_Right_5 : AC :=
 (.seq (.seq (.reg [⟨(some 86), none, .mv (.t 4)⟩, ⟨(some 87), none, .mv (.t 86)⟩, ⟨(some 88), (some (87, true)), .fad 1 (.t 1)⟩, ⟨(some 89), (some (87, true)), .load none (.t 88)⟩, ⟨(some 90), (some (87, true)), .bin .eql (.t 89) (.c (.v (.int .i64 0)))⟩, ⟨(some 91), none, .pick (.t 87) (.t 90) (.c (.v (.bool false)))⟩, ⟨(some 92), none, .mv (.t 91)⟩, ⟨(some 93), (some (92, true)), .fad 3 (.t 1)⟩, ⟨(some 94), (some (92, true)), .load none (.t 93)⟩, ⟨(some 95), (some (92, true)), .call (.c (.fn 39 [])) [(.t 94)]⟩, ⟨(some 96), none, .pick (.t 92) (.t 95) (.c (.v (.bool false)))⟩, ⟨(some 2), none, .mv (.t 96)⟩]) (.drop [3, 96]))
                   .ret)
theorem g_il_Right_5 {C : CT} {lf : Nat} {ks : List It} {s : St} : type_of% (@Sym.go_as C lf ks s _ _ c_il_Right_5.eq_1) := Sym.go_as c_il_Right_5.eq_1
def c_il_Right_6 : AC :=
 (.seq (.seq (.reg [⟨(some 99), none, .fad 1 (.t 1)⟩, ⟨(some 100), none, .load none (.t 99)⟩, ⟨(some 101), none, .bin .eql (.t 100) (.c (.v (.int .i64 0)))⟩, ⟨(some 102), none, .mv (.t 101)⟩, ⟨(some 103), (some (102, true)), .fad 2 (.t 1)⟩, ⟨(some 104), (some (102, true)), .load none (.t 103)⟩, ⟨(some 105), (some (102, true)), .call (.c (.fn 40 [])) [(.t 104)]⟩, ⟨(some 106), none, .pick (.t 102) (.t 105) (.c (.v (.bool false)))⟩, ⟨(some 107), none, .mv (.t 106)⟩, ⟨(some 108), (some (107, true)), .fad 3 (.t 1)⟩, ⟨(some 109), (some (107, true)), .load none (.t 108)⟩, ⟨(some 110), (some (107, true)), .bin .geq (.t 109) (.c (.v (.int .i64 0)))⟩, ⟨(some 111), none, .pick (.t 107) (.t 110) (.c (.v (.bool false)))⟩, ⟨(some 112), none, .mv (.t 111)⟩, ⟨(some 113), (some (112, true)), .fad 3 (.t 1)⟩, ⟨(some 114), (some (112, true)), .load none (.t 113)⟩, ⟨(some 115), (some (112, true)), .bin .leq (.t 114) (.c (.v (.int .i64 59)))⟩, ⟨(some 116), none, .pick (.t 112) (.t 115) (.c (.v (.bool false)))⟩, ⟨(some 117), none, .mv (.t 116)⟩, ⟨(some 118), (some (117, true)), .fad 4 (.t 1)⟩, ⟨(some 119), (some (117, true)), .load none (.t 118)⟩, ⟨(some 120), (some (117, true)), .bin .geq (.t 119) (.c (.v (.int .i64 1)))⟩, ⟨(some 121), none, .pick (.t 117) (.t 120) (.c (.v (.bool false)))⟩, ⟨(some 122), none, .mv (.t 121)⟩, ⟨(some 123), (some (122, true)), .fad 4 (.t 1)⟩, ⟨(some 124), (some (122, true)), .load none (.t 123)⟩, ⟨(some 125), (some (122, true)), .bin .leq (.t 124) (.c (.v (.int .i64 9999)))⟩, ⟨(some 126), none, .pick (.t 122) (.t 125) (.c (.v (.bool false)))⟩, ⟨(some 2), none, .mv (.t 126)⟩]) (.drop [3, 126]))
                     .ret)
theorem g_il_Right_6 {C : CT} {lf : Nat} {ks : List It} {s : St} : type_of% (@Sym.go_as C lf ks s _ _ c_il_Right_6.eq_1) := Sym.go_as c_il_Right_6.eq_1
def c_il_Right_7 : AC :=
 (.seq (.seq (.reg [⟨(some 129), none, .fad 1 (.t 1)⟩, ⟨(some 130), none, .load none (.t 129)⟩, ⟨(some 131), none, .bin .eql (.t 130) (.c (.v (.int .i64 0)))⟩, ⟨(some 132), none, .mv (.t 131)⟩, ⟨(some 133), (some (132, true)), .fad 2 (.t 1)⟩, ⟨(some 134), (some (132, true)), .load none (.t 133)⟩, ⟨(some 135), (some (132, true)), .call (.c (.fn 40 [])) [(.t 134)]⟩, ⟨(some 136), none, .pick (.t 132) (.t 135) (.c (.v (.bool false)))⟩, ⟨(some 137), none, .mv (.t 136)⟩, ⟨(some 138), (some (137, true)), .fad 3 (.t 1)⟩, ⟨(some 139), (some (137, true)), .load none (.t 138)⟩, ⟨(some 140), (some (137, true)), .bin .geq (.t 139) (.c (.v (.int .i64 0)))⟩, ⟨(some 141), none, .pick (.t 137) (.t 140) (.c (.v (.bool false)))⟩, ⟨(some 142), none, .mv (.t 141)⟩, ⟨(some 143), (some (142, true)), .fad 3 (.t 1)⟩, ⟨(some 144), (some (142, true)), .load none (.t 143)⟩, ⟨(some 145), (some (142, true)), .bin .lss (.t 144) (.c (.v (.int .i64 64)))⟩, ⟨(some 146), none, .pick (.t 142) (.t 145) (.c (.v (.bool false)))⟩, ⟨(some 147), none, .mv (.t 146)⟩, ⟨(some 148), (some (147, true)), .fad 4 (.t 1)⟩, ⟨(some 149), (some (147, true)), .load none (.t 148)⟩, ⟨(some 150), (some (147, true)), .bin .eql (.t 149) (.c (.v (.int .i64 0)))⟩, ⟨(some 151), none, .pick (.t 147) (.t 150) (.c (.v (.bool false)))⟩, ⟨(some 2), none, .mv (.t 151)⟩]) (.drop [3, 151]))
                       .ret)
theorem g_il_Right_7 {C : CT} {lf : Nat} {ks : List It} {s : St} : type_of% (@Sym.go_as C lf ks s _ _ c_il_Right_7.eq_1) := Sym.go_as c_il_Right_7.eq_1
def c_il_Right_8 : AC :=
 (.seq (.seq (.reg [⟨(some 98), none, .bin .eql (.t 17) (.c (.v (.int .i64 7)))⟩, ⟨(some 97), none, .mv (.t 98)⟩]) (.drop [98, 98]))
                   (.cond (.t 97) c_il_Right_6
                    (.seq (.seq (.reg [⟨(some 128), none, .bin .eql (.t 17) (.c (.v (.int .i64 8)))⟩, ⟨(some 127), none, .mv (.t 128)⟩]) (.drop [128, 128]))
                     (.cond (.t 127) c_il_Right_7
                      .skip))))
theorem g_il_Right_8 {C : CT} {lf : Nat} {ks : List It} {s : St} : type_of% (@Sym.go_as C lf ks s _ _ c_il_Right_8.eq_1) := Sym.go_as c_il_Right_8.eq_1
def c_il_Right_9 : AC :=
 (.seq (.seq (.reg [⟨(some 71), none, .bin .eql (.t 17) (.c (.v (.int .i64 5)))⟩, ⟨(some 70), none, .mv (.t 71)⟩]) (.drop [71, 71]))
               (.cond (.t 70) c_il_Right_4
                (.seq (.seq (.reg [⟨(some 85), none, .bin .eql (.t 17) (.c (.v (.int .i64 6)))⟩, ⟨(some 84), none, .mv (.t 85)⟩]) (.drop [85, 85]))
                 (.cond (.t 84) c_il_Right_5
                  c_il_Right_8))))
theorem g_il_Right_9 {C : CT} {lf : Nat} {ks : List It} {s : St} : type_of% (@Sym.go_as C lf ks s _ _ c_il_Right_9.eq_1) := Sym.go_as c_il_Right_9.eq_1
def c_il_Right_10 : AC :=
 (.seq (.seq (.reg [⟨(some 40), none, .bin .eql (.t 17) (.c (.v (.int .i64 3)))⟩, ⟨(some 39), none, .mv (.t 40)⟩]) (.drop [40, 40]))
           (.cond (.t 39) c_il_Right_2
            (.seq (.seq (.reg [⟨(some 58), none, .bin .eql (.t 17) (.c (.v (.int .i64 4)))⟩, ⟨(some 57), none, .mv (.t 58)⟩]) (.drop [58, 58]))
             (.cond (.t 57) c_il_Right_3
              c_il_Right_9))))
theorem g_il_Right_10 {C : CT} {lf : Nat} {ks : List It} {s : St} : type_of% (@Sym.go_as C lf ks s _ _ c_il_Right_10.eq_1) := Sym.go_as c_il_Right_10.eq_1
def c_il_Right_11 : AC :=
 (.seq (.seq (.reg [⟨(some 36), none, .bin .eql (.t 17) (.c (.v (.int .i64 2)))⟩, ⟨(some 35), none, .mv (.t 36)⟩]) (.drop [36, 36]))
         (.cond (.t 35) (.seq (.seq (.reg [⟨(some 37), none, .load (some 5) (.t 1)⟩, ⟨(some 38), none, .call (.c (.fn 38 [])) [(.t 37), (.c (.v (.int .i64 2)))]⟩, ⟨(some 2), none, .mv (.t 38)⟩]) (.drop [3, 38]))
           .ret)
          c_il_Right_10))
theorem g_il_Right_11 {C : CT} {lf : Nat} {ks : List It} {s : St} : type_of% (@Sym.go_as C lf ks s _ _ c_il_Right_11.eq_1) := Sym.go_as c_il_Right_11.eq_1
def b_il_Right : AC :=
 (.seq (.seq (.reg [⟨(some 1), none, .box (.t 0)⟩, ⟨(some 2), none, .mv (.c (.v (.bool false)))⟩]) (.drop [2, 2]))
 (.seq (.seq (.reg [⟨(some 5), none, .fad 0 (.t 1)⟩, ⟨(some 6), none, .load none (.t 5)⟩, ⟨(some 7), none, .call (.c (.fn 36 [])) [(.t 6)]⟩, ⟨(some 8), none, .fld 1 none (.t 7)⟩, ⟨(some 3), none, .mv (.t 8)⟩]) (.drop [4, 8]))
  (.seq (.seq (.reg [⟨(some 9), none, .fad 2 (.t 1)⟩, ⟨(some 10), none, .load none (.t 9)⟩, ⟨(some 11), none, .bin .eql (.t 10) (.c (.v (.int .i64 0)))⟩, ⟨(some 12), none, .mv (.t 11)⟩, ⟨(some 13), (some (12, true)), .fad 4 (.t 1)⟩, ⟨(some 14), (some (12, true)), .load none (.t 13)⟩, ⟨(some 15), (some (12, true)), .bin .eql (.t 14) (.c (.v (.int .i64 0)))⟩, ⟨(some 16), none, .pick (.t 12) (.t 15) (.c (.v (.bool false)))⟩, ⟨(some 4), none, .mv (.t 16)⟩]) (.drop [5, 16]))
   (.seq (.seq (.seq (.reg [⟨(some 17), none, .mv (.t 3)⟩]) (.drop []))
     (.block 0 (.seq (.seq (.reg [⟨(some 19), none, .bin .eql (.t 17) (.c (.v (.int .i64 1)))⟩, ⟨(some 18), none, .mv (.t 19)⟩]) (.drop [19, 19]))
       (.cond (.t 18) c_il_Right_1
        c_il_Right_11))))
    (.seq (.seq (.reg [⟨(some 2), none, .mv (.c (.v (.bool false)))⟩]) (.drop []))
     .ret)))))
def a_il_Right : AFn := ⟨1, b_il_Right, [.t 2], false, false⟩
theorem a_il_Right_ok : compF Try.prog Try.f26 [[2, 2], [4, 8], [5, 16], [], [19, 19], [2, 21], [3, 32], [3, 34], [36, 36], [3, 38], [40, 40], [3, 56], [58, 58], [3, 69], [71, 71], [3, 83], [85, 85], [3, 96], [98, 98], [3, 126], [128, 128], [3, 151], []] false false hv = some a_il_Right := by kernel_rfl

/-! fugleman/verify.jumps: 27 -/
def b_verify_jumps : AC :=
 (.seq (.seq (.reg [⟨(some 1), none, .box (.t 0)⟩, ⟨(some 2), none, .mv (.c (.v (.bool false)))⟩]) (.drop [2, 2]))
 (.seq (.seq (.reg [⟨(some 3), none, .fad 0 (.t 1)⟩, ⟨(some 4), none, .load none (.t 3)⟩, ⟨(some 5), none, .bin .geq (.t 4) (.c (.v (.int .i64 25)))⟩, ⟨(some 6), none, .mv (.t 5)⟩, ⟨(some 7), (some (6, true)), .fad 0 (.t 1)⟩, ⟨(some 8), (some (6, true)), .load none (.t 7)⟩, ⟨(some 9), (some (6, true)), .bin .leq (.t 8) (.c (.v (.int .i64 27)))⟩, ⟨(some 10), none, .pick (.t 6) (.t 9) (.c (.v (.bool false)))⟩, ⟨(some 2), none, .mv (.t 10)⟩]) (.drop [3, 10]))
  .ret))
def a_verify_jumps : AFn := ⟨1, b_verify_jumps, [.t 2], false, false⟩
theorem a_verify_jumps_ok : compF Try.prog Try.f27 [[2, 2], [3, 10]] false false hv = some a_verify_jumps := by kernel_rfl

/-! (fugleman/verify.ahead).with: 41 -/
def b_verify_ahead_with : AC :=
 (.seq (.seq (.reg [⟨(some 2), none, .box (.t 0)⟩, ⟨(some 4), none, .alloc [(.v (.int .i64 0)), (.v (.slice none 0 0))]⟩]) (.drop []))
 (.seq (.seq (.reg [⟨(some 5), none, .mv (.t 1)⟩, ⟨(some 6), none, .fad 0 (.t 2)⟩, ⟨none, none, .store 1 (.t 6) (.t 5)⟩]) (.drop [5, 6]))
  (.seq (.seq (.reg [⟨(some 7), none, .load (some 2) (.t 2)⟩, ⟨none, none, .store 2 (.t 4) (.t 7)⟩]) (.drop [5, 7]))
   .ret)))
def a_verify_ahead_with : AFn := ⟨2, b_verify_ahead_with, [.cell 4 (some 2)], false, false⟩
theorem a_verify_ahead_with_ok : compF Try.prog Try.f41 [[], [5, 6], [5, 7]] false false hv = some a_verify_ahead_with := by kernel_rfl

/-! fugleman/verify.must: 42 -/
def b_verify_must : AC :=
 (.seq (.seq (.reg [⟨(some 2), none, .mv (.c (.v (.int .i64 0)))⟩]) (.drop [1, 2]))
 (.seq (.seq (.seq (.reg [⟨(some 3), none, .mv (.t 0)⟩, ⟨(some 4), none, .un .not (.t 3)⟩]) (.drop [0, 3]))
   (.cond (.t 4) (.seq (.seq (.reg [⟨(some 2), none, .mv (.c (.v (.int .i64 6)))⟩]) (.drop []))
     .ret)
    .skip))
  (.seq (.seq (.reg [⟨(some 2), none, .mv (.c (.v (.int .i64 0)))⟩]) (.drop []))
   .ret)))
def a_verify_must : AFn := ⟨1, b_verify_must, [.t 2], false, false⟩
theorem a_verify_must_ok : compF Try.prog Try.f42 [[1, 2], [0, 3], [], []] false false hv = some a_verify_must := by kernel_rfl

/-! fugleman/iec.May: 48 -/
def c_iec_May_0 : AC :=
 (.seq (.seq (.reg [⟨(some 25), none, .mv (.t 0)⟩, ⟨(some 26), none, .bin .geq (.t 25) (.c (.v (.int .i64 14)))⟩, ⟨(some 27), none, .mv (.t 26)⟩, ⟨(some 28), (some (27, true)), .mv (.t 0)⟩, ⟨(some 29), (some (27, true)), .bin .leq (.t 28) (.c (.v (.int .i64 18)))⟩, ⟨(some 30), none, .pick (.t 27) (.t 29) (.c (.v (.bool false)))⟩, ⟨(some 24), none, .mv (.t 30)⟩]) (.drop [25, 30]))
         (.cond (.t 24) (.seq (.seq (.reg [⟨(some 31), none, .fad 3 (.t 5)⟩, ⟨(some 32), none, .load none (.t 31)⟩, ⟨(some 33), none, .un .not (.t 32)⟩, ⟨(some 4), none, .mv (.t 33)⟩]) (.drop [5, 33]))
           .ret)
          .skip))
theorem g_iec_May_0 {C : CT} {lf : Nat} {ks : List It} {s : St} : type_of% (@Sym.go_as C lf ks s _ _ c_iec_May_0.eq_1) := Sym.go_as c_iec_May_0.eq_1
def c_iec_May_1 : AC :=
 (.seq (.seq (.reg [⟨(some 16), none, .mv (.t 0)⟩, ⟨(some 17), none, .bin .geq (.t 16) (.c (.v (.int .i64 7)))⟩, ⟨(some 18), none, .mv (.t 17)⟩, ⟨(some 19), (some (18, true)), .mv (.t 0)⟩, ⟨(some 20), (some (18, true)), .bin .leq (.t 19) (.c (.v (.int .i64 13)))⟩, ⟨(some 21), none, .pick (.t 18) (.t 20) (.c (.v (.bool false)))⟩, ⟨(some 15), none, .mv (.t 21)⟩]) (.drop [16, 21]))
       (.cond (.t 15) (.seq (.seq (.reg [⟨(some 22), none, .fad 3 (.t 5)⟩, ⟨(some 23), none, .load none (.t 22)⟩, ⟨(some 4), none, .mv (.t 23)⟩]) (.drop [5, 23]))
         .ret)
        c_iec_May_0))
theorem g_iec_May_1 {C : CT} {lf : Nat} {ks : List It} {s : St} : type_of% (@Sym.go_as C lf ks s _ _ c_iec_May_1.eq_1) := Sym.go_as c_iec_May_1.eq_1
def b_iec_May : AC :=
 (.seq (.seq (.reg [⟨(some 4), none, .mv (.c (.v (.bool false)))⟩]) (.drop [2, 4]))
 (.seq (.seq (.reg [⟨(some 8), none, .mv (.t 1)⟩, ⟨(some 9), none, .call (.c (.fn 50 [])) [(.t 8)]⟩, ⟨(some 7), none, .mv (.t 9)⟩, ⟨(some 10), none, .ext 0 (.t 7)⟩, ⟨(some 11), none, .ext 1 (.t 7)⟩, ⟨(some 5), none, .alloc [(.v (.string ⟨#[]⟩)), (.v (.int .i64 0)), (.v (.bool false)), (.v (.bool false))]⟩, ⟨none, none, .store 4 (.t 5) (.t 10)⟩, ⟨(some 6), none, .mv (.t 11)⟩]) (.drop [7, 11]))
  (.seq (.block 0 (.seq (.seq (.reg [⟨(some 13), none, .mv (.t 6)⟩, ⟨(some 14), none, .un .not (.t 13)⟩, ⟨(some 12), none, .mv (.t 14)⟩]) (.drop [13, 14]))
     (.cond (.t 12) (.seq (.seq (.reg [⟨(some 4), none, .mv (.c (.v (.bool false)))⟩]) (.drop []))
       .ret)
      c_iec_May_1)))
   (.seq (.seq (.reg [⟨(some 34), none, .mv (.t 0)⟩, ⟨(some 35), none, .bin .geq (.t 34) (.c (.v (.int .i64 19)))⟩, ⟨(some 36), none, .mv (.t 35)⟩, ⟨(some 37), (some (36, true)), .mv (.t 0)⟩, ⟨(some 38), (some (36, true)), .bin .leq (.t 37) (.c (.v (.int .i64 24)))⟩, ⟨(some 39), none, .pick (.t 36) (.t 38) (.c (.v (.bool false)))⟩, ⟨(some 4), none, .mv (.t 39)⟩]) (.drop [5, 39]))
    .ret))))
def a_iec_May : AFn := ⟨2, b_iec_May, [.t 4], false, false⟩
theorem a_iec_May_ok : compF Try.prog Try.f48 [[2, 4], [7, 11], [13, 14], [], [16, 21], [5, 23], [25, 30], [5, 33], [5, 39]] false false hv = some a_iec_May := by kernel_rfl

/-! fugleman/verify.logic: 43 -/
def b_verify_logic : AC :=
 (.seq (.seq (.reg [⟨(some 2), none, .mv (.c (.v (.bool false)))⟩]) (.drop [1, 2]))
 (.seq (.seq (.reg [⟨(some 3), none, .mv (.t 0)⟩, ⟨(some 4), none, .call (.c (.fn 48 [])) [(.c (.v (.int .i64 13))), (.t 3)]⟩, ⟨(some 2), none, .mv (.t 4)⟩]) (.drop [3, 4]))
  .ret))
def a_verify_logic : AFn := ⟨1, b_verify_logic, [.t 2], false, false⟩
theorem a_verify_logic_ok : compF Try.prog Try.f43 [[1, 2], [3, 4]] false false hv = some a_verify_logic := by kernel_rfl

/-! (fugleman/verify.ahead).ret: 44 -/
def c_verify_ahead_ret_0 : AC :=
 (.seq (.seq (.reg [⟨(some 16), none, .fad 1 (.t 2)⟩, ⟨(some 17), none, .load none (.t 16)⟩, ⟨(some 18), none, .len (.t 17)⟩, ⟨(some 19), none, .bin .gtr (.t 18) (.c (.v (.int .i64 0)))⟩, ⟨(some 15), none, .mv (.t 19)⟩]) (.drop [16, 19]))
      (.cond (.t 15) (.seq (.seq (.reg [⟨(some 20), none, .load (some 2) (.t 2)⟩, ⟨none, none, .store 2 (.t 4) (.t 20)⟩, ⟨(some 5), none, .mv (.c (.v (.int .i64 3)))⟩]) (.drop [6, 20]))
        .ret)
       .skip))
theorem g_verify_ahead_ret_0 {C : CT} {lf : Nat} {ks : List It} {s : St} : type_of% (@Sym.go_as C lf ks s _ _ c_verify_ahead_ret_0.eq_1) := Sym.go_as c_verify_ahead_ret_0.eq_1
def b_verify_ahead_ret : AC :=
 (.seq (.seq (.reg [⟨(some 2), none, .box (.t 0)⟩, ⟨(some 4), none, .alloc [(.v (.int .i64 0)), (.v (.slice none 0 0))]⟩, ⟨(some 5), none, .mv (.c (.v (.int .i64 0)))⟩]) (.drop [5, 5]))
 (.seq (.block 0 (.seq (.seq (.reg [⟨(some 7), none, .mv (.t 1)⟩, ⟨(some 8), none, .bin .neq (.t 7) (.c (.v (.int .i64 28)))⟩, ⟨(some 9), none, .mv (.t 8)⟩, ⟨(some 10), (some (9, true)), .fad 0 (.t 2)⟩, ⟨(some 11), (some (9, true)), .load none (.t 10)⟩, ⟨(some 12), (some (9, true)), .bin .neq (.t 11) (.c (.v (.int .i64 1)))⟩, ⟨(some 13), none, .pick (.t 9) (.t 12) (.c (.v (.bool false)))⟩, ⟨(some 6), none, .mv (.t 13)⟩]) (.drop [7, 13]))
    (.cond (.t 6) (.seq (.seq (.reg [⟨(some 14), none, .load (some 2) (.t 2)⟩, ⟨none, none, .store 2 (.t 4) (.t 14)⟩, ⟨(some 5), none, .mv (.c (.v (.int .i64 6)))⟩]) (.drop [6, 14]))
      .ret)
     c_verify_ahead_ret_0)))
  (.seq (.seq (.reg [⟨(some 21), none, .load (some 2) (.t 2)⟩, ⟨none, none, .store 2 (.t 4) (.t 21)⟩, ⟨(some 5), none, .mv (.c (.v (.int .i64 0)))⟩]) (.drop [6, 21]))
   .ret)))
def a_verify_ahead_ret : AFn := ⟨2, b_verify_ahead_ret, [.cell 4 (some 2), .t 5], false, false⟩
theorem a_verify_ahead_ret_ok : compF Try.prog Try.f44 [[5, 5], [7, 13], [6, 14], [16, 19], [6, 20], [6, 21]] false false hv = some a_verify_ahead_ret := by kernel_rfl

/-! slices.Clip[[]fugleman/verify.bracket,fugleman/verify.bracket]: 53 -/
def b_verify_bracket_53 : AC :=
 (.seq (.seq (.reg [⟨(some 2), none, .mv (.c (.v (.slice none 0 0)))⟩]) (.drop [1, 2]))
 (.seq (.seq (.reg [⟨(some 3), none, .mv (.t 0)⟩, ⟨(some 4), none, .mv (.t 0)⟩, ⟨(some 5), none, .len (.t 4)⟩, ⟨(some 6), none, .mv (.t 0)⟩, ⟨(some 7), none, .len (.t 6)⟩, ⟨(some 8), none, .sls 2 (.t 3) none (some (.t 5)) (some (.t 7))⟩, ⟨(some 2), none, .mv (.t 8)⟩]) (.drop [3, 8]))
  .ret))
def a_verify_bracket_53 : AFn := ⟨1, b_verify_bracket_53, [.t 2], false, false⟩
theorem a_verify_bracket_53_ok : compF Try.prog Try.f53 [[1, 2], [3, 8]] false false hv = some a_verify_bracket_53 := by kernel_rfl

/-! (fugleman/verify.ahead).push: 45 -/
def c_verify_ahead_push_0 : AC :=
 (.seq (.seq (.reg [⟨(some 14), none, .fad 1 (.t 2)⟩, ⟨(some 15), none, .load none (.t 14)⟩, ⟨(some 16), none, .len (.t 15)⟩, ⟨(some 17), none, .bin .eql (.t 16) (.c (.v (.int .i64 8)))⟩, ⟨(some 13), none, .mv (.t 17)⟩]) (.drop [14, 17]))
      (.cond (.t 13) (.seq (.seq (.reg [⟨(some 18), none, .load (some 2) (.t 2)⟩, ⟨none, none, .store 2 (.t 4) (.t 18)⟩, ⟨(some 5), none, .mv (.c (.v (.int .i64 8)))⟩]) (.drop [6, 18]))
        .ret)
       .skip))
theorem g_verify_ahead_push_0 {C : CT} {lf : Nat} {ks : List It} {s : St} : type_of% (@Sym.go_as C lf ks s _ _ c_verify_ahead_push_0.eq_1) := Sym.go_as c_verify_ahead_push_0.eq_1
def b_verify_ahead_push : AC :=
 (.seq (.seq (.reg [⟨(some 2), none, .box (.t 0)⟩, ⟨(some 4), none, .alloc [(.v (.int .i64 0)), (.v (.slice none 0 0))]⟩, ⟨(some 5), none, .mv (.c (.v (.int .i64 0)))⟩]) (.drop [5, 5]))
 (.seq (.block 0 (.seq (.seq (.reg [⟨(some 7), none, .mv (.t 1)⟩, ⟨(some 8), none, .fad 0 (.t 2)⟩, ⟨(some 9), none, .load none (.t 8)⟩, ⟨(some 10), none, .call (.c (.fn 48 [])) [(.t 7), (.t 9)]⟩, ⟨(some 11), none, .un .not (.t 10)⟩, ⟨(some 6), none, .mv (.t 11)⟩]) (.drop [7, 11]))
    (.cond (.t 6) (.seq (.seq (.reg [⟨(some 12), none, .load (some 2) (.t 2)⟩, ⟨none, none, .store 2 (.t 4) (.t 12)⟩, ⟨(some 5), none, .mv (.c (.v (.int .i64 6)))⟩]) (.drop [6, 12]))
      .ret)
     c_verify_ahead_push_0)))
  (.seq (.seq (.regm [(.o, ⟨(some 19), none, .fad 1 (.t 2)⟩), (.o, ⟨(some 20), none, .load none (.t 19)⟩), (.f, ⟨(some 21), none, .call (.c (.fn 53 [])) [(.t 20)]⟩), (.o, ⟨(some 22), none, .mv (.t 1)⟩), (.o, ⟨(some 23), none, .fad 0 (.t 2)⟩), (.o, ⟨(some 24), none, .load none (.t 23)⟩), (.o, ⟨(some 25), none, .build [(.v (.int .i64 0)), (.v (.int .i64 0))] [(0, 1, (.t 22)), (1, 1, (.t 24))]⟩), (.o, ⟨(some 26), none, .row 2 1 [(.v (.int .i64 0)), (.v (.int .i64 0))] [(0, 2, (.t 25))]⟩), (.o, ⟨(some 27), none, .app 2 16 (.t 21) (.t 26)⟩), (.o, ⟨(some 28), none, .build [(.v (.int .i64 0)), (.v (.slice none 0 0))] [(1, 1, (.t 27))]⟩), (.o, ⟨none, none, .store 2 (.t 4) (.t 28)⟩), (.o, ⟨(some 5), none, .mv (.c (.v (.int .i64 0)))⟩)]) (.drop [6, 28]))
   .ret)))
def a_verify_ahead_push : AFn := ⟨2, b_verify_ahead_push, [.cell 4 (some 2), .t 5], true, false⟩
theorem a_verify_ahead_push_ok : compF Try.prog Try.f45 [[5, 5], [7, 11], [6, 12], [14, 17], [6, 18], [6, 28]] true false hv = some a_verify_ahead_push := by kernel_rfl

/-! fugleman/verify.made: 47 -/
def b_verify_made : AC :=
 (.seq (.seq (.reg [⟨(some 4), none, .mv (.c (.v (.int .i64 0)))⟩]) (.drop [2, 4]))
 (.seq (.seq (.seq (.reg [⟨(some 5), none, .mv (.t 0)⟩, ⟨(some 6), none, .bin .geq (.t 5) (.c (.v (.int .i64 19)))⟩, ⟨(some 7), none, .mv (.t 6)⟩, ⟨(some 8), (some (7, true)), .mv (.t 0)⟩, ⟨(some 9), (some (7, true)), .bin .leq (.t 8) (.c (.v (.int .i64 24)))⟩, ⟨(some 10), none, .pick (.t 7) (.t 9) (.c (.v (.bool false)))⟩]) (.drop [2, 9]))
   (.cond (.t 10) (.seq (.seq (.reg [⟨(some 4), none, .mv (.c (.v (.int .i64 1)))⟩]) (.drop []))
     .ret)
    .skip))
  (.seq (.seq (.reg [⟨(some 11), none, .mv (.t 1)⟩, ⟨(some 4), none, .mv (.t 11)⟩]) (.drop [5, 11]))
   .ret)))
def a_verify_made : AFn := ⟨2, b_verify_made, [.t 4], false, false⟩
theorem a_verify_made_ok : compF Try.prog Try.f47 [[2, 4], [2, 9], [], [5, 11]] false false hv = some a_verify_made := by kernel_rfl

/-! (fugleman/verify.ahead).pop: 46 -/
def b_verify_ahead_pop : AC :=
 (.seq (.seq (.reg [⟨(some 1), none, .box (.t 0)⟩, ⟨(some 2), none, .alloc [(.v (.int .i64 0)), (.v (.slice none 0 0))]⟩, ⟨(some 3), none, .mv (.c (.v (.int .i64 0)))⟩]) (.drop [3, 3]))
 (.seq (.seq (.reg [⟨(some 6), none, .fad 1 (.t 1)⟩, ⟨(some 7), none, .load none (.t 6)⟩, ⟨(some 8), none, .len (.t 7)⟩, ⟨(some 4), none, .mv (.t 8)⟩]) (.drop [5, 8]))
  (.seq (.seq (.seq (.reg [⟨(some 9), none, .mv (.t 4)⟩, ⟨(some 10), none, .bin .eql (.t 9) (.c (.v (.int .i64 0)))⟩]) (.drop [5, 9]))
    (.cond (.t 10) (.seq (.seq (.reg [⟨(some 11), none, .load (some 2) (.t 1)⟩, ⟨none, none, .store 2 (.t 2) (.t 11)⟩, ⟨(some 3), none, .mv (.c (.v (.int .i64 3)))⟩]) (.drop [4, 11]))
      .ret)
     .skip))
   (.seq (.seq (.reg [⟨(some 12), none, .fad 1 (.t 1)⟩, ⟨(some 13), none, .load none (.t 12)⟩, ⟨(some 14), none, .mv (.t 4)⟩, ⟨(some 15), none, .bin .sub (.t 14) (.c (.v (.int .i64 1)))⟩, ⟨(some 16), none, .ixs 2 (.t 13) (.t 15)⟩, ⟨(some 17), none, .load (some 2) (.t 16)⟩, ⟨(some 5), none, .alloc [(.v (.int .i64 0)), (.v (.int .i64 0))]⟩, ⟨none, none, .store 2 (.t 5) (.t 17)⟩]) (.drop [6, 17]))
    (.seq (.seq (.seq (.reg [⟨(some 18), none, .fad 1 (.t 5)⟩, ⟨(some 19), none, .load none (.t 18)⟩, ⟨(some 20), none, .fad 0 (.t 1)⟩, ⟨(some 21), none, .load none (.t 20)⟩, ⟨(some 22), none, .bin .neq (.t 19) (.t 21)⟩]) (.drop [6, 21]))
      (.cond (.t 22) (.seq (.seq (.reg [⟨(some 23), none, .load (some 2) (.t 1)⟩, ⟨none, none, .store 2 (.t 2) (.t 23)⟩, ⟨(some 3), none, .mv (.c (.v (.int .i64 6)))⟩]) (.drop [4, 23]))
        .ret)
       .skip))
     (.seq (.seq (.regm [(.o, ⟨(some 24), none, .fad 0 (.t 5)⟩), (.o, ⟨(some 25), none, .load none (.t 24)⟩), (.o, ⟨(some 26), none, .fad 1 (.t 5)⟩), (.o, ⟨(some 27), none, .load none (.t 26)⟩), (.o, ⟨(some 29), none, .fad 1 (.t 1)⟩), (.o, ⟨(some 30), none, .load none (.t 29)⟩), (.o, ⟨(some 31), none, .mv (.t 4)⟩), (.o, ⟨(some 32), none, .bin .sub (.t 31) (.c (.v (.int .i64 1)))⟩), (.o, ⟨(some 33), none, .sls 2 (.t 30) none (some (.t 32)) none⟩), (.m, ⟨(some 28), none, .call (.c (.fn 47 [])) [(.t 25), (.t 27)]⟩), (.o, ⟨(some 34), none, .build [(.v (.int .i64 0)), (.v (.slice none 0 0))] [(0, 1, (.t 28)), (1, 1, (.t 33))]⟩), (.o, ⟨none, none, .store 2 (.t 2) (.t 34)⟩), (.o, ⟨(some 3), none, .mv (.c (.v (.int .i64 0)))⟩)]) (.drop [4, 34]))
      .ret))))))
def a_verify_ahead_pop : AFn := ⟨1, b_verify_ahead_pop, [.cell 2 (some 2), .t 3], false, false⟩
theorem a_verify_ahead_pop_ok : compF Try.prog Try.f46 [[3, 3], [5, 8], [5, 9], [4, 11], [6, 17], [6, 21], [4, 23], [4, 34]] false false hv = some a_verify_ahead_pop := by kernel_rfl

/-! (fugleman/verify.ahead).behind: 28 -/
def c_verify_ahead_behind_0 : AC :=
 (.seq (.seq (.reg [⟨(some 14), none, .load (some 2) (.t 2)⟩, ⟨(some 15), none, .fad 1 (.t 3)⟩, ⟨(some 16), none, .load none (.t 15)⟩, ⟨(some 17), none, .call (.c (.fn 41 [])) [(.t 14), (.t 16)]⟩, ⟨none, none, .store 2 (.t 4) (.t 17)⟩, ⟨(some 5), none, .mv (.c (.v (.int .i64 0)))⟩]) (.drop [6, 17]))
        .ret)
theorem g_verify_ahead_behind_0 {C : CT} {lf : Nat} {ks : List It} {s : St} : type_of% (@Sym.go_as C lf ks s _ _ c_verify_ahead_behind_0.eq_1) := Sym.go_as c_verify_ahead_behind_0.eq_1
def c_verify_ahead_behind_1 : AC :=
 (.seq (.seq (.regm [(.o, ⟨(some 20), none, .load (some 2) (.t 2)⟩), (.o, ⟨(some 21), none, .fad 1 (.t 3)⟩), (.o, ⟨(some 22), none, .load none (.t 21)⟩), (.o, ⟨(some 24), none, .fad 1 (.t 3)⟩), (.o, ⟨(some 25), none, .load none (.t 24)⟩), (.m, ⟨(some 23), none, .call (.c (.fn 41 [])) [(.t 20), (.t 22)]⟩), (.m, ⟨(some 26), none, .call (.c (.fn 43 [])) [(.t 25)]⟩), (.m, ⟨(some 27), none, .call (.c (.fn 42 [])) [(.t 26)]⟩), (.o, ⟨none, none, .store 2 (.t 4) (.t 23)⟩), (.o, ⟨(some 5), none, .mv (.t 27)⟩)]) (.drop [6, 27]))
          .ret)
theorem g_verify_ahead_behind_1 {C : CT} {lf : Nat} {ks : List It} {s : St} : type_of% (@Sym.go_as C lf ks s _ _ c_verify_ahead_behind_1.eq_1) := Sym.go_as c_verify_ahead_behind_1.eq_1
def c_verify_ahead_behind_2 : AC :=
 (.seq (.seq (.regm [(.o, ⟨(some 30), none, .load (some 2) (.t 2)⟩), (.o, ⟨(some 31), none, .fad 0 (.t 2)⟩), (.o, ⟨(some 32), none, .load none (.t 31)⟩), (.o, ⟨(some 33), none, .fad 1 (.t 3)⟩), (.o, ⟨(some 34), none, .load none (.t 33)⟩), (.o, ⟨(some 35), none, .bin .eql (.t 32) (.t 34)⟩), (.m, ⟨(some 36), none, .call (.c (.fn 42 [])) [(.t 35)]⟩), (.o, ⟨none, none, .store 2 (.t 4) (.t 30)⟩), (.o, ⟨(some 5), none, .mv (.t 36)⟩)]) (.drop [6, 36]))
            .ret)
theorem g_verify_ahead_behind_2 {C : CT} {lf : Nat} {ks : List It} {s : St} : type_of% (@Sym.go_as C lf ks s _ _ c_verify_ahead_behind_2.eq_1) := Sym.go_as c_verify_ahead_behind_2.eq_1
def c_verify_ahead_behind_3 : AC :=
 (.seq (.seq (.regm [(.o, ⟨(some 39), none, .load (some 2) (.t 2)⟩), (.o, ⟨(some 40), none, .fad 0 (.t 2)⟩), (.o, ⟨(some 41), none, .load none (.t 40)⟩), (.o, ⟨(some 42), none, .fad 1 (.t 3)⟩), (.o, ⟨(some 43), none, .load none (.t 42)⟩), (.o, ⟨(some 44), none, .bin .eql (.t 41) (.t 43)⟩), (.o, ⟨(some 45), none, .mv (.t 44)⟩), (.o, ⟨(some 46), (some (45, true)), .fad 1 (.t 3)⟩), (.o, ⟨(some 47), (some (45, true)), .load none (.t 46)⟩), (.m, ⟨(some 48), (some (45, true)), .call (.c (.fn 43 [])) [(.t 47)]⟩), (.o, ⟨(some 49), none, .pick (.t 45) (.t 48) (.c (.v (.bool false)))⟩), (.m, ⟨(some 50), none, .call (.c (.fn 42 [])) [(.t 49)]⟩), (.o, ⟨none, none, .store 2 (.t 4) (.t 39)⟩), (.o, ⟨(some 5), none, .mv (.t 50)⟩)]) (.drop [6, 50]))
              .ret)
theorem g_verify_ahead_behind_3 {C : CT} {lf : Nat} {ks : List It} {s : St} : type_of% (@Sym.go_as C lf ks s _ _ c_verify_ahead_behind_3.eq_1) := Sym.go_as c_verify_ahead_behind_3.eq_1
def c_verify_ahead_behind_4 : AC :=
 (.seq (.seq (.regm [(.o, ⟨(some 54), none, .load (some 2) (.t 2)⟩), (.o, ⟨(some 55), none, .mv (.t 6)⟩), (.o, ⟨(some 56), none, .mv (.t 55)⟩), (.o, ⟨(some 57), (some (56, true)), .fad 1 (.t 3)⟩), (.o, ⟨(some 58), (some (56, true)), .load none (.t 57)⟩), (.o, ⟨(some 59), (some (56, true)), .bin .eql (.t 58) (.c (.v (.int .i64 1)))⟩), (.o, ⟨(some 60), none, .pick (.t 56) (.t 59) (.c (.v (.bool false)))⟩), (.m, ⟨(some 61), none, .call (.c (.fn 42 [])) [(.t 60)]⟩), (.o, ⟨none, none, .store 2 (.t 4) (.t 54)⟩), (.o, ⟨(some 5), none, .mv (.t 61)⟩)]) (.drop [6, 61]))
                .ret)
theorem g_verify_ahead_behind_4 {C : CT} {lf : Nat} {ks : List It} {s : St} : type_of% (@Sym.go_as C lf ks s _ _ c_verify_ahead_behind_4.eq_1) := Sym.go_as c_verify_ahead_behind_4.eq_1
def c_verify_ahead_behind_5 : AC :=
 (.seq (.seq (.regm [(.o, ⟨(some 64), none, .load (some 2) (.t 2)⟩), (.o, ⟨(some 65), none, .fad 0 (.t 2)⟩), (.o, ⟨(some 66), none, .load none (.t 65)⟩), (.m, ⟨(some 67), none, .call (.c (.fn 43 [])) [(.t 66)]⟩), (.m, ⟨(some 68), none, .call (.c (.fn 42 [])) [(.t 67)]⟩), (.o, ⟨none, none, .store 2 (.t 4) (.t 64)⟩), (.o, ⟨(some 5), none, .mv (.t 68)⟩)]) (.drop [6, 68]))
                  .ret)
theorem g_verify_ahead_behind_5 {C : CT} {lf : Nat} {ks : List It} {s : St} : type_of% (@Sym.go_as C lf ks s _ _ c_verify_ahead_behind_5.eq_1) := Sym.go_as c_verify_ahead_behind_5.eq_1
def c_verify_ahead_behind_6 : AC :=
 (.seq (.seq (.reg [⟨(some 76), none, .bin .eql (.t 11) (.c (.v (.int .i64 35)))⟩, ⟨(some 72), none, .mv (.t 76)⟩]) (.drop [73, 76]))
                           (.cond (.t 72) .skip
                            (.seq (.reg [⟨(some 77), none, .bin .eql (.t 11) (.c (.v (.int .i64 36)))⟩, ⟨(some 72), none, .mv (.t 77)⟩]) (.drop [73, 77]))))
theorem g_verify_ahead_behind_6 {C : CT} {lf : Nat} {ks : List It} {s : St} : type_of% (@Sym.go_as C lf ks s _ _ c_verify_ahead_behind_6.eq_1) := Sym.go_as c_verify_ahead_behind_6.eq_1
def c_verify_ahead_behind_7 : AC :=
 (.seq (.seq (.reg [⟨(some 74), none, .bin .eql (.t 11) (.c (.v (.int .i64 27)))⟩, ⟨(some 72), none, .mv (.t 74)⟩]) (.drop [73, 74]))
                       (.cond (.t 72) .skip
                        (.seq (.seq (.reg [⟨(some 75), none, .bin .eql (.t 11) (.c (.v (.int .i64 34)))⟩, ⟨(some 72), none, .mv (.t 75)⟩]) (.drop [73, 75]))
                         (.cond (.t 72) .skip
                          c_verify_ahead_behind_6))))
theorem g_verify_ahead_behind_7 {C : CT} {lf : Nat} {ks : List It} {s : St} : type_of% (@Sym.go_as C lf ks s _ _ c_verify_ahead_behind_7.eq_1) := Sym.go_as c_verify_ahead_behind_7.eq_1
def c_verify_ahead_behind_8 : AC :=
 (.seq (.seq (.regm [(.o, ⟨(some 78), none, .load (some 2) (.t 2)⟩), (.o, ⟨(some 79), none, .mv (.t 6)⟩), (.m, ⟨(some 80), none, .call (.c (.fn 42 [])) [(.t 79)]⟩), (.o, ⟨none, none, .store 2 (.t 4) (.t 78)⟩), (.o, ⟨(some 5), none, .mv (.t 80)⟩)]) (.drop [6, 80]))
                      .ret)
theorem g_verify_ahead_behind_8 {C : CT} {lf : Nat} {ks : List It} {s : St} : type_of% (@Sym.go_as C lf ks s _ _ c_verify_ahead_behind_8.eq_1) := Sym.go_as c_verify_ahead_behind_8.eq_1
def c_verify_ahead_behind_9 : AC :=
 (.seq (.seq (.reg [⟨(some 83), none, .bin .eql (.t 11) (.c (.v (.int .i64 29)))⟩, ⟨(some 81), none, .mv (.t 83)⟩]) (.drop [82, 83]))
                         (.cond (.t 81) .skip
                          (.seq (.reg [⟨(some 84), none, .bin .eql (.t 11) (.c (.v (.int .i64 30)))⟩, ⟨(some 81), none, .mv (.t 84)⟩]) (.drop [82, 84]))))
theorem g_verify_ahead_behind_9 {C : CT} {lf : Nat} {ks : List It} {s : St} : type_of% (@Sym.go_as C lf ks s _ _ c_verify_ahead_behind_9.eq_1) := Sym.go_as c_verify_ahead_behind_9.eq_1
def c_verify_ahead_behind_10 : AC :=
 (.seq (.seq (.reg [⟨(some 85), none, .load (some 2) (.t 2)⟩, ⟨(some 86), none, .fad 0 (.t 3)⟩, ⟨(some 87), none, .load none (.t 86)⟩, ⟨(some 88), none, .call (.c (.fn 44 [])) [(.t 85), (.t 87)]⟩, ⟨(some 89), none, .ext 0 (.t 88)⟩, ⟨(some 90), none, .ext 1 (.t 88)⟩, ⟨none, none, .store 2 (.t 4) (.t 89)⟩, ⟨(some 5), none, .mv (.t 90)⟩]) (.drop [6, 90]))
                        .ret)
theorem g_verify_ahead_behind_10 {C : CT} {lf : Nat} {ks : List It} {s : St} : type_of% (@Sym.go_as C lf ks s _ _ c_verify_ahead_behind_10.eq_1) := Sym.go_as c_verify_ahead_behind_10.eq_1
def c_verify_ahead_behind_11 : AC :=
 (.seq (.seq (.regm [(.o, ⟨(some 93), none, .load (some 2) (.t 2)⟩), (.o, ⟨(some 94), none, .fad 1 (.t 3)⟩), (.o, ⟨(some 95), none, .load none (.t 94)⟩), (.o, ⟨(some 97), none, .fad 0 (.t 2)⟩), (.o, ⟨(some 98), none, .load none (.t 97)⟩), (.o, ⟨(some 99), none, .bin .neq (.t 98) (.c (.v (.int .i64 0)))⟩), (.m, ⟨(some 96), none, .call (.c (.fn 41 [])) [(.t 93), (.t 95)]⟩), (.m, ⟨(some 100), none, .call (.c (.fn 42 [])) [(.t 99)]⟩), (.o, ⟨none, none, .store 2 (.t 4) (.t 96)⟩), (.o, ⟨(some 5), none, .mv (.t 100)⟩)]) (.drop [6, 100]))
                          .ret)
theorem g_verify_ahead_behind_11 {C : CT} {lf : Nat} {ks : List It} {s : St} : type_of% (@Sym.go_as C lf ks s _ _ c_verify_ahead_behind_11.eq_1) := Sym.go_as c_verify_ahead_behind_11.eq_1
def c_verify_ahead_behind_12 : AC :=
 (.seq (.seq (.reg [⟨(some 103), none, .load (some 2) (.t 2)⟩, ⟨(some 104), none, .fad 3 (.t 3)⟩, ⟨(some 105), none, .load none (.t 104)⟩, ⟨(some 106), none, .call (.c (.fn 45 [])) [(.t 103), (.t 105)]⟩, ⟨(some 107), none, .ext 0 (.t 106)⟩, ⟨(some 108), none, .ext 1 (.t 106)⟩, ⟨none, none, .store 2 (.t 4) (.t 107)⟩, ⟨(some 5), none, .mv (.t 108)⟩]) (.drop [6, 108]))
                            .ret)
theorem g_verify_ahead_behind_12 {C : CT} {lf : Nat} {ks : List It} {s : St} : type_of% (@Sym.go_as C lf ks s _ _ c_verify_ahead_behind_12.eq_1) := Sym.go_as c_verify_ahead_behind_12.eq_1
def c_verify_ahead_behind_13 : AC :=
 (.seq (.seq (.reg [⟨(some 111), none, .load (some 2) (.t 2)⟩, ⟨(some 112), none, .call (.c (.fn 46 [])) [(.t 111)]⟩, ⟨(some 113), none, .ext 0 (.t 112)⟩, ⟨(some 114), none, .ext 1 (.t 112)⟩, ⟨none, none, .store 2 (.t 4) (.t 113)⟩, ⟨(some 5), none, .mv (.t 114)⟩]) (.drop [6, 114]))
                              .ret)
theorem g_verify_ahead_behind_13 {C : CT} {lf : Nat} {ks : List It} {s : St} : type_of% (@Sym.go_as C lf ks s _ _ c_verify_ahead_behind_13.eq_1) := Sym.go_as c_verify_ahead_behind_13.eq_1
def c_verify_ahead_behind_14 : AC :=
 (.seq (.seq (.reg [⟨(some 102), none, .bin .eql (.t 11) (.c (.v (.int .i64 32)))⟩, ⟨(some 101), none, .mv (.t 102)⟩]) (.drop [102, 102]))
                          (.cond (.t 101) c_verify_ahead_behind_12
                           (.seq (.seq (.reg [⟨(some 110), none, .bin .eql (.t 11) (.c (.v (.int .i64 33)))⟩, ⟨(some 109), none, .mv (.t 110)⟩]) (.drop [110, 110]))
                            (.cond (.t 109) c_verify_ahead_behind_13
                             .skip))))
theorem g_verify_ahead_behind_14 {C : CT} {lf : Nat} {ks : List It} {s : St} : type_of% (@Sym.go_as C lf ks s _ _ c_verify_ahead_behind_14.eq_1) := Sym.go_as c_verify_ahead_behind_14.eq_1
def c_verify_ahead_behind_15 : AC :=
 (.seq (.seq (.seq (.reg [⟨(some 82), none, .bin .eql (.t 11) (.c (.v (.int .i64 28)))⟩, ⟨(some 81), none, .mv (.t 82)⟩]) (.drop [82, 82]))
                       (.cond (.t 81) .skip
                        c_verify_ahead_behind_9))
                      (.cond (.t 81) c_verify_ahead_behind_10
                       (.seq (.seq (.reg [⟨(some 92), none, .bin .eql (.t 11) (.c (.v (.int .i64 31)))⟩, ⟨(some 91), none, .mv (.t 92)⟩]) (.drop [92, 92]))
                        (.cond (.t 91) c_verify_ahead_behind_11
                         c_verify_ahead_behind_14))))
theorem g_verify_ahead_behind_15 {C : CT} {lf : Nat} {ks : List It} {s : St} : type_of% (@Sym.go_as C lf ks s _ _ c_verify_ahead_behind_15.eq_1) := Sym.go_as c_verify_ahead_behind_15.eq_1
def c_verify_ahead_behind_16 : AC :=
 (.seq (.seq (.seq (.reg [⟨(some 73), none, .bin .eql (.t 11) (.c (.v (.int .i64 26)))⟩, ⟨(some 72), none, .mv (.t 73)⟩]) (.drop [73, 73]))
                     (.cond (.t 72) .skip
                      c_verify_ahead_behind_7))
                    (.cond (.t 72) c_verify_ahead_behind_8
                     c_verify_ahead_behind_15))
theorem g_verify_ahead_behind_16 {C : CT} {lf : Nat} {ks : List It} {s : St} : type_of% (@Sym.go_as C lf ks s _ _ c_verify_ahead_behind_16.eq_1) := Sym.go_as c_verify_ahead_behind_16.eq_1
def c_verify_ahead_behind_17 : AC :=
 (.seq (.seq (.reg [⟨(some 70), none, .bin .eql (.t 11) (.c (.v (.int .i64 25)))⟩, ⟨(some 69), none, .mv (.t 70)⟩]) (.drop [70, 70]))
                  (.cond (.t 69) (.seq (.seq (.reg [⟨(some 71), none, .load (some 2) (.t 2)⟩, ⟨none, none, .store 2 (.t 4) (.t 71)⟩, ⟨(some 5), none, .mv (.c (.v (.int .i64 0)))⟩]) (.drop [6, 71]))
                    .ret)
                   c_verify_ahead_behind_16))
theorem g_verify_ahead_behind_17 {C : CT} {lf : Nat} {ks : List It} {s : St} : type_of% (@Sym.go_as C lf ks s _ _ c_verify_ahead_behind_17.eq_1) := Sym.go_as c_verify_ahead_behind_17.eq_1
def c_verify_ahead_behind_18 : AC :=
 (.seq (.seq (.seq (.reg [⟨(some 52), none, .bin .eql (.t 11) (.c (.v (.int .i64 5)))⟩, ⟨(some 51), none, .mv (.t 52)⟩]) (.drop [52, 52]))
               (.cond (.t 51) .skip
                (.seq (.reg [⟨(some 53), none, .bin .eql (.t 11) (.c (.v (.int .i64 6)))⟩, ⟨(some 51), none, .mv (.t 53)⟩]) (.drop [52, 53]))))
              (.cond (.t 51) c_verify_ahead_behind_4
               (.seq (.seq (.reg [⟨(some 63), none, .bin .eql (.t 11) (.c (.v (.int .i64 13)))⟩, ⟨(some 62), none, .mv (.t 63)⟩]) (.drop [63, 63]))
                (.cond (.t 62) c_verify_ahead_behind_5
                 c_verify_ahead_behind_17))))
theorem g_verify_ahead_behind_18 {C : CT} {lf : Nat} {ks : List It} {s : St} : type_of% (@Sym.go_as C lf ks s _ _ c_verify_ahead_behind_18.eq_1) := Sym.go_as c_verify_ahead_behind_18.eq_1
def c_verify_ahead_behind_19 : AC :=
 (.seq (.seq (.reg [⟨(some 29), none, .bin .eql (.t 11) (.c (.v (.int .i64 3)))⟩, ⟨(some 28), none, .mv (.t 29)⟩]) (.drop [29, 29]))
          (.cond (.t 28) c_verify_ahead_behind_2
           (.seq (.seq (.reg [⟨(some 38), none, .bin .eql (.t 11) (.c (.v (.int .i64 4)))⟩, ⟨(some 37), none, .mv (.t 38)⟩]) (.drop [38, 38]))
            (.cond (.t 37) c_verify_ahead_behind_3
             c_verify_ahead_behind_18))))
theorem g_verify_ahead_behind_19 {C : CT} {lf : Nat} {ks : List It} {s : St} : type_of% (@Sym.go_as C lf ks s _ _ c_verify_ahead_behind_19.eq_1) := Sym.go_as c_verify_ahead_behind_19.eq_1
def b_verify_ahead_behind : AC :=
 (.seq (.seq (.reg [⟨(some 2), none, .box (.t 0)⟩, ⟨(some 3), none, .box (.t 1)⟩, ⟨(some 4), none, .alloc [(.v (.int .i64 0)), (.v (.slice none 0 0))]⟩, ⟨(some 5), none, .mv (.c (.v (.int .i64 0)))⟩]) (.drop [5, 5]))
 (.seq (.seq (.reg [⟨(some 7), none, .fad 0 (.t 2)⟩, ⟨(some 8), none, .load none (.t 7)⟩, ⟨(some 9), none, .bin .eql (.t 8) (.c (.v (.int .i64 1)))⟩, ⟨(some 6), none, .mv (.t 9)⟩]) (.drop [7, 9]))
  (.seq (.seq (.seq (.reg [⟨(some 10), none, .fad 0 (.t 3)⟩, ⟨(some 11), none, .load none (.t 10)⟩]) (.drop [7, 10]))
    (.block 0 (.seq (.seq (.reg [⟨(some 13), none, .bin .eql (.t 11) (.c (.v (.int .i64 1)))⟩, ⟨(some 12), none, .mv (.t 13)⟩]) (.drop [13, 13]))
      (.cond (.t 12) c_verify_ahead_behind_0
       (.seq (.seq (.reg [⟨(some 19), none, .bin .eql (.t 11) (.c (.v (.int .i64 2)))⟩, ⟨(some 18), none, .mv (.t 19)⟩]) (.drop [19, 19]))
        (.cond (.t 18) c_verify_ahead_behind_1
         c_verify_ahead_behind_19))))))
   (.seq (.seq (.regm [(.o, ⟨(some 115), none, .load (some 2) (.t 2)⟩), (.o, ⟨(some 116), none, .fad 0 (.t 3)⟩), (.o, ⟨(some 117), none, .load none (.t 116)⟩), (.o, ⟨(some 118), none, .fad 1 (.t 3)⟩), (.o, ⟨(some 119), none, .load none (.t 118)⟩), (.o, ⟨(some 122), none, .fad 0 (.t 2)⟩), (.o, ⟨(some 123), none, .load none (.t 122)⟩), (.o, ⟨(some 124), none, .fad 1 (.t 3)⟩), (.o, ⟨(some 125), none, .load none (.t 124)⟩), (.o, ⟨(some 126), none, .bin .eql (.t 123) (.t 125)⟩), (.m, ⟨(some 120), none, .call (.c (.fn 47 [])) [(.t 117), (.t 119)]⟩), (.m, ⟨(some 121), none, .call (.c (.fn 41 [])) [(.t 115), (.t 120)]⟩), (.o, ⟨(some 127), none, .mv (.t 126)⟩), (.o, ⟨(some 128), (some (127, true)), .fad 0 (.t 3)⟩), (.o, ⟨(some 129), (some (127, true)), .load none (.t 128)⟩), (.o, ⟨(some 130), (some (127, true)), .fad 1 (.t 3)⟩), (.o, ⟨(some 131), (some (127, true)), .load none (.t 130)⟩), (.m, ⟨(some 132), (some (127, true)), .call (.c (.fn 48 [])) [(.t 129), (.t 131)]⟩), (.o, ⟨(some 133), none, .pick (.t 127) (.t 132) (.c (.v (.bool false)))⟩), (.m, ⟨(some 134), none, .call (.c (.fn 42 [])) [(.t 133)]⟩), (.o, ⟨none, none, .store 2 (.t 4) (.t 121)⟩), (.o, ⟨(some 5), none, .mv (.t 134)⟩)]) (.drop [6, 134]))
    .ret))))
def a_verify_ahead_behind : AFn := ⟨2, b_verify_ahead_behind, [.cell 4 (some 2), .t 5], false, false⟩
theorem a_verify_ahead_behind_ok : compF Try.prog Try.f28 [[5, 5], [7, 9], [7, 10], [13, 13], [6, 17], [19, 19], [6, 27], [29, 29], [6, 36], [38, 38], [6, 50], [52, 52], [52, 53], [6, 61], [63, 63], [6, 68], [70, 70], [6, 71], [73, 73], [73, 74], [73, 75], [73, 76], [73, 77], [6, 80], [82, 82], [82, 83], [82, 84], [6, 90], [92, 92], [6, 100], [102, 102], [6, 108], [110, 110], [6, 114], [6, 134]] false false hv = some a_verify_ahead_behind := by kernel_rfl

/-! fugleman/verify.on: 29 -/
def b_verify_on : AC :=
 (.seq (.seq (.reg [⟨(some 1), none, .box (.t 0)⟩, ⟨(some 2), none, .mv (.c (.v (.bool false)))⟩]) (.drop [2, 2]))
 (.seq (.seq (.reg [⟨(some 3), none, .fad 0 (.t 1)⟩, ⟨(some 4), none, .load none (.t 3)⟩, ⟨(some 5), none, .bin .neq (.t 4) (.c (.v (.int .i64 25)))⟩, ⟨(some 6), none, .mv (.t 5)⟩, ⟨(some 7), (some (6, true)), .fad 0 (.t 1)⟩, ⟨(some 8), (some (6, true)), .load none (.t 7)⟩, ⟨(some 9), (some (6, true)), .bin .neq (.t 8) (.c (.v (.int .i64 28)))⟩, ⟨(some 10), none, .pick (.t 6) (.t 9) (.c (.v (.bool false)))⟩, ⟨(some 2), none, .mv (.t 10)⟩]) (.drop [3, 10]))
  .ret))
def a_verify_on : AFn := ⟨1, b_verify_on, [.t 2], false, false⟩
theorem a_verify_on_ok : compF Try.prog Try.f29 [[2, 2], [3, 10]] false false hv = some a_verify_on := by kernel_rfl

/-! slices.Equal[[]fugleman/verify.bracket,fugleman/verify.bracket]: 49 -/
def l_verify_bracket_49_1 : AC :=
 (.seq (.seq (.reg [⟨(some 4), none, .mv (.c (.v (.bool true)))⟩]) (.drop []))
 .ret)
def l_verify_bracket_49_0 : AC :=
 (.seq (.seq (.reg [⟨(some 14), none, .bin .lss (.t 13) (.t 12)⟩]) (.drop []))
 (.seq (.cond (.t 14) .skip
   (.exit 0))
  (.seq (.block 1 (.seq (.seq (.reg [⟨(some 15), none, .mv (.t 13)⟩, ⟨(some 5), none, .mv (.t 15)⟩]) (.drop [14, 15]))
     (.seq (.seq (.regq [⟨(some 16), none, .mv (.t 0)⟩, ⟨(some 17), none, .mv (.t 5)⟩, ⟨(some 18), none, .ixs 2 (.t 16) (.t 17)⟩, ⟨(some 19), none, .load (some 2) (.t 18)⟩, ⟨(some 20), none, .mv (.t 1)⟩, ⟨(some 21), none, .mv (.t 5)⟩, ⟨(some 22), none, .ixs 2 (.t 20) (.t 21)⟩, ⟨(some 23), none, .load (some 2) (.t 22)⟩, ⟨(some 24), none, .eqst true [(0, .i), (1, .i)] (.t 19) (.t 23)⟩]) (.drop [14, 23]))
      (.cond (.t 24) (.seq (.seq (.reg [⟨(some 4), none, .mv (.c (.v (.bool false)))⟩]) (.drop []))
        .ret)
       .skip))))
   (.seq (.reg [⟨(some 25), none, .bin .add (.t 13) (.c (.v (.int .i64 1)))⟩, ⟨(some 13), none, .mv (.t 25)⟩]) (.drop [14, 25])))))
def b_verify_bracket_49 : AC :=
 (.seq (.seq (.reg [⟨(some 4), none, .mv (.c (.v (.bool false)))⟩]) (.drop [2, 4]))
 (.seq (.seq (.seq (.reg [⟨(some 6), none, .mv (.t 0)⟩, ⟨(some 7), none, .len (.t 6)⟩, ⟨(some 8), none, .mv (.t 1)⟩, ⟨(some 9), none, .len (.t 8)⟩, ⟨(some 10), none, .bin .neq (.t 7) (.t 9)⟩]) (.drop [2, 9]))
   (.cond (.t 10) (.seq (.seq (.reg [⟨(some 4), none, .mv (.c (.v (.bool false)))⟩]) (.drop []))
     .ret)
    .skip))
  (.seq (.seq (.seq (.reg [⟨(some 11), none, .mv (.t 0)⟩, ⟨(some 12), none, .len (.t 11)⟩, ⟨(some 13), none, .mv (.c (.v (.int .i64 0)))⟩]) (.drop [2, 11]))
    (.block 0 (.loop [0, 1, 12, 13] l_verify_bracket_49_0)))
   l_verify_bracket_49_1)))
def a_verify_bracket_49 : AFn := ⟨2, b_verify_bracket_49, [.t 4], false, false⟩
theorem a_verify_bracket_49_ok : compF Try.prog Try.f49 [[2, 4], [2, 9], [], [2, 11], [0, 1, 12, 13], [], [14, 15], [14, 23], [], [14, 25], []] false false hv = some a_verify_bracket_49 := by kernel_rfl

/-! (fugleman/verify.table).lead: 30 -/
def c_verify_table_lead_0 : AC :=
 (.seq (.seq (.reg [⟨(some 14), none, .mv (.t 0)⟩, ⟨(some 15), none, .mv (.t 1)⟩, ⟨(some 16), none, .ixs 1 (.t 14) (.t 15)⟩, ⟨none, none, .store 1 (.t 16) (.t 5)⟩]) (.drop [0, 16]))
      (.seq (.seq (.reg [⟨(some 6), none, .mv (.c (.v (.bool true)))⟩]) (.drop []))
       .ret))
theorem g_verify_table_lead_0 {C : CT} {lf : Nat} {ks : List It} {s : St} : type_of% (@Sym.go_as C lf ks s _ _ c_verify_table_lead_0.eq_1) := Sym.go_as c_verify_table_lead_0.eq_1
def c_verify_table_lead_1 : AC :=
 (.seq (.reg [⟨(some 24), none, .mv (.t 7)⟩, ⟨(some 25), none, .mv (.t 7)⟩, ⟨(some 26), none, .nilck (.t 25)⟩, ⟨(some 27), none, .load (some 2) (.t 26)⟩, ⟨(some 28), none, .call (.c (.fn 41 [])) [(.t 27), (.c (.v (.int .i64 0)))]⟩, ⟨(some 29), none, .nilck (.t 24)⟩, ⟨none, none, .store 2 (.t 29) (.t 28)⟩]) (.drop [8, 29]))
theorem g_verify_table_lead_1 {C : CT} {lf : Nat} {ks : List It} {s : St} : type_of% (@Sym.go_as C lf ks s _ _ c_verify_table_lead_1.eq_1) := Sym.go_as c_verify_table_lead_1.eq_1
def b_verify_table_lead : AC :=
 (.seq (.seq (.reg [⟨(some 5), none, .box (.t 2)⟩, ⟨(some 6), none, .mv (.c (.v (.bool false)))⟩]) (.drop [6, 6]))
 (.seq (.seq (.reg [⟨(some 8), none, .mv (.t 0)⟩, ⟨(some 9), none, .mv (.t 1)⟩, ⟨(some 10), none, .ixs 1 (.t 8) (.t 9)⟩, ⟨(some 11), none, .load none (.t 10)⟩, ⟨(some 7), none, .mv (.t 11)⟩]) (.drop [8, 11]))
  (.seq (.seq (.seq (.reg [⟨(some 12), none, .mv (.t 7)⟩, ⟨(some 13), none, .eqp false (.t 12) (.c (.v (.pointer none)))⟩]) (.drop [8, 12]))
    (.cond (.t 13) c_verify_table_lead_0
     .skip))
   (.seq (.seq (.seq (.regq [⟨(some 17), none, .mv (.t 7)⟩, ⟨(some 18), none, .nilck (.t 17)⟩, ⟨(some 19), none, .fad 0 (.t 18)⟩, ⟨(some 20), none, .load none (.t 19)⟩, ⟨(some 21), none, .fad 0 (.t 5)⟩, ⟨(some 22), none, .load none (.t 21)⟩, ⟨(some 23), none, .bin .neq (.t 20) (.t 22)⟩]) (.drop [8, 22]))
     (.cond (.t 23) c_verify_table_lead_1
      .skip))
    (.seq (.seq (.regq [⟨(some 30), none, .mv (.t 7)⟩, ⟨(some 31), none, .nilck (.t 30)⟩, ⟨(some 32), none, .fad 1 (.t 31)⟩, ⟨(some 33), none, .load none (.t 32)⟩, ⟨(some 34), none, .fad 1 (.t 5)⟩, ⟨(some 35), none, .load none (.t 34)⟩, ⟨(some 36), none, .call (.c (.fn 49 [])) [(.t 33), (.t 35)]⟩, ⟨(some 6), none, .mv (.t 36)⟩]) (.drop [7, 36]))
     .ret)))))
def a_verify_table_lead : AFn := ⟨3, b_verify_table_lead, [.t 6], false, true⟩
theorem a_verify_table_lead_ok : compF Try.prog Try.f30 [[6, 6], [8, 11], [8, 12], [0, 16], [], [8, 22], [8, 29], [7, 36]] false true hv = some a_verify_table_lead := by kernel_rfl

/-! fugleman/verify.all: 14 -/
def l_verify_all_1 : AC :=
 (.seq (.seq (.seq (.reg [⟨(some 93), none, .mv (.t 5)⟩, ⟨(some 94), none, .mv (.t 0)⟩, ⟨(some 95), none, .len (.t 94)⟩, ⟨(some 96), none, .ixs 1 (.t 93) (.t 95)⟩, ⟨(some 97), none, .load none (.t 96)⟩, ⟨(some 10), none, .mv (.t 97)⟩]) (.drop [11, 97]))
  (.seq (.seq (.reg [⟨(some 98), none, .mv (.t 10)⟩, ⟨(some 99), none, .eqp true (.t 98) (.c (.v (.pointer none)))⟩, ⟨(some 100), none, .mv (.t 99)⟩, ⟨(some 101), (some (100, true)), .mv (.t 10)⟩, ⟨(some 102), (some (100, true)), .nilck (.t 101)⟩, ⟨(some 103), (some (100, true)), .fad 1 (.t 102)⟩, ⟨(some 104), (some (100, true)), .load none (.t 103)⟩, ⟨(some 105), (some (100, true)), .len (.t 104)⟩, ⟨(some 106), (some (100, true)), .bin .gtr (.t 105) (.c (.v (.int .i64 0)))⟩, ⟨(some 107), none, .pick (.t 100) (.t 106) (.c (.v (.bool false)))⟩]) (.drop [6, 106]))
   (.cond (.t 107) (.seq (.seq (.reg [⟨(some 108), none, .mv (.t 0)⟩, ⟨(some 109), none, .len (.t 108)⟩, ⟨(some 2), none, .mv (.c (.v (.slice none 0 0)))⟩, ⟨(some 3), none, .mv (.c (.v (.int .i64 3)))⟩, ⟨(some 4), none, .mv (.t 109)⟩]) (.drop [5, 109]))
     .ret)
    .skip)))
 (.seq (.seq (.reg [⟨(some 110), none, .mv (.t 5)⟩, ⟨(some 2), none, .mv (.t 110)⟩, ⟨(some 3), none, .mv (.c (.v (.int .i64 0)))⟩, ⟨(some 4), none, .mv (.c (.v (.int .i64 0)))⟩]) (.drop [5, 110]))
  .ret))
def l_verify_all_0 : AC :=
 (.seq (.seq (.reg [⟨(some 25), none, .bin .lss (.t 24) (.t 23)⟩]) (.drop []))
 (.seq (.cond (.t 25) .skip
   (.exit 0))
  (.seq (.block 1 (.seq (.seq (.reg [⟨(some 26), none, .mv (.t 24)⟩, ⟨(some 27), none, .ixs 5 (.t 22) (.t 24)⟩, ⟨(some 28), none, .load (some 5) (.t 27)⟩, ⟨(some 7), none, .alloc [(.v (.int .i64 0)), (.v (.int .i64 0)), (.v (.int .i64 0)), (.v (.int .i64 0)), (.v (.int .i64 0))]⟩, ⟨(some 6), none, .mv (.t 26)⟩, ⟨none, none, .store 5 (.t 7) (.t 28)⟩]) (.drop [25, 28]))
     (.seq (.seq (.seq (.reg [⟨(some 29), none, .load (some 5) (.t 7)⟩, ⟨(some 30), none, .call (.c (.fn 26 [])) [(.t 29)]⟩, ⟨(some 31), none, .un .not (.t 30)⟩]) (.drop [25, 30]))
       (.cond (.t 31) (.seq (.seq (.reg [⟨(some 32), none, .mv (.t 6)⟩, ⟨(some 2), none, .mv (.c (.v (.slice none 0 0)))⟩, ⟨(some 3), none, .mv (.c (.v (.int .i64 3)))⟩, ⟨(some 4), none, .mv (.t 32)⟩]) (.drop [5, 32]))
         .ret)
        .skip))
      (.seq (.seq (.seq (.reg [⟨(some 33), none, .mv (.t 5)⟩, ⟨(some 34), none, .mv (.t 6)⟩, ⟨(some 35), none, .ixs 1 (.t 33) (.t 34)⟩, ⟨(some 36), none, .load none (.t 35)⟩, ⟨(some 37), none, .eqp false (.t 36) (.c (.v (.pointer none)))⟩]) (.drop [25, 36]))
        (.cond (.t 37) (.exit 1)
         .skip))
       (.seq (.seq (.seq (.reg [⟨(some 38), none, .load (some 5) (.t 7)⟩, ⟨(some 39), none, .call (.c (.fn 27 [])) [(.t 38)]⟩, ⟨(some 40), none, .mv (.t 39)⟩, ⟨(some 41), (some (40, true)), .fad 3 (.t 7)⟩, ⟨(some 42), (some (40, true)), .load none (.t 41)⟩, ⟨(some 43), (some (40, true)), .mv (.t 6)⟩, ⟨(some 44), (some (40, true)), .bin .leq (.t 42) (.t 43)⟩, ⟨(some 45), (some (40, true)), .mv (.t 44)⟩, ⟨(some 46), (some (45, false)), .fad 3 (.t 7)⟩, ⟨(some 47), (some (45, false)), .load none (.t 46)⟩, ⟨(some 48), (some (45, false)), .mv (.t 0)⟩, ⟨(some 49), (some (45, false)), .len (.t 48)⟩, ⟨(some 50), (some (45, false)), .bin .gtr (.t 47) (.t 49)⟩, ⟨(some 51), (some (40, true)), .pick (.t 45) (.c (.v (.bool true))) (.t 50)⟩, ⟨(some 52), none, .pick (.t 40) (.t 51) (.c (.v (.bool false)))⟩]) (.drop [25, 51]))
         (.cond (.t 52) (.seq (.seq (.reg [⟨(some 53), none, .mv (.t 6)⟩, ⟨(some 2), none, .mv (.c (.v (.slice none 0 0)))⟩, ⟨(some 3), none, .mv (.c (.v (.int .i64 7)))⟩, ⟨(some 4), none, .mv (.t 53)⟩]) (.drop [5, 53]))
           .ret)
          .skip))
        (.seq (.seq (.regx (.op .o ⟨(some 55), none, .mv (.t 5)⟩
            (.op .o ⟨(some 56), none, .mv (.t 6)⟩
             (.op .o ⟨(some 57), none, .ixs 1 (.t 55) (.t 56)⟩
              (.op .o ⟨(some 58), none, .load none (.t 57)⟩
               (.op .o ⟨(some 59), none, .nilck (.t 58)⟩
                (.op .o ⟨(some 60), none, .load (some 2) (.t 59)⟩
                 (.op .o ⟨(some 61), none, .load (some 5) (.t 7)⟩
                  (.alt (.op .m ⟨(some 62), none, .call (.c (.fn 28 [])) [(.t 60), (.t 61)]⟩
                    (.op .o ⟨(some 54), none, .mv (.t 62)⟩
                     (.op .o ⟨(some 63), none, .ext 0 (.t 54)⟩
                      (.op .o ⟨(some 64), none, .ext 1 (.t 54)⟩
                       (.op .o ⟨(some 8), none, .alloc [(.v (.int .i64 0)), (.v (.slice none 0 0))]⟩
                        (.op .o ⟨none, none, .store 2 (.t 8) (.t 63)⟩
                         (.op .o ⟨(some 9), none, .mv (.t 64)⟩
                          .nil)))))))
                   (.op .o ⟨(some 8), none, .alloc [(.v (.int .i64 0)), (.v (.slice none 0 0))]⟩
                    (.op .m ⟨(some 62), none, .call (.c (.fn 28 [])) [(.t 60), (.t 61)]⟩
                     (.op .o ⟨(some 54), none, .mv (.t 62)⟩
                      (.op .o ⟨(some 63), none, .ext 0 (.t 54)⟩
                       (.op .o ⟨(some 64), none, .ext 1 (.t 54)⟩
                        (.op .o ⟨none, none, .store 2 (.t 8) (.t 63)⟩
                         (.op .o ⟨(some 9), none, .mv (.t 64)⟩
                          .nil)))))))))))))))) (.drop [25, 64]))
         (.seq (.seq (.seq (.reg [⟨(some 65), none, .mv (.t 9)⟩, ⟨(some 66), none, .bin .neq (.t 65) (.c (.v (.int .i64 0)))⟩]) (.drop [25, 65]))
           (.cond (.t 66) (.seq (.seq (.reg [⟨(some 67), none, .mv (.t 9)⟩, ⟨(some 68), none, .mv (.t 6)⟩, ⟨(some 2), none, .mv (.c (.v (.slice none 0 0)))⟩, ⟨(some 3), none, .mv (.t 67)⟩, ⟨(some 4), none, .mv (.t 68)⟩]) (.drop [5, 68]))
             .ret)
            .skip))
          (.seq (.seq (.reg [⟨(some 69), none, .load (some 5) (.t 7)⟩, ⟨(some 70), none, .call (.c (.fn 29 [])) [(.t 69)]⟩, ⟨(some 71), none, .mv (.t 70)⟩, ⟨(some 72), (some (71, true)), .mv (.t 5)⟩, ⟨(some 73), (some (71, true)), .mv (.t 6)⟩, ⟨(some 74), (some (71, true)), .bin .add (.t 73) (.c (.v (.int .i64 1)))⟩, ⟨(some 75), (some (71, true)), .load (some 2) (.t 8)⟩, ⟨(some 76), (some (71, true)), .call (.c (.fn 30 [])) [(.t 72), (.t 74), (.t 75)]⟩, ⟨(some 77), (some (71, true)), .un .not (.t 76)⟩, ⟨(some 78), none, .pick (.t 71) (.t 77) (.c (.v (.bool false)))⟩, ⟨(some 79), none, .mv (.t 78)⟩, ⟨(some 80), (some (79, false)), .load (some 5) (.t 7)⟩, ⟨(some 81), (some (79, false)), .call (.c (.fn 27 [])) [(.t 80)]⟩, ⟨(some 82), (some (79, false)), .mv (.t 81)⟩, ⟨(some 83), (some (82, true)), .mv (.t 5)⟩, ⟨(some 84), (some (82, true)), .fad 3 (.t 7)⟩, ⟨(some 85), (some (82, true)), .load none (.t 84)⟩, ⟨(some 86), (some (82, true)), .load (some 2) (.t 8)⟩, ⟨(some 87), (some (82, true)), .call (.c (.fn 30 [])) [(.t 83), (.t 85), (.t 86)]⟩, ⟨(some 88), (some (82, true)), .un .not (.t 87)⟩, ⟨(some 89), (some (79, false)), .pick (.t 82) (.t 88) (.c (.v (.bool false)))⟩, ⟨(some 90), none, .pick (.t 79) (.c (.v (.bool true))) (.t 89)⟩]) (.drop [25, 89]))
           (.cond (.t 90) (.seq (.seq (.reg [⟨(some 91), none, .mv (.t 6)⟩, ⟨(some 2), none, .mv (.c (.v (.slice none 0 0)))⟩, ⟨(some 3), none, .mv (.c (.v (.int .i64 7)))⟩, ⟨(some 4), none, .mv (.t 91)⟩]) (.drop [5, 91]))
             .ret)
            .skip)))))))))
   (.seq (.reg [⟨(some 92), none, .bin .add (.t 24) (.c (.v (.int .i64 1)))⟩, ⟨(some 24), none, .mv (.t 92)⟩]) (.drop [25, 92])))))
def b_verify_all : AC :=
 (.seq (.seq (.reg [⟨(some 2), none, .mv (.c (.v (.slice none 0 0)))⟩, ⟨(some 3), none, .mv (.c (.v (.int .i64 0)))⟩, ⟨(some 4), none, .mv (.c (.v (.int .i64 0)))⟩]) (.drop [1, 4]))
 (.seq (.seq (.seq (.reg [⟨(some 11), none, .mv (.t 0)⟩, ⟨(some 12), none, .len (.t 11)⟩, ⟨(some 13), none, .bin .gtr (.t 12) (.c (.v (.int .i64 200)))⟩]) (.drop [1, 12]))
   (.cond (.t 13) (.seq (.seq (.reg [⟨(some 2), none, .mv (.c (.v (.slice none 0 0)))⟩, ⟨(some 3), none, .mv (.c (.v (.int .i64 2)))⟩, ⟨(some 4), none, .mv (.c (.v (.int .i64 200)))⟩]) (.drop []))
     .ret)
    .skip))
  (.seq (.seq (.reg [⟨(some 14), none, .mv (.t 0)⟩, ⟨(some 15), none, .len (.t 14)⟩, ⟨(some 16), none, .bin .add (.t 15) (.c (.v (.int .i64 1)))⟩, ⟨(some 17), none, .mks 1 8 [(.v (.pointer none))] (.t 16) (.t 16)⟩, ⟨(some 5), none, .mv (.t 17)⟩]) (.drop [6, 17]))
   (.seq (.seq (.reg [⟨(some 18), none, .mv (.t 5)⟩, ⟨(some 19), none, .build [(.v (.int .i64 0)), (.v (.slice none 0 0))] []⟩, ⟨(some 20), none, .box (.t 19)⟩, ⟨(some 21), none, .ixs 1 (.t 18) (.c (.v (.int .i64 0)))⟩, ⟨none, none, .store 1 (.t 21) (.t 20)⟩]) (.drop [6, 21]))
    (.seq (.seq (.seq (.reg [⟨(some 22), none, .mv (.t 0)⟩, ⟨(some 23), none, .len (.t 22)⟩, ⟨(some 24), none, .mv (.c (.v (.int .i64 0)))⟩]) (.drop []))
      (.block 0 (.loop [0, 5, 22, 23, 24] l_verify_all_0)))
     l_verify_all_1)))))
def a_verify_all : AFn := ⟨1, b_verify_all, [.t 2, .t 3, .t 4], false, false⟩
theorem a_verify_all_ok : compF Try.prog Try.f14 [[1, 4], [1, 12], [], [6, 17], [6, 21], [], [0, 5, 22, 23, 24], [], [25, 28], [25, 30], [5, 32], [25, 36], [25, 51], [5, 53], [25, 64], [25, 65], [5, 68], [25, 89], [5, 91], [25, 92], [11, 97], [6, 106], [5, 109], [5, 110]] false false hv = some a_verify_all := by kernel_rfl

/-! fugleman/verify.Check: 7 -/
def b_verify_Check : AC :=
 (.seq (.seq (.reg [⟨(some 2), none, .mv (.c (.v (.int .i64 0)))⟩, ⟨(some 3), none, .mv (.c (.v (.int .i64 0)))⟩]) (.drop [1, 3]))
 (.seq (.seq (.reg [⟨(some 8), none, .mv (.t 0)⟩, ⟨(some 9), none, .call (.c (.fn 14 [])) [(.t 8)]⟩, ⟨(some 7), none, .mv (.t 9)⟩, ⟨(some 10), none, .ext 0 (.t 7)⟩, ⟨(some 11), none, .ext 1 (.t 7)⟩, ⟨(some 12), none, .ext 2 (.t 7)⟩, ⟨(some 4), none, .mv (.t 10)⟩, ⟨(some 5), none, .mv (.t 11)⟩, ⟨(some 6), none, .mv (.t 12)⟩]) (.drop [0, 4, 7, 12]))
  (.seq (.seq (.reg [⟨(some 13), none, .mv (.t 5)⟩, ⟨(some 14), none, .mv (.t 6)⟩, ⟨(some 2), none, .mv (.t 13)⟩, ⟨(some 3), none, .mv (.t 14)⟩]) (.drop [4, 14]))
   .ret)))
def a_verify_Check : AFn := ⟨1, b_verify_Check, [.t 2, .t 3], false, false⟩
theorem a_verify_Check_ok : compF Try.prog Try.f7 [[1, 3], [0, 4, 7, 12], [4, 14]] false false hv = some a_verify_Check := by kernel_rfl

/-! fugleman/verify.Kinds: 9 -/
def l_verify_Kinds_1 : AC :=
 (.seq (.seq (.reg [⟨(some 40), none, .mv (.t 7)⟩, ⟨(some 2), none, .mv (.t 40)⟩, ⟨(some 3), none, .mv (.c (.v (.bool true)))⟩]) (.drop [4, 40]))
 .ret)
def c_verify_Kinds_0 : AC :=
 (.seq (.reg [⟨(some 32), none, .mv (.t 7)⟩, ⟨(some 33), none, .mv (.t 9)⟩, ⟨(some 34), none, .nilck (.t 33)⟩, ⟨(some 35), none, .fad 0 (.t 34)⟩, ⟨(some 36), none, .load none (.t 35)⟩, ⟨(some 37), none, .row 1 1 [(.v (.int .i64 0))] [(0, 1, (.t 36))]⟩, ⟨(some 38), none, .app 1 8 (.t 32) (.t 37)⟩, ⟨(some 7), none, .mv (.t 38)⟩]) (.drop [24, 38]))
theorem g_verify_Kinds_0 {C : CT} {lf : Nat} {ks : List It} {s : St} : type_of% (@Sym.go_as C lf ks s _ _ c_verify_Kinds_0.eq_1) := Sym.go_as c_verify_Kinds_0.eq_1
def l_verify_Kinds_0 : AC :=
 (.seq (.seq (.reg [⟨(some 24), none, .bin .lss (.t 23) (.t 22)⟩]) (.drop []))
 (.seq (.cond (.t 24) .skip
   (.exit 0))
  (.seq (.block 1 (.seq (.seq (.reg [⟨(some 25), none, .ixs 1 (.t 21) (.t 23)⟩, ⟨(some 26), none, .load none (.t 25)⟩, ⟨(some 9), none, .mv (.t 26)⟩]) (.drop [24, 26]))
     (.seq (.seq (.reg [⟨(some 27), none, .mv (.t 9)⟩, ⟨(some 28), none, .eqp false (.t 27) (.c (.v (.pointer none)))⟩]) (.drop [24, 27]))
      (.cond (.t 28) (.seq (.reg [⟨(some 29), none, .mv (.t 7)⟩, ⟨(some 30), none, .row 1 1 [(.v (.int .i64 0))] [(0, 1, (.c (.v (.int .i64 (-1)))))]⟩, ⟨(some 31), none, .app 1 8 (.t 29) (.t 30)⟩, ⟨(some 7), none, .mv (.t 31)⟩]) (.drop [24, 31]))
       c_verify_Kinds_0))))
   (.seq (.reg [⟨(some 39), none, .bin .add (.t 23) (.c (.v (.int .i64 1)))⟩, ⟨(some 23), none, .mv (.t 39)⟩]) (.drop [24, 39])))))
def b_verify_Kinds : AC :=
 (.seq (.seq (.reg [⟨(some 2), none, .mv (.c (.v (.slice none 0 0)))⟩, ⟨(some 3), none, .mv (.c (.v (.bool false)))⟩]) (.drop [1, 3]))
 (.seq (.seq (.reg [⟨(some 11), none, .mv (.t 0)⟩, ⟨(some 12), none, .call (.c (.fn 14 [])) [(.t 11)]⟩, ⟨(some 10), none, .mv (.t 12)⟩, ⟨(some 13), none, .ext 0 (.t 10)⟩, ⟨(some 14), none, .ext 1 (.t 10)⟩, ⟨(some 15), none, .ext 2 (.t 10)⟩, ⟨(some 4), none, .mv (.t 13)⟩, ⟨(some 5), none, .mv (.t 14)⟩, ⟨(some 6), none, .mv (.t 15)⟩]) (.drop [6, 15]))
  (.seq (.seq (.seq (.reg [⟨(some 16), none, .mv (.t 5)⟩, ⟨(some 17), none, .bin .neq (.t 16) (.c (.v (.int .i64 0)))⟩]) (.drop [5, 16]))
    (.cond (.t 17) (.seq (.seq (.reg [⟨(some 2), none, .mv (.c (.v (.slice none 0 0)))⟩, ⟨(some 3), none, .mv (.c (.v (.bool false)))⟩]) (.drop []))
      .ret)
     .skip))
   (.seq (.seq (.reg [⟨(some 7), none, .mv (.c (.v (.slice none 0 0)))⟩]) (.drop []))
    (.seq (.seq (.seq (.reg [⟨(some 18), none, .mv (.t 4)⟩, ⟨(some 19), none, .mv (.t 0)⟩, ⟨(some 20), none, .len (.t 19)⟩, ⟨(some 21), none, .sls 1 (.t 18) none (some (.t 20)) none⟩, ⟨(some 22), none, .len (.t 21)⟩, ⟨(some 23), none, .mv (.c (.v (.int .i64 0)))⟩]) (.drop [8, 20]))
      (.block 0 (.loop [7, 21, 22, 23] l_verify_Kinds_0)))
     l_verify_Kinds_1)))))
def a_verify_Kinds : AFn := ⟨1, b_verify_Kinds, [.t 2, .t 3], false, false⟩
theorem a_verify_Kinds_ok : compF Try.prog Try.f9 [[1, 3], [6, 15], [5, 16], [], [], [8, 20], [7, 21, 22, 23], [], [24, 26], [24, 27], [24, 31], [24, 38], [24, 39], [4, 40]] false false hv = some a_verify_Kinds := by kernel_rfl

/-! fugleman/verify.bytes: 22 -/
def l_verify_bytes_1 : AC :=
 (.seq (.seq (.reg [⟨(some 68), none, .load (some 4) (.t 5)⟩, ⟨none, none, .store 4 (.t 4) (.t 68)⟩]) (.drop [5, 68]))
 .ret)
def c_verify_bytes_0 : AC :=
 (.seq (.seq (.reg [⟨(some 53), none, .bin .eql (.t 48) (.c (.v (.int .i64 36)))⟩, ⟨(some 52), none, .mv (.t 53)⟩]) (.drop [53, 53]))
             (.cond (.t 52) (.seq (.reg [⟨(some 11), none, .mv (.c (.v (.int .i64 1)))⟩]) (.drop []))
              .skip))
theorem g_verify_bytes_0 {C : CT} {lf : Nat} {ks : List It} {s : St} : type_of% (@Sym.go_as C lf ks s _ _ c_verify_bytes_0.eq_1) := Sym.go_as c_verify_bytes_0.eq_1
def l_verify_bytes_0 : AC :=
 (.seq (.seq (.reg [⟨(some 24), none, .bin .lss (.t 23) (.t 22)⟩]) (.drop []))
 (.seq (.cond (.t 24) .skip
   (.exit 0))
  (.seq (.block 1 (.seq (.seq (.reg [⟨(some 25), none, .mv (.t 23)⟩, ⟨(some 26), none, .ixs 5 (.t 21) (.t 23)⟩, ⟨(some 27), none, .load (some 5) (.t 26)⟩, ⟨(some 10), none, .alloc [(.v (.int .i64 0)), (.v (.int .i64 0)), (.v (.int .i64 0)), (.v (.int .i64 0)), (.v (.int .i64 0))]⟩, ⟨(some 9), none, .mv (.t 25)⟩, ⟨none, none, .store 5 (.t 10) (.t 27)⟩]) (.drop [24, 27]))
     (.seq (.seq (.seq (.reg [⟨(some 28), none, .mv (.t 6)⟩, ⟨(some 29), none, .mv (.t 9)⟩, ⟨(some 30), none, .ixs 1 (.t 28) (.t 29)⟩, ⟨(some 31), none, .load none (.t 30)⟩, ⟨(some 32), none, .eqp false (.t 31) (.c (.v (.pointer none)))⟩, ⟨(some 33), none, .mv (.t 32)⟩, ⟨(some 34), (some (33, false)), .fad 2 (.t 10)⟩, ⟨(some 35), (some (33, false)), .load none (.t 34)⟩, ⟨(some 36), (some (33, false)), .bin .eql (.t 35) (.c (.v (.int .i64 0)))⟩, ⟨(some 37), none, .pick (.t 33) (.c (.v (.bool true))) (.t 36)⟩, ⟨(some 38), none, .mv (.t 37)⟩, ⟨(some 39), (some (38, false)), .mv (.t 1)⟩, ⟨(some 40), (some (38, false)), .load (some 5) (.t 10)⟩, ⟨(some 41), (some (38, false)), .call (.t 39) [(.t 40)]⟩, ⟨(some 42), (some (38, false)), .un .not (.t 41)⟩, ⟨(some 43), none, .pick (.t 38) (.c (.v (.bool true))) (.t 42)⟩]) (.drop [24, 42]))
       (.cond (.t 43) (.exit 1)
        .skip))
      (.seq (.seq (.reg [⟨(some 44), none, .fad 1 (.t 10)⟩, ⟨(some 45), none, .load none (.t 44)⟩, ⟨(some 46), none, .call (.c (.fn 35 [])) [(.t 45)]⟩, ⟨(some 11), none, .mv (.t 46)⟩]) (.drop [24, 46]))
       (.seq (.seq (.seq (.reg [⟨(some 47), none, .fad 0 (.t 10)⟩, ⟨(some 48), none, .load none (.t 47)⟩]) (.drop [24, 47]))
         (.block 2 (.seq (.seq (.seq (.reg [⟨(some 50), none, .bin .eql (.t 48) (.c (.v (.int .i64 34)))⟩, ⟨(some 49), none, .mv (.t 50)⟩]) (.drop [50, 50]))
            (.cond (.t 49) .skip
             (.seq (.reg [⟨(some 51), none, .bin .eql (.t 48) (.c (.v (.int .i64 35)))⟩, ⟨(some 49), none, .mv (.t 51)⟩]) (.drop [50, 51]))))
           (.cond (.t 49) (.seq (.reg [⟨(some 11), none, .mv (.c (.v (.int .i64 5)))⟩]) (.drop []))
            c_verify_bytes_0))))
        (.seq (.regm [(.o, ⟨(some 54), none, .fad 2 (.t 10)⟩), (.o, ⟨(some 55), none, .load none (.t 54)⟩), (.o, ⟨(some 56), none, .bin .sub (.t 55) (.c (.v (.int .i64 1)))⟩), (.o, ⟨(some 57), none, .ixa 4 1 (.t 5) (.t 56)⟩), (.o, ⟨(some 58), none, .load none (.t 57)⟩), (.o, ⟨(some 59), none, .mv (.t 11)⟩), (.o, ⟨(some 60), none, .bin .shl (.c (.v (.int .u64 1))) (.t 59)⟩), (.o, ⟨(some 61), none, .bin .sub (.t 60) (.c (.v (.int .u64 1)))⟩), (.o, ⟨(some 62), none, .fad 3 (.t 10)⟩), (.o, ⟨(some 63), none, .load none (.t 62)⟩), (.o, ⟨(some 64), none, .bin .shl (.t 61) (.t 63)⟩), (.o, ⟨(some 65), none, .bin .or (.t 58) (.t 64)⟩), (.o, ⟨(some 66), none, .ixa 4 1 (.t 5) (.t 56)⟩), (.o, ⟨none, none, .store 1 (.t 66) (.t 65)⟩)]) (.drop [24, 66])))))))
   (.seq (.reg [⟨(some 67), none, .bin .add (.t 23) (.c (.v (.int .i64 1)))⟩, ⟨(some 23), none, .mv (.t 67)⟩]) (.drop [24, 67])))))
def b_verify_bytes : AC :=
 (.seq (.seq (.reg [⟨(some 4), none, .alloc [(.v (.int .u64 0)), (.v (.int .u64 0)), (.v (.int .u64 0)), (.v (.int .u64 0))]⟩]) (.drop []))
 (.seq (.seq (.reg [⟨(some 5), none, .alloc [(.v (.int .u64 0)), (.v (.int .u64 0)), (.v (.int .u64 0)), (.v (.int .u64 0))]⟩]) (.drop []))
  (.seq (.seq (.reg [⟨(some 13), none, .mv (.t 0)⟩, ⟨(some 14), none, .call (.c (.fn 14 [])) [(.t 13)]⟩, ⟨(some 12), none, .mv (.t 14)⟩, ⟨(some 15), none, .ext 0 (.t 12)⟩, ⟨(some 16), none, .ext 1 (.t 12)⟩, ⟨(some 17), none, .ext 2 (.t 12)⟩, ⟨(some 6), none, .mv (.t 15)⟩, ⟨(some 7), none, .mv (.t 16)⟩, ⟨(some 8), none, .mv (.t 17)⟩]) (.drop [8, 17]))
   (.seq (.seq (.seq (.reg [⟨(some 18), none, .mv (.t 7)⟩, ⟨(some 19), none, .bin .neq (.t 18) (.c (.v (.int .i64 0)))⟩]) (.drop [7, 18]))
     (.cond (.t 19) (.seq (.seq (.reg [⟨(some 20), none, .load (some 4) (.t 5)⟩, ⟨none, none, .store 4 (.t 4) (.t 20)⟩]) (.drop [5, 20]))
       .ret)
      .skip))
    (.seq (.seq (.seq (.reg [⟨(some 21), none, .mv (.t 0)⟩, ⟨(some 22), none, .len (.t 21)⟩, ⟨(some 23), none, .mv (.c (.v (.int .i64 0)))⟩]) (.drop []))
      (.block 0 (.loop [1, 4, 5, 6, 21, 22, 23] l_verify_bytes_0)))
     l_verify_bytes_1)))))
def a_verify_bytes : AFn := ⟨2, b_verify_bytes, [.cell 4 (some 4)], false, false⟩
theorem a_verify_bytes_ok : compF Try.prog Try.f22 [[], [], [8, 17], [7, 18], [5, 20], [], [1, 4, 5, 6, 21, 22, 23], [], [24, 27], [24, 42], [24, 46], [24, 47], [50, 50], [50, 51], [], [53, 53], [], [24, 66], [24, 67], [5, 68]] false false hv = some a_verify_bytes := by kernel_rfl

/-! fugleman/verify.Writes: 11 -/
def b_verify_Writes : AC :=
 (.seq (.seq (.reg [⟨(some 2), none, .alloc [(.v (.int .u64 0)), (.v (.int .u64 0)), (.v (.int .u64 0)), (.v (.int .u64 0))]⟩]) (.drop []))
 (.seq (.seq (.reg [⟨(some 3), none, .mv (.t 0)⟩, ⟨(some 4), none, .call (.c (.fn 22 [])) [(.t 3), (.c (.fn 23 []))]⟩, ⟨none, none, .store 4 (.t 2) (.t 4)⟩]) (.drop [3, 4]))
  .ret))
def a_verify_Writes : AFn := ⟨1, b_verify_Writes, [.cell 2 (some 4)], false, false⟩
theorem a_verify_Writes_ok : compF Try.prog Try.f11 [[], [3, 4]] false false hv = some a_verify_Writes := by kernel_rfl

/-! fugleman/fuglemanlaw14.awake: 6 -/
def b_fuglemanlaw14_awake : AC :=
 (.seq (.seq (.reg [⟨(some 0), none, .mv (.c (.v (.bool false)))⟩]) (.drop [0, 0]))
 (.seq (.seq (.reg [⟨(some 7), none, .build [(.v (.int .i64 0)), (.v (.int .i64 0)), (.v (.int .i64 0)), (.v (.int .i64 0)), (.v (.int .i64 0))] [(0, 1, (.c (.v (.int .i64 1)))), (1, 1, (.c (.v (.int .i64 1))))]⟩, ⟨(some 8), none, .build [(.v (.int .i64 0)), (.v (.int .i64 0)), (.v (.int .i64 0)), (.v (.int .i64 0)), (.v (.int .i64 0))] [(0, 1, (.c (.v (.int .i64 14)))), (1, 1, (.c (.v (.int .i64 3)))), (4, 1, (.c (.v (.int .i64 1))))]⟩, ⟨(some 9), none, .row 5 2 [(.v (.int .i64 0)), (.v (.int .i64 0)), (.v (.int .i64 0)), (.v (.int .i64 0)), (.v (.int .i64 0))] [(0, 5, (.t 7)), (5, 5, (.t 8))]⟩, ⟨(some 10), none, .call (.c (.fn 7 [])) [(.t 9)]⟩, ⟨(some 6), none, .mv (.t 10)⟩, ⟨(some 11), none, .ext 0 (.t 6)⟩, ⟨(some 12), none, .ext 1 (.t 6)⟩, ⟨(some 1), none, .mv (.t 11)⟩, ⟨(some 2), none, .mv (.t 12)⟩]) (.drop [3, 12]))
  (.seq (.seq (.reg [⟨(some 14), none, .build [(.v (.int .i64 0)), (.v (.int .i64 0)), (.v (.int .i64 0)), (.v (.int .i64 0)), (.v (.int .i64 0))] [(0, 1, (.c (.v (.int .i64 1)))), (1, 1, (.c (.v (.int .i64 1))))]⟩, ⟨(some 15), none, .build [(.v (.int .i64 0)), (.v (.int .i64 0)), (.v (.int .i64 0)), (.v (.int .i64 0)), (.v (.int .i64 0))] [(0, 1, (.c (.v (.int .i64 3)))), (1, 1, (.c (.v (.int .i64 1)))), (2, 1, (.c (.v (.int .i64 2)))), (3, 1, (.c (.v (.int .i64 3))))]⟩, ⟨(some 16), none, .row 5 2 [(.v (.int .i64 0)), (.v (.int .i64 0)), (.v (.int .i64 0)), (.v (.int .i64 0)), (.v (.int .i64 0))] [(0, 5, (.t 14)), (5, 5, (.t 15))]⟩, ⟨(some 17), none, .call (.c (.fn 9 [])) [(.t 16)]⟩, ⟨(some 13), none, .mv (.t 17)⟩, ⟨(some 18), none, .ext 0 (.t 13)⟩, ⟨(some 19), none, .ext 1 (.t 13)⟩, ⟨(some 3), none, .mv (.t 18)⟩, ⟨(some 4), none, .mv (.t 19)⟩]) (.drop [5, 19]))
   (.seq (.seq (.reg [⟨(some 20), none, .build [(.v (.int .i64 0)), (.v (.int .i64 0)), (.v (.int .i64 0)), (.v (.int .i64 0)), (.v (.int .i64 0))] [(0, 1, (.c (.v (.int .i64 1)))), (1, 1, (.c (.v (.int .i64 1))))]⟩, ⟨(some 21), none, .build [(.v (.int .i64 0)), (.v (.int .i64 0)), (.v (.int .i64 0)), (.v (.int .i64 0)), (.v (.int .i64 0))] [(0, 1, (.c (.v (.int .i64 3)))), (1, 1, (.c (.v (.int .i64 1)))), (2, 1, (.c (.v (.int .i64 2)))), (3, 1, (.c (.v (.int .i64 3))))]⟩, ⟨(some 22), none, .row 5 2 [(.v (.int .i64 0)), (.v (.int .i64 0)), (.v (.int .i64 0)), (.v (.int .i64 0)), (.v (.int .i64 0))] [(0, 5, (.t 20)), (5, 5, (.t 21))]⟩, ⟨(some 23), none, .call (.c (.fn 11 [])) [(.t 22)]⟩, ⟨(some 5), none, .alloc [(.v (.int .u64 0)), (.v (.int .u64 0)), (.v (.int .u64 0)), (.v (.int .u64 0))]⟩, ⟨none, none, .store 4 (.t 5) (.t 23)⟩]) (.drop [6, 23]))
    (.seq (.seq (.reg [⟨(some 24), none, .mv (.t 1)⟩, ⟨(some 25), none, .bin .eql (.t 24) (.c (.v (.int .i64 6)))⟩, ⟨(some 26), none, .mv (.t 25)⟩, ⟨(some 27), (some (26, true)), .mv (.t 2)⟩, ⟨(some 28), (some (26, true)), .bin .eql (.t 27) (.c (.v (.int .i64 1)))⟩, ⟨(some 29), none, .pick (.t 26) (.t 28) (.c (.v (.bool false)))⟩, ⟨(some 30), none, .mv (.t 29)⟩, ⟨(some 31), (some (30, true)), .mv (.t 4)⟩, ⟨(some 32), none, .pick (.t 30) (.t 31) (.c (.v (.bool false)))⟩, ⟨(some 33), none, .mv (.t 32)⟩, ⟨(some 34), (some (33, true)), .mv (.t 3)⟩, ⟨(some 35), (some (33, true)), .len (.t 34)⟩, ⟨(some 36), (some (33, true)), .bin .eql (.t 35) (.c (.v (.int .i64 2)))⟩, ⟨(some 37), none, .pick (.t 33) (.t 36) (.c (.v (.bool false)))⟩, ⟨(some 38), none, .mv (.t 37)⟩, ⟨(some 39), (some (38, true)), .mv (.t 3)⟩, ⟨(some 40), (some (38, true)), .ixs 1 (.t 39) (.c (.v (.int .i64 1)))⟩, ⟨(some 41), (some (38, true)), .load none (.t 40)⟩, ⟨(some 42), (some (38, true)), .bin .eql (.t 41) (.c (.v (.int .i64 1)))⟩, ⟨(some 43), none, .pick (.t 38) (.t 42) (.c (.v (.bool false)))⟩, ⟨(some 44), none, .mv (.t 43)⟩, ⟨(some 45), (some (44, true)), .load (some 4) (.t 5)⟩, ⟨(some 46), (some (44, true)), .build [(.v (.int .u64 0)), (.v (.int .u64 0)), (.v (.int .u64 0)), (.v (.int .u64 0))] [(0, 1, (.c (.v (.int .u64 0)))), (1, 1, (.c (.v (.int .u64 8)))), (2, 1, (.c (.v (.int .u64 0)))), (3, 1, (.c (.v (.int .u64 0))))]⟩, ⟨(some 47), (some (44, true)), .eqst false [(0, .i), (1, .i), (2, .i), (3, .i)] (.t 45) (.t 46)⟩, ⟨(some 48), none, .pick (.t 44) (.t 47) (.c (.v (.bool false)))⟩, ⟨(some 0), none, .mv (.t 48)⟩]) (.drop [1, 48]))
     .ret)))))
def a_fuglemanlaw14_awake : AFn := ⟨0, b_fuglemanlaw14_awake, [.t 0], false, false⟩
theorem a_fuglemanlaw14_awake_ok : compF Try.prog Try.f6 [[0, 0], [3, 12], [5, 19], [6, 23], [1, 48]] false false hv = some a_fuglemanlaw14_awake := by kernel_rfl

/-! fugleman/fuglemanref12.reads: 17 -/
def b_fuglemanref12_reads : AC :=
 (.seq (.seq (.reg [⟨(some 2), none, .mv (.c (.v (.bool false)))⟩]) (.drop [1, 2]))
 (.seq (.seq (.reg [⟨(some 3), none, .mv (.t 0)⟩, ⟨(some 4), none, .bin .eql (.t 3) (.c (.v (.int .i64 1)))⟩, ⟨(some 5), none, .mv (.t 4)⟩, ⟨(some 6), (some (5, false)), .mv (.t 0)⟩, ⟨(some 7), (some (5, false)), .bin .eql (.t 6) (.c (.v (.int .i64 2)))⟩, ⟨(some 8), none, .pick (.t 5) (.c (.v (.bool true))) (.t 7)⟩, ⟨(some 9), none, .mv (.t 8)⟩, ⟨(some 10), (some (9, false)), .mv (.t 0)⟩, ⟨(some 11), (some (9, false)), .bin .geq (.t 10) (.c (.v (.int .i64 7)))⟩, ⟨(some 12), (some (9, false)), .mv (.t 11)⟩, ⟨(some 13), (some (12, true)), .mv (.t 0)⟩, ⟨(some 14), (some (12, true)), .bin .leq (.t 13) (.c (.v (.int .i64 12)))⟩, ⟨(some 15), (some (9, false)), .pick (.t 12) (.t 14) (.c (.v (.bool false)))⟩, ⟨(some 16), none, .pick (.t 9) (.c (.v (.bool true))) (.t 15)⟩, ⟨(some 17), none, .mv (.t 16)⟩, ⟨(some 18), (some (17, false)), .mv (.t 0)⟩, ⟨(some 19), (some (17, false)), .bin .geq (.t 18) (.c (.v (.int .i64 14)))⟩, ⟨(some 20), (some (17, false)), .mv (.t 19)⟩, ⟨(some 21), (some (20, true)), .mv (.t 0)⟩, ⟨(some 22), (some (20, true)), .bin .leq (.t 21) (.c (.v (.int .i64 24)))⟩, ⟨(some 23), (some (17, false)), .pick (.t 20) (.t 22) (.c (.v (.bool false)))⟩, ⟨(some 24), none, .pick (.t 17) (.c (.v (.bool true))) (.t 23)⟩, ⟨(some 2), none, .mv (.t 24)⟩]) (.drop [3, 24]))
  .ret))
def a_fuglemanref12_reads : AFn := ⟨1, b_fuglemanref12_reads, [.t 2], false, false⟩
theorem a_fuglemanref12_reads_ok : compF Try.prog Try.f17 [[1, 2], [3, 24]] false false hv = some a_fuglemanref12_reads := by kernel_rfl

/-! fugleman/fuglemanref11.Size: 21 -/
def b_fuglemanref11_Size : AC :=
 (.seq (.seq (.reg [⟨(some 2), none, .mv (.c (.v (.int .i64 0)))⟩]) (.drop [1, 2]))
 (.seq (.seq (.reg [⟨(some 4), none, .row 1 8 [(.v (.int .i64 0))] [(0, 1, (.c (.v (.int .i64 0)))), (1, 1, (.c (.v (.int .i64 1)))), (2, 1, (.c (.v (.int .i64 1)))), (3, 1, (.c (.v (.int .i64 2)))), (4, 1, (.c (.v (.int .i64 4)))), (5, 1, (.c (.v (.int .i64 2)))), (6, 1, (.c (.v (.int .i64 2)))), (7, 1, (.c (.v (.int .i64 4))))]⟩, ⟨(some 3), none, .mv (.t 4)⟩]) (.drop [4, 4]))
  (.seq (.seq (.seq (.reg [⟨(some 5), none, .mv (.t 0)⟩, ⟨(some 6), none, .bin .lss (.t 5) (.c (.v (.int .i64 0)))⟩, ⟨(some 7), none, .mv (.t 6)⟩, ⟨(some 8), (some (7, false)), .mv (.t 0)⟩, ⟨(some 9), (some (7, false)), .bin .gtr (.t 8) (.c (.v (.int .i64 7)))⟩, ⟨(some 10), none, .pick (.t 7) (.c (.v (.bool true))) (.t 9)⟩]) (.drop [4, 9]))
    (.cond (.t 10) (.seq (.seq (.reg [⟨(some 2), none, .mv (.c (.v (.int .i64 0)))⟩]) (.drop []))
      .ret)
     .skip))
   (.seq (.seq (.reg [⟨(some 11), none, .mv (.t 3)⟩, ⟨(some 12), none, .mv (.t 0)⟩, ⟨(some 13), none, .ixs 1 (.t 11) (.t 12)⟩, ⟨(some 14), none, .load none (.t 13)⟩, ⟨(some 2), none, .mv (.t 14)⟩]) (.drop [3, 14]))
    .ret))))
def a_fuglemanref11_Size : AFn := ⟨1, b_fuglemanref11_Size, [.t 2], false, false⟩
theorem a_fuglemanref11_Size_ok : compF Try.prog Try.f21 [[1, 2], [4, 4], [4, 9], [], [3, 14]] false false hv = some a_fuglemanref11_Size := by kernel_rfl

/-! fugleman/fuglemanref11.many: 34 -/
def l_fuglemanref11_many_1 : AC :=
 (.seq (.seq (.reg [⟨(some 15), none, .mv (.t 3)⟩, ⟨(some 2), none, .mv (.t 15)⟩]) (.drop [3, 15]))
 .ret)
def l_fuglemanref11_many_0 : AC :=
 (.seq (.seq (.seq (.reg [⟨(some 7), none, .mv (.t 4)⟩, ⟨(some 8), none, .mv (.t 0)⟩, ⟨(some 9), none, .call (.c (.fn 21 [])) [(.t 8)]⟩, ⟨(some 10), none, .bin .lss (.t 7) (.t 9)⟩]) (.drop [5, 9]))
  (.cond (.t 10) .skip
   (.exit 0)))
 (.seq (.block 1 (.seq (.reg [⟨(some 13), none, .mv (.t 3)⟩, ⟨(some 14), none, .bin .mul (.t 13) (.c (.v (.int .i64 256)))⟩, ⟨(some 3), none, .mv (.t 14)⟩]) (.drop [5, 14])))
  (.seq (.reg [⟨(some 11), none, .mv (.t 4)⟩, ⟨(some 12), none, .bin .add (.t 11) (.c (.v (.int .i64 1)))⟩, ⟨(some 4), none, .mv (.t 12)⟩]) (.drop [5, 12]))))
def b_fuglemanref11_many : AC :=
 (.seq (.seq (.reg [⟨(some 2), none, .mv (.c (.v (.int .i64 0)))⟩]) (.drop [1, 2]))
 (.seq (.seq (.seq (.reg [⟨(some 5), none, .mv (.t 0)⟩, ⟨(some 6), none, .bin .eql (.t 5) (.c (.v (.int .i64 1)))⟩]) (.drop [1, 5]))
   (.cond (.t 6) (.seq (.seq (.reg [⟨(some 2), none, .mv (.c (.v (.int .i64 2)))⟩]) (.drop []))
     .ret)
    .skip))
  (.seq (.seq (.reg [⟨(some 3), none, .mv (.c (.v (.int .i64 1)))⟩]) (.drop []))
   (.seq (.seq (.seq (.reg [⟨(some 4), none, .mv (.c (.v (.int .i64 0)))⟩]) (.drop []))
     (.block 0 (.loop [0, 3, 4] l_fuglemanref11_many_0)))
    l_fuglemanref11_many_1))))
def a_fuglemanref11_many : AFn := ⟨1, b_fuglemanref11_many, [.t 2], false, false⟩
theorem a_fuglemanref11_many_ok : compF Try.prog Try.f34 [[1, 2], [1, 5], [], [], [], [0, 3, 4], [5, 9], [5, 14], [5, 12], [3, 15]] false false hv = some a_fuglemanref11_many := by kernel_rfl

/-! fugleman/fuglemanref11.least: 33 -/
def c_fuglemanref11_least_0 : AC :=
 (.seq (.seq (.reg [⟨(some 9), none, .mv (.t 0)⟩, ⟨(some 10), none, .call (.c (.fn 34 [])) [(.t 9)]⟩, ⟨(some 11), none, .un .neg (.t 10)⟩, ⟨(some 12), none, .bin .quo (.t 11) (.c (.v (.int .i64 2)))⟩, ⟨(some 2), none, .mv (.t 12)⟩]) (.drop [3, 12]))
     .ret)
theorem g_fuglemanref11_least_0 {C : CT} {lf : Nat} {ks : List It} {s : St} : type_of% (@Sym.go_as C lf ks s _ _ c_fuglemanref11_least_0.eq_1) := Sym.go_as c_fuglemanref11_least_0.eq_1
def b_fuglemanref11_least : AC :=
 (.seq (.seq (.reg [⟨(some 2), none, .mv (.c (.v (.int .i64 0)))⟩]) (.drop [1, 2]))
 (.seq (.seq (.seq (.reg [⟨(some 3), none, .mv (.t 0)⟩, ⟨(some 4), none, .bin .geq (.t 3) (.c (.v (.int .i64 2)))⟩, ⟨(some 5), none, .mv (.t 4)⟩, ⟨(some 6), (some (5, true)), .mv (.t 0)⟩, ⟨(some 7), (some (5, true)), .bin .leq (.t 6) (.c (.v (.int .i64 4)))⟩, ⟨(some 8), none, .pick (.t 5) (.t 7) (.c (.v (.bool false)))⟩]) (.drop [1, 7]))
   (.cond (.t 8) c_fuglemanref11_least_0
    .skip))
  (.seq (.seq (.reg [⟨(some 2), none, .mv (.c (.v (.int .i64 0)))⟩]) (.drop []))
   .ret)))
def a_fuglemanref11_least : AFn := ⟨1, b_fuglemanref11_least, [.t 2], false, false⟩
theorem a_fuglemanref11_least_ok : compF Try.prog Try.f33 [[1, 2], [1, 7], [3, 12], []] false false hv = some a_fuglemanref11_least := by kernel_rfl

/-! fugleman/fuglemanref11.Is: 18 -/
def b_fuglemanref11_Is : AC :=
 (.seq (.seq (.reg [⟨(some 4), none, .mv (.c (.v (.bool false)))⟩]) (.drop [2, 4]))
 (.seq (.seq (.reg [⟨(some 5), none, .mv (.t 0)⟩, ⟨(some 6), none, .call (.c (.fn 21 [])) [(.t 5)]⟩, ⟨(some 7), none, .bin .gtr (.t 6) (.c (.v (.int .i64 0)))⟩, ⟨(some 8), none, .mv (.t 7)⟩, ⟨(some 9), (some (8, true)), .mv (.t 1)⟩, ⟨(some 10), (some (8, true)), .mv (.t 0)⟩, ⟨(some 11), (some (8, true)), .call (.c (.fn 33 [])) [(.t 10)]⟩, ⟨(some 12), (some (8, true)), .bin .geq (.t 9) (.t 11)⟩, ⟨(some 13), none, .pick (.t 8) (.t 12) (.c (.v (.bool false)))⟩, ⟨(some 14), none, .mv (.t 13)⟩, ⟨(some 15), (some (14, true)), .mv (.t 1)⟩, ⟨(some 16), (some (14, true)), .mv (.t 0)⟩, ⟨(some 17), (some (14, true)), .call (.c (.fn 33 [])) [(.t 16)]⟩, ⟨(some 18), (some (14, true)), .mv (.t 0)⟩, ⟨(some 19), (some (14, true)), .call (.c (.fn 34 [])) [(.t 18)]⟩, ⟨(some 20), (some (14, true)), .bin .add (.t 17) (.t 19)⟩, ⟨(some 21), (some (14, true)), .bin .sub (.t 20) (.c (.v (.int .i64 1)))⟩, ⟨(some 22), (some (14, true)), .bin .leq (.t 15) (.t 21)⟩, ⟨(some 23), none, .pick (.t 14) (.t 22) (.c (.v (.bool false)))⟩, ⟨(some 4), none, .mv (.t 23)⟩]) (.drop [5, 23]))
  .ret))
def a_fuglemanref11_Is : AFn := ⟨2, b_fuglemanref11_Is, [.t 4], false, false⟩
theorem a_fuglemanref11_Is_ok : compF Try.prog Try.f18 [[2, 4], [5, 23]] false false hv = some a_fuglemanref11_Is := by kernel_rfl

/-! fugleman/fuglemanref12.writes: 19 -/
def b_fuglemanref12_writes : AC :=
 (.seq (.seq (.reg [⟨(some 2), none, .mv (.c (.v (.bool false)))⟩]) (.drop [1, 2]))
 (.seq (.seq (.reg [⟨(some 3), none, .mv (.t 0)⟩, ⟨(some 4), none, .bin .geq (.t 3) (.c (.v (.int .i64 3)))⟩, ⟨(some 5), none, .mv (.t 4)⟩, ⟨(some 6), (some (5, true)), .mv (.t 0)⟩, ⟨(some 7), (some (5, true)), .bin .leq (.t 6) (.c (.v (.int .i64 6)))⟩, ⟨(some 8), none, .pick (.t 5) (.t 7) (.c (.v (.bool false)))⟩, ⟨(some 2), none, .mv (.t 8)⟩]) (.drop [3, 8]))
  .ret))
def a_fuglemanref12_writes : AFn := ⟨1, b_fuglemanref12_writes, [.t 2], false, false⟩
theorem a_fuglemanref12_writes_ok : compF Try.prog Try.f19 [[1, 2], [3, 8]] false false hv = some a_fuglemanref12_writes := by kernel_rfl

/-! fugleman/fuglemanref11.There: 20 -/
def b_fuglemanref11_There : AC :=
 (.seq (.seq (.reg [⟨(some 6), none, .mv (.c (.v (.bool false)))⟩]) (.drop [3, 6]))
 (.seq (.seq (.reg [⟨(some 8), none, .mv (.t 2)⟩, ⟨(some 9), none, .call (.c (.fn 21 [])) [(.t 8)]⟩, ⟨(some 7), none, .mv (.t 9)⟩]) (.drop [8, 9]))
  (.seq (.seq (.reg [⟨(some 10), none, .mv (.t 7)⟩, ⟨(some 11), none, .bin .gtr (.t 10) (.c (.v (.int .i64 0)))⟩, ⟨(some 12), none, .mv (.t 11)⟩, ⟨(some 13), (some (12, true)), .mv (.t 1)⟩, ⟨(some 14), (some (12, true)), .bin .geq (.t 13) (.c (.v (.int .i64 0)))⟩, ⟨(some 15), none, .pick (.t 12) (.t 14) (.c (.v (.bool false)))⟩, ⟨(some 16), none, .mv (.t 15)⟩, ⟨(some 17), (some (16, true)), .mv (.t 1)⟩, ⟨(some 18), (some (16, true)), .mv (.t 0)⟩, ⟨(some 19), (some (16, true)), .bin .leq (.t 17) (.t 18)⟩, ⟨(some 20), none, .pick (.t 16) (.t 19) (.c (.v (.bool false)))⟩, ⟨(some 21), none, .mv (.t 20)⟩, ⟨(some 22), (some (21, true)), .mv (.t 7)⟩, ⟨(some 23), (some (21, true)), .mv (.t 0)⟩, ⟨(some 24), (some (21, true)), .mv (.t 1)⟩, ⟨(some 25), (some (21, true)), .bin .sub (.t 23) (.t 24)⟩, ⟨(some 26), (some (21, true)), .bin .leq (.t 22) (.t 25)⟩, ⟨(some 27), none, .pick (.t 21) (.t 26) (.c (.v (.bool false)))⟩, ⟨(some 6), none, .mv (.t 27)⟩]) (.drop [7, 27]))
   .ret)))
def a_fuglemanref11_There : AFn := ⟨3, b_fuglemanref11_There, [.t 6], false, false⟩
theorem a_fuglemanref11_There_ok : compF Try.prog Try.f20 [[3, 6], [8, 9], [7, 27]] false false hv = some a_fuglemanref11_There := by kernel_rfl

/-! fugleman/fuglemanref12.Right: 10 -/
def c_fuglemanref12_Right_0 : AC :=
 (.seq (.seq (.reg [⟨(some 17), none, .fad 1 (.t 1)⟩, ⟨(some 18), none, .load none (.t 17)⟩, ⟨(some 19), none, .fad 1 (.t 3)⟩, ⟨none, none, .store 1 (.t 19) (.t 18)⟩]) (.drop [4, 19]))
        (.seq (.seq (.reg [⟨(some 20), none, .fad 4 (.t 1)⟩, ⟨(some 21), none, .load none (.t 20)⟩, ⟨(some 22), none, .fad 4 (.t 3)⟩, ⟨none, none, .store 1 (.t 22) (.t 21)⟩]) (.drop [4, 22]))
         (.seq (.reg [⟨(some 23), none, .fad 1 (.t 1)⟩, ⟨(some 24), none, .load none (.t 23)⟩, ⟨(some 25), none, .fad 4 (.t 1)⟩, ⟨(some 26), none, .load none (.t 25)⟩, ⟨(some 27), none, .call (.c (.fn 18 [])) [(.t 24), (.t 26)]⟩, ⟨(some 4), none, .mv (.t 27)⟩]) (.drop [5, 27]))))
theorem g_fuglemanref12_Right_0 {C : CT} {lf : Nat} {ks : List It} {s : St} : type_of% (@Sym.go_as C lf ks s _ _ c_fuglemanref12_Right_0.eq_1) := Sym.go_as c_fuglemanref12_Right_0.eq_1
def c_fuglemanref12_Right_1 : AC :=
 (.seq (.seq (.reg [⟨(some 37), none, .fad 1 (.t 1)⟩, ⟨(some 38), none, .load none (.t 37)⟩, ⟨(some 39), none, .fad 1 (.t 3)⟩, ⟨none, none, .store 1 (.t 39) (.t 38)⟩]) (.drop [4, 39]))
          (.seq (.seq (.reg [⟨(some 40), none, .fad 2 (.t 1)⟩, ⟨(some 41), none, .load none (.t 40)⟩, ⟨(some 42), none, .fad 2 (.t 3)⟩, ⟨none, none, .store 1 (.t 42) (.t 41)⟩]) (.drop [4, 42]))
           (.seq (.seq (.reg [⟨(some 43), none, .fad 3 (.t 1)⟩, ⟨(some 44), none, .load none (.t 43)⟩, ⟨(some 45), none, .fad 3 (.t 3)⟩, ⟨none, none, .store 1 (.t 45) (.t 44)⟩]) (.drop [4, 45]))
            (.seq (.reg [⟨(some 46), none, .fad 3 (.t 1)⟩, ⟨(some 47), none, .load none (.t 46)⟩, ⟨(some 48), none, .fad 1 (.t 1)⟩, ⟨(some 49), none, .load none (.t 48)⟩, ⟨(some 50), none, .call (.c (.fn 20 [])) [(.c (.v (.int .i64 64))), (.t 47), (.t 49)]⟩, ⟨(some 51), none, .mv (.t 50)⟩, ⟨(some 52), (some (51, true)), .fad 2 (.t 1)⟩, ⟨(some 53), (some (51, true)), .load none (.t 52)⟩, ⟨(some 54), (some (51, true)), .bin .geq (.t 53) (.c (.v (.int .i64 1)))⟩, ⟨(some 55), none, .pick (.t 51) (.t 54) (.c (.v (.bool false)))⟩, ⟨(some 56), none, .mv (.t 55)⟩, ⟨(some 57), (some (56, true)), .fad 2 (.t 1)⟩, ⟨(some 58), (some (56, true)), .load none (.t 57)⟩, ⟨(some 59), (some (56, true)), .bin .leq (.t 58) (.c (.v (.int .i64 4)))⟩, ⟨(some 60), none, .pick (.t 56) (.t 59) (.c (.v (.bool false)))⟩, ⟨(some 61), none, .mv (.t 60)⟩, ⟨(some 62), (some (61, true)), .fad 0 (.t 1)⟩, ⟨(some 63), (some (61, true)), .load none (.t 62)⟩, ⟨(some 64), (some (61, true)), .call (.c (.fn 19 [])) [(.t 63)]⟩, ⟨(some 65), (some (61, true)), .mv (.t 64)⟩, ⟨(some 66), (some (65, true)), .fad 2 (.t 1)⟩, ⟨(some 67), (some (65, true)), .load none (.t 66)⟩, ⟨(some 68), (some (65, true)), .bin .eql (.t 67) (.c (.v (.int .i64 1)))⟩, ⟨(some 69), (some (61, true)), .pick (.t 65) (.t 68) (.c (.v (.bool false)))⟩, ⟨(some 70), (some (61, true)), .un .not (.t 69)⟩, ⟨(some 71), none, .pick (.t 61) (.t 70) (.c (.v (.bool false)))⟩, ⟨(some 4), none, .mv (.t 71)⟩]) (.drop [5, 71])))))
theorem g_fuglemanref12_Right_1 {C : CT} {lf : Nat} {ks : List It} {s : St} : type_of% (@Sym.go_as C lf ks s _ _ c_fuglemanref12_Right_1.eq_1) := Sym.go_as c_fuglemanref12_Right_1.eq_1
def c_fuglemanref12_Right_2 : AC :=
 (.seq (.seq (.reg [⟨(some 81), none, .fad 3 (.t 1)⟩, ⟨(some 82), none, .load none (.t 81)⟩, ⟨(some 83), none, .fad 3 (.t 3)⟩, ⟨none, none, .store 1 (.t 83) (.t 82)⟩]) (.drop [4, 83]))
            (.seq (.reg [⟨(some 84), none, .fad 3 (.t 1)⟩, ⟨(some 85), none, .load none (.t 84)⟩, ⟨(some 86), none, .bin .geq (.t 85) (.c (.v (.int .i64 0)))⟩, ⟨(some 87), none, .mv (.t 86)⟩, ⟨(some 88), (some (87, true)), .fad 3 (.t 1)⟩, ⟨(some 89), (some (87, true)), .load none (.t 88)⟩, ⟨(some 90), (some (87, true)), .bin .leq (.t 89) (.c (.v (.int .i64 200)))⟩, ⟨(some 91), none, .pick (.t 87) (.t 90) (.c (.v (.bool false)))⟩, ⟨(some 4), none, .mv (.t 91)⟩]) (.drop [5, 91])))
theorem g_fuglemanref12_Right_2 {C : CT} {lf : Nat} {ks : List It} {s : St} : type_of% (@Sym.go_as C lf ks s _ _ c_fuglemanref12_Right_2.eq_1) := Sym.go_as c_fuglemanref12_Right_2.eq_1
def c_fuglemanref12_Right_3 : AC :=
 (.seq (.seq (.reg [⟨(some 115), none, .fad 1 (.t 1)⟩, ⟨(some 116), none, .load none (.t 115)⟩, ⟨(some 117), none, .fad 1 (.t 3)⟩, ⟨none, none, .store 1 (.t 117) (.t 116)⟩]) (.drop [4, 117]))
                (.seq (.reg [⟨(some 118), none, .fad 1 (.t 1)⟩, ⟨(some 119), none, .load none (.t 118)⟩, ⟨(some 120), none, .call (.c (.fn 21 [])) [(.t 119)]⟩, ⟨(some 121), none, .bin .gtr (.t 120) (.c (.v (.int .i64 0)))⟩, ⟨(some 4), none, .mv (.t 121)⟩]) (.drop [5, 121])))
theorem g_fuglemanref12_Right_3 {C : CT} {lf : Nat} {ks : List It} {s : St} : type_of% (@Sym.go_as C lf ks s _ _ c_fuglemanref12_Right_3.eq_1) := Sym.go_as c_fuglemanref12_Right_3.eq_1
def c_fuglemanref12_Right_4 : AC :=
 (.seq (.seq (.reg [⟨(some 126), none, .fad 3 (.t 1)⟩, ⟨(some 127), none, .load none (.t 126)⟩, ⟨(some 128), none, .fad 3 (.t 3)⟩, ⟨none, none, .store 1 (.t 128) (.t 127)⟩]) (.drop [4, 128]))
                  (.seq (.reg [⟨(some 129), none, .fad 3 (.t 1)⟩, ⟨(some 130), none, .load none (.t 129)⟩, ⟨(some 131), none, .call (.c (.fn 17 [])) [(.t 130)]⟩, ⟨(some 132), none, .mv (.t 131)⟩, ⟨(some 133), (some (132, true)), .fad 3 (.t 1)⟩, ⟨(some 134), (some (132, true)), .load none (.t 133)⟩, ⟨(some 135), (some (132, true)), .bin .gtr (.t 134) (.c (.v (.int .i64 2)))⟩, ⟨(some 136), none, .pick (.t 132) (.t 135) (.c (.v (.bool false)))⟩, ⟨(some 4), none, .mv (.t 136)⟩]) (.drop [5, 136])))
theorem g_fuglemanref12_Right_4 {C : CT} {lf : Nat} {ks : List It} {s : St} : type_of% (@Sym.go_as C lf ks s _ _ c_fuglemanref12_Right_4.eq_1) := Sym.go_as c_fuglemanref12_Right_4.eq_1
def c_fuglemanref12_Right_5 : AC :=
 (.seq (.seq (.reg [⟨(some 146), none, .fad 2 (.t 1)⟩, ⟨(some 147), none, .load none (.t 146)⟩, ⟨(some 148), none, .fad 2 (.t 3)⟩, ⟨none, none, .store 1 (.t 148) (.t 147)⟩]) (.drop [4, 148]))
                    (.seq (.seq (.reg [⟨(some 149), none, .fad 3 (.t 1)⟩, ⟨(some 150), none, .load none (.t 149)⟩, ⟨(some 151), none, .fad 3 (.t 3)⟩, ⟨none, none, .store 1 (.t 151) (.t 150)⟩]) (.drop [4, 151]))
                     (.seq (.seq (.reg [⟨(some 152), none, .fad 4 (.t 1)⟩, ⟨(some 153), none, .load none (.t 152)⟩, ⟨(some 154), none, .fad 4 (.t 3)⟩, ⟨none, none, .store 1 (.t 154) (.t 153)⟩]) (.drop [4, 154]))
                      (.seq (.reg [⟨(some 155), none, .fad 2 (.t 1)⟩, ⟨(some 156), none, .load none (.t 155)⟩, ⟨(some 157), none, .bin .eql (.t 156) (.c (.v (.int .i64 3)))⟩, ⟨(some 158), none, .mv (.t 157)⟩, ⟨(some 159), (some (158, false)), .fad 2 (.t 1)⟩, ⟨(some 160), (some (158, false)), .load none (.t 159)⟩, ⟨(some 161), (some (158, false)), .bin .eql (.t 160) (.c (.v (.int .i64 4)))⟩, ⟨(some 162), none, .pick (.t 158) (.c (.v (.bool true))) (.t 161)⟩, ⟨(some 163), none, .mv (.t 162)⟩, ⟨(some 164), (some (163, true)), .fad 3 (.t 1)⟩, ⟨(some 165), (some (163, true)), .load none (.t 164)⟩, ⟨(some 166), (some (163, true)), .bin .geq (.t 165) (.c (.v (.int .i64 0)))⟩, ⟨(some 167), none, .pick (.t 163) (.t 166) (.c (.v (.bool false)))⟩, ⟨(some 168), none, .mv (.t 167)⟩, ⟨(some 169), (some (168, true)), .fad 3 (.t 1)⟩, ⟨(some 170), (some (168, true)), .load none (.t 169)⟩, ⟨(some 171), (some (168, true)), .bin .leq (.t 170) (.c (.v (.int .i64 59)))⟩, ⟨(some 172), none, .pick (.t 168) (.t 171) (.c (.v (.bool false)))⟩, ⟨(some 173), none, .mv (.t 172)⟩, ⟨(some 174), (some (173, true)), .fad 4 (.t 1)⟩, ⟨(some 175), (some (173, true)), .load none (.t 174)⟩, ⟨(some 176), (some (173, true)), .bin .geq (.t 175) (.c (.v (.int .i64 1)))⟩, ⟨(some 177), none, .pick (.t 173) (.t 176) (.c (.v (.bool false)))⟩, ⟨(some 178), none, .mv (.t 177)⟩, ⟨(some 179), (some (178, true)), .fad 4 (.t 1)⟩, ⟨(some 180), (some (178, true)), .load none (.t 179)⟩, ⟨(some 181), (some (178, true)), .bin .leq (.t 180) (.c (.v (.int .i64 9999)))⟩, ⟨(some 182), none, .pick (.t 178) (.t 181) (.c (.v (.bool false)))⟩, ⟨(some 4), none, .mv (.t 182)⟩]) (.drop [5, 182])))))
theorem g_fuglemanref12_Right_5 {C : CT} {lf : Nat} {ks : List It} {s : St} : type_of% (@Sym.go_as C lf ks s _ _ c_fuglemanref12_Right_5.eq_1) := Sym.go_as c_fuglemanref12_Right_5.eq_1
def c_fuglemanref12_Right_6 : AC :=
 (.seq (.seq (.reg [⟨(some 187), none, .fad 2 (.t 1)⟩, ⟨(some 188), none, .load none (.t 187)⟩, ⟨(some 189), none, .fad 2 (.t 3)⟩, ⟨none, none, .store 1 (.t 189) (.t 188)⟩]) (.drop [4, 189]))
                      (.seq (.seq (.reg [⟨(some 190), none, .fad 3 (.t 1)⟩, ⟨(some 191), none, .load none (.t 190)⟩, ⟨(some 192), none, .fad 3 (.t 3)⟩, ⟨none, none, .store 1 (.t 192) (.t 191)⟩]) (.drop [4, 192]))
                       (.seq (.reg [⟨(some 193), none, .fad 2 (.t 1)⟩, ⟨(some 194), none, .load none (.t 193)⟩, ⟨(some 195), none, .bin .eql (.t 194) (.c (.v (.int .i64 3)))⟩, ⟨(some 196), none, .mv (.t 195)⟩, ⟨(some 197), (some (196, false)), .fad 2 (.t 1)⟩, ⟨(some 198), (some (196, false)), .load none (.t 197)⟩, ⟨(some 199), (some (196, false)), .bin .eql (.t 198) (.c (.v (.int .i64 4)))⟩, ⟨(some 200), none, .pick (.t 196) (.c (.v (.bool true))) (.t 199)⟩, ⟨(some 201), none, .mv (.t 200)⟩, ⟨(some 202), (some (201, true)), .fad 3 (.t 1)⟩, ⟨(some 203), (some (201, true)), .load none (.t 202)⟩, ⟨(some 204), (some (201, true)), .bin .geq (.t 203) (.c (.v (.int .i64 0)))⟩, ⟨(some 205), none, .pick (.t 201) (.t 204) (.c (.v (.bool false)))⟩, ⟨(some 206), none, .mv (.t 205)⟩, ⟨(some 207), (some (206, true)), .fad 3 (.t 1)⟩, ⟨(some 208), (some (206, true)), .load none (.t 207)⟩, ⟨(some 209), (some (206, true)), .bin .leq (.t 208) (.c (.v (.int .i64 63)))⟩, ⟨(some 210), none, .pick (.t 206) (.t 209) (.c (.v (.bool false)))⟩, ⟨(some 4), none, .mv (.t 210)⟩]) (.drop [5, 210]))))
theorem g_fuglemanref12_Right_6 {C : CT} {lf : Nat} {ks : List It} {s : St} : type_of% (@Sym.go_as C lf ks s _ _ c_fuglemanref12_Right_6.eq_1) := Sym.go_as c_fuglemanref12_Right_6.eq_1
def c_fuglemanref12_Right_7 : AC :=
 (.seq (.seq (.reg [⟨(some 184), none, .fad 0 (.t 1)⟩, ⟨(some 185), none, .load none (.t 184)⟩, ⟨(some 186), none, .bin .eql (.t 185) (.c (.v (.int .i64 36)))⟩, ⟨(some 183), none, .mv (.t 186)⟩]) (.drop [184, 186]))
                    (.cond (.t 183) c_fuglemanref12_Right_6
                     .skip))
theorem g_fuglemanref12_Right_7 {C : CT} {lf : Nat} {ks : List It} {s : St} : type_of% (@Sym.go_as C lf ks s _ _ c_fuglemanref12_Right_7.eq_1) := Sym.go_as c_fuglemanref12_Right_7.eq_1
def c_fuglemanref12_Right_8 : AC :=
 (.seq (.seq (.reg [⟨(some 138), none, .fad 0 (.t 1)⟩, ⟨(some 139), none, .load none (.t 138)⟩, ⟨(some 140), none, .bin .eql (.t 139) (.c (.v (.int .i64 34)))⟩, ⟨(some 141), none, .mv (.t 140)⟩, ⟨(some 142), (some (141, false)), .fad 0 (.t 1)⟩, ⟨(some 143), (some (141, false)), .load none (.t 142)⟩, ⟨(some 144), (some (141, false)), .bin .eql (.t 143) (.c (.v (.int .i64 35)))⟩, ⟨(some 145), none, .pick (.t 141) (.c (.v (.bool true))) (.t 144)⟩, ⟨(some 137), none, .mv (.t 145)⟩]) (.drop [138, 145]))
                  (.cond (.t 137) c_fuglemanref12_Right_5
                   c_fuglemanref12_Right_7))
theorem g_fuglemanref12_Right_8 {C : CT} {lf : Nat} {ks : List It} {s : St} : type_of% (@Sym.go_as C lf ks s _ _ c_fuglemanref12_Right_8.eq_1) := Sym.go_as c_fuglemanref12_Right_8.eq_1
def c_fuglemanref12_Right_9 : AC :=
 (.seq (.seq (.reg [⟨(some 123), none, .fad 0 (.t 1)⟩, ⟨(some 124), none, .load none (.t 123)⟩, ⟨(some 125), none, .bin .eql (.t 124) (.c (.v (.int .i64 32)))⟩, ⟨(some 122), none, .mv (.t 125)⟩]) (.drop [123, 125]))
                (.cond (.t 122) c_fuglemanref12_Right_4
                 c_fuglemanref12_Right_8))
theorem g_fuglemanref12_Right_9 {C : CT} {lf : Nat} {ks : List It} {s : St} : type_of% (@Sym.go_as C lf ks s _ _ c_fuglemanref12_Right_9.eq_1) := Sym.go_as c_fuglemanref12_Right_9.eq_1
def c_fuglemanref12_Right_10 : AC :=
 (.seq (.seq (.reg [⟨(some 112), none, .fad 0 (.t 1)⟩, ⟨(some 113), none, .load none (.t 112)⟩, ⟨(some 114), none, .bin .eql (.t 113) (.c (.v (.int .i64 31)))⟩, ⟨(some 111), none, .mv (.t 114)⟩]) (.drop [112, 114]))
              (.cond (.t 111) c_fuglemanref12_Right_3
               c_fuglemanref12_Right_9))
theorem g_fuglemanref12_Right_10 {C : CT} {lf : Nat} {ks : List It} {s : St} : type_of% (@Sym.go_as C lf ks s _ _ c_fuglemanref12_Right_10.eq_1) := Sym.go_as c_fuglemanref12_Right_10.eq_1
def c_fuglemanref12_Right_11 : AC :=
 (.seq (.seq (.reg [⟨(some 93), none, .fad 0 (.t 1)⟩, ⟨(some 94), none, .load none (.t 93)⟩, ⟨(some 95), none, .bin .eql (.t 94) (.c (.v (.int .i64 13)))⟩, ⟨(some 96), none, .mv (.t 95)⟩, ⟨(some 97), (some (96, false)), .fad 0 (.t 1)⟩, ⟨(some 98), (some (96, false)), .load none (.t 97)⟩, ⟨(some 99), (some (96, false)), .bin .geq (.t 98) (.c (.v (.int .i64 28)))⟩, ⟨(some 100), (some (96, false)), .mv (.t 99)⟩, ⟨(some 101), (some (100, true)), .fad 0 (.t 1)⟩, ⟨(some 102), (some (100, true)), .load none (.t 101)⟩, ⟨(some 103), (some (100, true)), .bin .leq (.t 102) (.c (.v (.int .i64 30)))⟩, ⟨(some 104), (some (96, false)), .pick (.t 100) (.t 103) (.c (.v (.bool false)))⟩, ⟨(some 105), none, .pick (.t 96) (.c (.v (.bool true))) (.t 104)⟩, ⟨(some 106), none, .mv (.t 105)⟩, ⟨(some 107), (some (106, false)), .fad 0 (.t 1)⟩, ⟨(some 108), (some (106, false)), .load none (.t 107)⟩, ⟨(some 109), (some (106, false)), .bin .eql (.t 108) (.c (.v (.int .i64 33)))⟩, ⟨(some 110), none, .pick (.t 106) (.c (.v (.bool true))) (.t 109)⟩, ⟨(some 92), none, .mv (.t 110)⟩]) (.drop [93, 110]))
            (.cond (.t 92) (.seq (.reg [⟨(some 4), none, .mv (.c (.v (.bool true)))⟩]) (.drop []))
             c_fuglemanref12_Right_10))
theorem g_fuglemanref12_Right_11 {C : CT} {lf : Nat} {ks : List It} {s : St} : type_of% (@Sym.go_as C lf ks s _ _ c_fuglemanref12_Right_11.eq_1) := Sym.go_as c_fuglemanref12_Right_11.eq_1
def c_fuglemanref12_Right_12 : AC :=
 (.seq (.seq (.reg [⟨(some 73), none, .fad 0 (.t 1)⟩, ⟨(some 74), none, .load none (.t 73)⟩, ⟨(some 75), none, .bin .geq (.t 74) (.c (.v (.int .i64 25)))⟩, ⟨(some 76), none, .mv (.t 75)⟩, ⟨(some 77), (some (76, true)), .fad 0 (.t 1)⟩, ⟨(some 78), (some (76, true)), .load none (.t 77)⟩, ⟨(some 79), (some (76, true)), .bin .leq (.t 78) (.c (.v (.int .i64 27)))⟩, ⟨(some 80), none, .pick (.t 76) (.t 79) (.c (.v (.bool false)))⟩, ⟨(some 72), none, .mv (.t 80)⟩]) (.drop [73, 80]))
          (.cond (.t 72) c_fuglemanref12_Right_2
           c_fuglemanref12_Right_11))
theorem g_fuglemanref12_Right_12 {C : CT} {lf : Nat} {ks : List It} {s : St} : type_of% (@Sym.go_as C lf ks s _ _ c_fuglemanref12_Right_12.eq_1) := Sym.go_as c_fuglemanref12_Right_12.eq_1
def c_fuglemanref12_Right_13 : AC :=
 (.seq (.seq (.reg [⟨(some 29), none, .fad 0 (.t 1)⟩, ⟨(some 30), none, .load none (.t 29)⟩, ⟨(some 31), none, .call (.c (.fn 17 [])) [(.t 30)]⟩, ⟨(some 32), none, .mv (.t 31)⟩, ⟨(some 33), (some (32, false)), .fad 0 (.t 1)⟩, ⟨(some 34), (some (32, false)), .load none (.t 33)⟩, ⟨(some 35), (some (32, false)), .call (.c (.fn 19 [])) [(.t 34)]⟩, ⟨(some 36), none, .pick (.t 32) (.c (.v (.bool true))) (.t 35)⟩, ⟨(some 28), none, .mv (.t 36)⟩]) (.drop [29, 36]))
        (.cond (.t 28) c_fuglemanref12_Right_1
         c_fuglemanref12_Right_12))
theorem g_fuglemanref12_Right_13 {C : CT} {lf : Nat} {ks : List It} {s : St} : type_of% (@Sym.go_as C lf ks s _ _ c_fuglemanref12_Right_13.eq_1) := Sym.go_as c_fuglemanref12_Right_13.eq_1
def b_fuglemanref12_Right : AC :=
 (.seq (.seq (.reg [⟨(some 1), none, .box (.t 0)⟩, ⟨(some 2), none, .mv (.c (.v (.bool false)))⟩]) (.drop [2, 2]))
 (.seq (.seq (.reg [⟨(some 5), none, .fad 0 (.t 1)⟩, ⟨(some 6), none, .load none (.t 5)⟩, ⟨(some 7), none, .build [(.v (.int .i64 0)), (.v (.int .i64 0)), (.v (.int .i64 0)), (.v (.int .i64 0)), (.v (.int .i64 0))] [(0, 1, (.t 6))]⟩, ⟨(some 3), none, .alloc [(.v (.int .i64 0)), (.v (.int .i64 0)), (.v (.int .i64 0)), (.v (.int .i64 0)), (.v (.int .i64 0))]⟩, ⟨none, none, .store 5 (.t 3) (.t 7)⟩]) (.drop [4, 7]))
  (.seq (.seq (.reg [⟨(some 4), none, .mv (.c (.v (.bool false)))⟩]) (.drop []))
   (.seq (.block 0 (.seq (.seq (.reg [⟨(some 9), none, .fad 0 (.t 1)⟩, ⟨(some 10), none, .load none (.t 9)⟩, ⟨(some 11), none, .call (.c (.fn 17 [])) [(.t 10)]⟩, ⟨(some 12), none, .mv (.t 11)⟩, ⟨(some 13), (some (12, true)), .fad 2 (.t 1)⟩, ⟨(some 14), (some (12, true)), .load none (.t 13)⟩, ⟨(some 15), (some (12, true)), .bin .eql (.t 14) (.c (.v (.int .i64 0)))⟩, ⟨(some 16), none, .pick (.t 12) (.t 15) (.c (.v (.bool false)))⟩, ⟨(some 8), none, .mv (.t 16)⟩]) (.drop [9, 16]))
      (.cond (.t 8) c_fuglemanref12_Right_0
       c_fuglemanref12_Right_13)))
    (.seq (.seq (.reg [⟨(some 211), none, .mv (.t 4)⟩, ⟨(some 212), none, .mv (.t 211)⟩, ⟨(some 213), (some (212, true)), .load (some 5) (.t 1)⟩, ⟨(some 214), (some (212, true)), .load (some 5) (.t 3)⟩, ⟨(some 215), (some (212, true)), .eqst false [(0, .i), (1, .i), (2, .i), (3, .i), (4, .i)] (.t 213) (.t 214)⟩, ⟨(some 216), none, .pick (.t 212) (.t 215) (.c (.v (.bool false)))⟩, ⟨(some 2), none, .mv (.t 216)⟩]) (.drop [3, 216]))
     .ret)))))
def a_fuglemanref12_Right : AFn := ⟨1, b_fuglemanref12_Right, [.t 2], false, false⟩
theorem a_fuglemanref12_Right_ok : compF Try.prog Try.f10 [[2, 2], [4, 7], [], [9, 16], [4, 19], [4, 22], [5, 27], [29, 36], [4, 39], [4, 42], [4, 45], [5, 71], [73, 80], [4, 83], [5, 91], [93, 110], [], [112, 114], [4, 117], [5, 121], [123, 125], [4, 128], [5, 136], [138, 145], [4, 148], [4, 151], [4, 154], [5, 182], [184, 186], [4, 189], [4, 192], [5, 210], [3, 216]] false false hv = some a_fuglemanref12_Right := by kernel_rfl

/-! fugleman/fuglemanref11.May: 32 -/
def b_fuglemanref11_May : AC :=
 (.seq (.seq (.reg [⟨(some 4), none, .mv (.c (.v (.bool false)))⟩]) (.drop [2, 4]))
 (.seq (.seq (.reg [⟨(some 8), none, .mv (.t 0)⟩, ⟨(some 9), none, .bin .geq (.t 8) (.c (.v (.int .i64 14)))⟩, ⟨(some 10), none, .mv (.t 9)⟩, ⟨(some 11), (some (10, true)), .mv (.t 0)⟩, ⟨(some 12), (some (10, true)), .bin .leq (.t 11) (.c (.v (.int .i64 18)))⟩, ⟨(some 13), none, .pick (.t 10) (.t 12) (.c (.v (.bool false)))⟩, ⟨(some 5), none, .mv (.t 13)⟩]) (.drop [6, 13]))
  (.seq (.seq (.reg [⟨(some 14), none, .mv (.t 0)⟩, ⟨(some 15), none, .bin .geq (.t 14) (.c (.v (.int .i64 7)))⟩, ⟨(some 16), none, .mv (.t 15)⟩, ⟨(some 17), (some (16, true)), .mv (.t 0)⟩, ⟨(some 18), (some (16, true)), .bin .leq (.t 17) (.c (.v (.int .i64 13)))⟩, ⟨(some 19), none, .pick (.t 16) (.t 18) (.c (.v (.bool false)))⟩, ⟨(some 6), none, .mv (.t 19)⟩]) (.drop [7, 19]))
   (.seq (.seq (.reg [⟨(some 20), none, .mv (.t 0)⟩, ⟨(some 21), none, .bin .geq (.t 20) (.c (.v (.int .i64 19)))⟩, ⟨(some 22), none, .mv (.t 21)⟩, ⟨(some 23), (some (22, true)), .mv (.t 0)⟩, ⟨(some 24), (some (22, true)), .bin .leq (.t 23) (.c (.v (.int .i64 24)))⟩, ⟨(some 25), none, .pick (.t 22) (.t 24) (.c (.v (.bool false)))⟩, ⟨(some 7), none, .mv (.t 25)⟩]) (.drop [8, 25]))
    (.seq (.seq (.seq (.reg [⟨(some 26), none, .mv (.t 1)⟩, ⟨(some 27), none, .call (.c (.fn 21 [])) [(.t 26)]⟩, ⟨(some 28), none, .bin .eql (.t 27) (.c (.v (.int .i64 0)))⟩]) (.drop [8, 27]))
      (.cond (.t 28) (.seq (.seq (.reg [⟨(some 4), none, .mv (.c (.v (.bool false)))⟩]) (.drop []))
        .ret)
       .skip))
     (.seq (.seq (.reg [⟨(some 29), none, .mv (.t 5)⟩, ⟨(some 30), none, .mv (.t 29)⟩, ⟨(some 31), (some (30, true)), .mv (.t 1)⟩, ⟨(some 32), (some (30, true)), .bin .geq (.t 31) (.c (.v (.int .i64 2)))⟩, ⟨(some 33), none, .pick (.t 30) (.t 32) (.c (.v (.bool false)))⟩, ⟨(some 34), none, .mv (.t 33)⟩, ⟨(some 35), (some (34, true)), .mv (.t 1)⟩, ⟨(some 36), (some (34, true)), .bin .leq (.t 35) (.c (.v (.int .i64 5)))⟩, ⟨(some 37), none, .pick (.t 34) (.t 36) (.c (.v (.bool false)))⟩, ⟨(some 38), none, .mv (.t 37)⟩, ⟨(some 39), (some (38, false)), .mv (.t 6)⟩, ⟨(some 40), (some (38, false)), .mv (.t 39)⟩, ⟨(some 41), (some (40, true)), .mv (.t 1)⟩, ⟨(some 42), (some (40, true)), .bin .eql (.t 41) (.c (.v (.int .i64 1)))⟩, ⟨(some 43), (some (40, true)), .mv (.t 42)⟩, ⟨(some 44), (some (43, false)), .mv (.t 1)⟩, ⟨(some 45), (some (43, false)), .bin .geq (.t 44) (.c (.v (.int .i64 6)))⟩, ⟨(some 46), (some (40, true)), .pick (.t 43) (.c (.v (.bool true))) (.t 45)⟩, ⟨(some 47), (some (38, false)), .pick (.t 40) (.t 46) (.c (.v (.bool false)))⟩, ⟨(some 48), none, .pick (.t 38) (.c (.v (.bool true))) (.t 47)⟩, ⟨(some 49), none, .mv (.t 48)⟩, ⟨(some 50), (some (49, false)), .mv (.t 7)⟩, ⟨(some 51), none, .pick (.t 49) (.c (.v (.bool true))) (.t 50)⟩, ⟨(some 4), none, .mv (.t 51)⟩]) (.drop [5, 51]))
      .ret))))))
def a_fuglemanref11_May : AFn := ⟨2, b_fuglemanref11_May, [.t 4], false, false⟩
theorem a_fuglemanref11_May_ok : compF Try.prog Try.f32 [[2, 4], [6, 13], [7, 19], [8, 25], [8, 27], [], [5, 51]] false false hv = some a_fuglemanref11_May := by kernel_rfl

/-! fugleman/fuglemanref14.logic: 31 -/
def b_fuglemanref14_logic : AC :=
 (.seq (.seq (.reg [⟨(some 2), none, .mv (.c (.v (.bool false)))⟩]) (.drop [1, 2]))
 (.seq (.seq (.reg [⟨(some 3), none, .mv (.t 0)⟩, ⟨(some 4), none, .call (.c (.fn 32 [])) [(.c (.v (.int .i64 13))), (.t 3)]⟩, ⟨(some 2), none, .mv (.t 4)⟩]) (.drop [3, 4]))
  .ret))
def a_fuglemanref14_logic : AFn := ⟨1, b_fuglemanref14_logic, [.t 2], false, false⟩
theorem a_fuglemanref14_logic_ok : compF Try.prog Try.f31 [[1, 2], [3, 4]] false false hv = some a_fuglemanref14_logic := by kernel_rfl

/-! fugleman/fuglemanref14.behind: 15 -/
def c_fuglemanref14_behind_0 : AC :=
 (.seq (.seq (.seq (.reg [⟨(some 33), none, .fad 1 (.t 4)⟩, ⟨(some 34), none, .load none (.t 33)⟩, ⟨(some 35), none, .call (.c (.fn 31 [])) [(.t 34)]⟩, ⟨(some 36), none, .un .not (.t 35)⟩]) (.drop [12, 35]))
             (.cond (.t 36) (.seq (.seq (.reg [⟨(some 37), none, .load (some 3) (.t 11)⟩, ⟨none, none, .store 3 (.t 8) (.t 37)⟩, ⟨(some 9), none, .mv (.c (.v (.int .i64 6)))⟩]) (.drop [10, 37]))
               .ret)
              .skip))
            (.seq (.reg [⟨(some 38), none, .fad 1 (.t 4)⟩, ⟨(some 39), none, .load none (.t 38)⟩, ⟨(some 40), none, .fad 1 (.t 11)⟩, ⟨none, none, .store 1 (.t 40) (.t 39)⟩]) (.drop [12, 40])))
theorem g_fuglemanref14_behind_0 {C : CT} {lf : Nat} {ks : List It} {s : St} : type_of% (@Sym.go_as C lf ks s _ _ c_fuglemanref14_behind_0.eq_1) := Sym.go_as c_fuglemanref14_behind_0.eq_1
def c_fuglemanref14_behind_1 : AC :=
 (.seq (.seq (.reg [⟨(some 48), none, .mv (.t 12)⟩, ⟨(some 49), none, .fad 1 (.t 4)⟩, ⟨(some 50), none, .load none (.t 49)⟩, ⟨(some 51), none, .bin .neq (.t 48) (.t 50)⟩, ⟨(some 52), none, .mv (.t 51)⟩, ⟨(some 53), (some (52, false)), .mv (.t 10)⟩, ⟨(some 54), (some (52, false)), .bin .eql (.t 53) (.c (.v (.int .i64 4)))⟩, ⟨(some 55), (some (52, false)), .mv (.t 54)⟩, ⟨(some 56), (some (55, true)), .fad 1 (.t 4)⟩, ⟨(some 57), (some (55, true)), .load none (.t 56)⟩, ⟨(some 58), (some (55, true)), .call (.c (.fn 31 [])) [(.t 57)]⟩, ⟨(some 59), (some (55, true)), .un .not (.t 58)⟩, ⟨(some 60), (some (52, false)), .pick (.t 55) (.t 59) (.c (.v (.bool false)))⟩, ⟨(some 61), none, .pick (.t 52) (.c (.v (.bool true))) (.t 60)⟩]) (.drop [12, 60]))
              (.cond (.t 61) (.seq (.seq (.reg [⟨(some 62), none, .load (some 3) (.t 11)⟩, ⟨none, none, .store 3 (.t 8) (.t 62)⟩, ⟨(some 9), none, .mv (.c (.v (.int .i64 6)))⟩]) (.drop [10, 62]))
                .ret)
               .skip))
theorem g_fuglemanref14_behind_1 {C : CT} {lf : Nat} {ks : List It} {s : St} : type_of% (@Sym.go_as C lf ks s _ _ c_fuglemanref14_behind_1.eq_1) := Sym.go_as c_fuglemanref14_behind_1.eq_1
def c_fuglemanref14_behind_2 : AC :=
 (.seq (.seq (.reg [⟨(some 70), none, .mv (.t 12)⟩, ⟨(some 71), none, .bin .neq (.t 70) (.c (.v (.int .i64 1)))⟩, ⟨(some 72), none, .mv (.t 71)⟩, ⟨(some 73), (some (72, false)), .fad 1 (.t 4)⟩, ⟨(some 74), (some (72, false)), .load none (.t 73)⟩, ⟨(some 75), (some (72, false)), .bin .neq (.t 74) (.c (.v (.int .i64 1)))⟩, ⟨(some 76), none, .pick (.t 72) (.c (.v (.bool true))) (.t 75)⟩]) (.drop [12, 75]))
                (.cond (.t 76) (.seq (.seq (.reg [⟨(some 77), none, .load (some 3) (.t 11)⟩, ⟨none, none, .store 3 (.t 8) (.t 77)⟩, ⟨(some 9), none, .mv (.c (.v (.int .i64 6)))⟩]) (.drop [10, 77]))
                  .ret)
                 .skip))
theorem g_fuglemanref14_behind_2 {C : CT} {lf : Nat} {ks : List It} {s : St} : type_of% (@Sym.go_as C lf ks s _ _ c_fuglemanref14_behind_2.eq_1) := Sym.go_as c_fuglemanref14_behind_2.eq_1
def c_fuglemanref14_behind_3 : AC :=
 (.seq (.seq (.reg [⟨(some 81), none, .mv (.t 12)⟩, ⟨(some 82), none, .call (.c (.fn 31 [])) [(.t 81)]⟩, ⟨(some 83), none, .un .not (.t 82)⟩]) (.drop [12, 82]))
                  (.cond (.t 83) (.seq (.seq (.reg [⟨(some 84), none, .load (some 3) (.t 11)⟩, ⟨none, none, .store 3 (.t 8) (.t 84)⟩, ⟨(some 9), none, .mv (.c (.v (.int .i64 6)))⟩]) (.drop [10, 84]))
                    .ret)
                   .skip))
theorem g_fuglemanref14_behind_3 {C : CT} {lf : Nat} {ks : List It} {s : St} : type_of% (@Sym.go_as C lf ks s _ _ c_fuglemanref14_behind_3.eq_1) := Sym.go_as c_fuglemanref14_behind_3.eq_1
def c_fuglemanref14_behind_4 : AC :=
 (.seq (.seq (.seq (.reg [⟨(some 92), none, .mv (.t 12)⟩, ⟨(some 93), none, .fad 1 (.t 4)⟩, ⟨(some 94), none, .load none (.t 93)⟩, ⟨(some 95), none, .bin .neq (.t 92) (.t 94)⟩, ⟨(some 96), none, .mv (.t 95)⟩, ⟨(some 97), (some (96, false)), .mv (.t 10)⟩, ⟨(some 98), (some (96, false)), .mv (.t 12)⟩, ⟨(some 99), (some (96, false)), .call (.c (.fn 32 [])) [(.t 97), (.t 98)]⟩, ⟨(some 100), (some (96, false)), .un .not (.t 99)⟩, ⟨(some 101), none, .pick (.t 96) (.c (.v (.bool true))) (.t 100)⟩]) (.drop [12, 100]))
                     (.cond (.t 101) (.seq (.seq (.reg [⟨(some 102), none, .load (some 3) (.t 11)⟩, ⟨none, none, .store 3 (.t 8) (.t 102)⟩, ⟨(some 9), none, .mv (.c (.v (.int .i64 6)))⟩]) (.drop [10, 102]))
                       .ret)
                      .skip))
                    (.seq (.seq (.reg [⟨(some 103), none, .mv (.t 10)⟩, ⟨(some 104), none, .bin .geq (.t 103) (.c (.v (.int .i64 19)))⟩]) (.drop [12, 103]))
                     (.cond (.t 104) (.seq (.reg [⟨(some 105), none, .fad 1 (.t 11)⟩, ⟨none, none, .store 1 (.t 105) (.c (.v (.int .i64 1)))⟩]) (.drop [12, 105]))
                      .skip)))
theorem g_fuglemanref14_behind_4 {C : CT} {lf : Nat} {ks : List It} {s : St} : type_of% (@Sym.go_as C lf ks s _ _ c_fuglemanref14_behind_4.eq_1) := Sym.go_as c_fuglemanref14_behind_4.eq_1
def c_fuglemanref14_behind_5 : AC :=
 (.seq (.seq (.seq (.reg [⟨(some 113), none, .fad 3 (.t 4)⟩, ⟨(some 114), none, .load none (.t 113)⟩, ⟨(some 115), none, .mv (.t 1)⟩, ⟨(some 116), none, .bin .leq (.t 114) (.t 115)⟩, ⟨(some 117), none, .mv (.t 116)⟩, ⟨(some 118), (some (117, false)), .fad 3 (.t 4)⟩, ⟨(some 119), (some (117, false)), .load none (.t 118)⟩, ⟨(some 120), (some (117, false)), .mv (.t 2)⟩, ⟨(some 121), (some (117, false)), .bin .gtr (.t 119) (.t 120)⟩, ⟨(some 122), none, .pick (.t 117) (.c (.v (.bool true))) (.t 121)⟩]) (.drop [13, 121]))
                       (.cond (.t 122) (.seq (.seq (.reg [⟨(some 123), none, .load (some 3) (.t 11)⟩, ⟨none, none, .store 3 (.t 8) (.t 123)⟩, ⟨(some 9), none, .mv (.c (.v (.int .i64 7)))⟩]) (.drop [10, 123]))
                         .ret)
                        .skip))
                      (.seq (.seq (.reg [⟨(some 124), none, .mv (.t 10)⟩, ⟨(some 125), none, .bin .gtr (.t 124) (.c (.v (.int .i64 25)))⟩, ⟨(some 126), none, .mv (.t 125)⟩, ⟨(some 127), (some (126, true)), .mv (.t 12)⟩, ⟨(some 128), (some (126, true)), .bin .neq (.t 127) (.c (.v (.int .i64 1)))⟩, ⟨(some 129), none, .pick (.t 126) (.t 128) (.c (.v (.bool false)))⟩]) (.drop [12, 128]))
                       (.cond (.t 129) (.seq (.seq (.reg [⟨(some 130), none, .load (some 3) (.t 11)⟩, ⟨none, none, .store 3 (.t 8) (.t 130)⟩, ⟨(some 9), none, .mv (.c (.v (.int .i64 6)))⟩]) (.drop [10, 130]))
                         .ret)
                        .skip)))
theorem g_fuglemanref14_behind_5 {C : CT} {lf : Nat} {ks : List It} {s : St} : type_of% (@Sym.go_as C lf ks s _ _ c_fuglemanref14_behind_5.eq_1) := Sym.go_as c_fuglemanref14_behind_5.eq_1
def c_fuglemanref14_behind_6 : AC :=
 (.seq (.seq (.seq (.reg [⟨(some 138), none, .mv (.t 10)⟩, ⟨(some 139), none, .bin .gtr (.t 138) (.c (.v (.int .i64 28)))⟩, ⟨(some 140), none, .mv (.t 139)⟩, ⟨(some 141), (some (140, true)), .mv (.t 12)⟩, ⟨(some 142), (some (140, true)), .bin .neq (.t 141) (.c (.v (.int .i64 1)))⟩, ⟨(some 143), none, .pick (.t 140) (.t 142) (.c (.v (.bool false)))⟩]) (.drop [14, 142]))
                         (.cond (.t 143) (.seq (.seq (.reg [⟨(some 144), none, .load (some 3) (.t 11)⟩, ⟨none, none, .store 3 (.t 8) (.t 144)⟩, ⟨(some 9), none, .mv (.c (.v (.int .i64 6)))⟩]) (.drop [10, 144]))
                           .ret)
                          .skip))
                        (.seq (.seq (.reg [⟨(some 145), none, .mv (.t 13)⟩, ⟨(some 146), none, .bin .gtr (.t 145) (.c (.v (.int .i64 0)))⟩]) (.drop [12, 145]))
                         (.cond (.t 146) (.seq (.seq (.reg [⟨(some 147), none, .load (some 3) (.t 11)⟩, ⟨none, none, .store 3 (.t 8) (.t 147)⟩, ⟨(some 9), none, .mv (.c (.v (.int .i64 3)))⟩]) (.drop [10, 147]))
                           .ret)
                          .skip)))
theorem g_fuglemanref14_behind_6 {C : CT} {lf : Nat} {ks : List It} {s : St} : type_of% (@Sym.go_as C lf ks s _ _ c_fuglemanref14_behind_6.eq_1) := Sym.go_as c_fuglemanref14_behind_6.eq_1
def c_fuglemanref14_behind_7 : AC :=
 (.seq (.seq (.seq (.reg [⟨(some 151), none, .mv (.t 12)⟩, ⟨(some 152), none, .bin .eql (.t 151) (.c (.v (.int .i64 0)))⟩]) (.drop [12, 151]))
                           (.cond (.t 152) (.seq (.seq (.reg [⟨(some 153), none, .load (some 3) (.t 11)⟩, ⟨none, none, .store 3 (.t 8) (.t 153)⟩, ⟨(some 9), none, .mv (.c (.v (.int .i64 6)))⟩]) (.drop [10, 153]))
                             .ret)
                            .skip))
                          (.seq (.reg [⟨(some 154), none, .fad 1 (.t 4)⟩, ⟨(some 155), none, .load none (.t 154)⟩, ⟨(some 156), none, .fad 1 (.t 11)⟩, ⟨none, none, .store 1 (.t 156) (.t 155)⟩]) (.drop [12, 156])))
theorem g_fuglemanref14_behind_7 {C : CT} {lf : Nat} {ks : List It} {s : St} : type_of% (@Sym.go_as C lf ks s _ _ c_fuglemanref14_behind_7.eq_1) := Sym.go_as c_fuglemanref14_behind_7.eq_1
def c_fuglemanref14_behind_8 : AC :=
 (.seq (.seq (.seq (.reg [⟨(some 160), none, .fad 3 (.t 4)⟩, ⟨(some 161), none, .load none (.t 160)⟩, ⟨(some 162), none, .mv (.t 12)⟩, ⟨(some 163), none, .call (.c (.fn 32 [])) [(.t 161), (.t 162)]⟩, ⟨(some 164), none, .un .not (.t 163)⟩]) (.drop [14, 163]))
                             (.cond (.t 164) (.seq (.seq (.reg [⟨(some 165), none, .load (some 3) (.t 11)⟩, ⟨none, none, .store 3 (.t 8) (.t 165)⟩, ⟨(some 9), none, .mv (.c (.v (.int .i64 6)))⟩]) (.drop [10, 165]))
                               .ret)
                              .skip))
                            (.seq (.seq (.seq (.reg [⟨(some 166), none, .mv (.t 13)⟩, ⟨(some 167), none, .bin .eql (.t 166) (.c (.v (.int .i64 8)))⟩]) (.drop [13, 166]))
                              (.cond (.t 167) (.seq (.seq (.reg [⟨(some 168), none, .load (some 3) (.t 11)⟩, ⟨none, none, .store 3 (.t 8) (.t 168)⟩, ⟨(some 9), none, .mv (.c (.v (.int .i64 8)))⟩]) (.drop [10, 168]))
                                .ret)
                               .skip))
                             (.seq (.seq (.reg [⟨(some 169), none, .fad 1 (.t 11)⟩, ⟨none, none, .store 1 (.t 169) (.c (.v (.int .i64 0)))⟩]) (.drop [13, 169]))
                              (.seq (.reg [⟨(some 170), none, .fad 2 (.t 7)⟩, ⟨(some 171), none, .load none (.t 170)⟩, ⟨(some 172), none, .fad 3 (.t 4)⟩, ⟨(some 173), none, .load none (.t 172)⟩, ⟨(some 174), none, .cvi .u8 (.t 173)⟩, ⟨(some 175), none, .mv (.t 12)⟩, ⟨(some 176), none, .cvi .u8 (.t 175)⟩, ⟨(some 177), none, .row 1 2 [(.v (.int .u8 0))] [(0, 1, (.t 174)), (1, 1, (.t 176))]⟩, ⟨(some 178), none, .cvbs (.t 177)⟩, ⟨(some 179), none, .bin .add (.t 171) (.t 178)⟩, ⟨(some 180), none, .fad 2 (.t 11)⟩, ⟨none, none, .store 1 (.t 180) (.t 179)⟩]) (.drop [12, 180])))))
theorem g_fuglemanref14_behind_8 {C : CT} {lf : Nat} {ks : List It} {s : St} : type_of% (@Sym.go_as C lf ks s _ _ c_fuglemanref14_behind_8.eq_1) := Sym.go_as c_fuglemanref14_behind_8.eq_1
def c_fuglemanref14_behind_9 : AC :=
 (.seq (.seq (.seq (.reg [⟨(some 184), none, .mv (.t 13)⟩, ⟨(some 185), none, .bin .eql (.t 184) (.c (.v (.int .i64 0)))⟩]) (.drop [14, 184]))
                               (.cond (.t 185) (.seq (.seq (.reg [⟨(some 186), none, .load (some 3) (.t 11)⟩, ⟨none, none, .store 3 (.t 8) (.t 186)⟩, ⟨(some 9), none, .mv (.c (.v (.int .i64 3)))⟩]) (.drop [10, 186]))
                                 .ret)
                                .skip))
                              (.seq (.seq (.reg [⟨(some 187), none, .fad 2 (.t 7)⟩, ⟨(some 188), none, .load none (.t 187)⟩, ⟨(some 189), none, .mv (.t 13)⟩, ⟨(some 190), none, .bin .mul (.c (.v (.int .i64 2))) (.t 189)⟩, ⟨(some 191), none, .bin .sub (.t 190) (.c (.v (.int .i64 2)))⟩, ⟨(some 192), none, .slstr (.t 188) (some (.t 191)) none⟩, ⟨(some 14), none, .mv (.t 192)⟩]) (.drop [15, 192]))
                               (.seq (.seq (.seq (.reg [⟨(some 193), none, .mv (.t 12)⟩, ⟨(some 194), none, .mv (.t 14)⟩, ⟨(some 195), none, .ixstr (.t 194) (.c (.v (.int .i64 1)))⟩, ⟨(some 196), none, .cvi .i64 (.t 195)⟩, ⟨(some 197), none, .bin .neq (.t 193) (.t 196)⟩]) (.drop [15, 196]))
                                 (.cond (.t 197) (.seq (.seq (.reg [⟨(some 198), none, .load (some 3) (.t 11)⟩, ⟨none, none, .store 3 (.t 8) (.t 198)⟩, ⟨(some 9), none, .mv (.c (.v (.int .i64 6)))⟩]) (.drop [10, 198]))
                                   .ret)
                                  .skip))
                                (.seq (.seq (.seq (.reg [⟨(some 199), none, .mv (.t 14)⟩, ⟨(some 200), none, .ixstr (.t 199) (.c (.v (.int .i64 0)))⟩, ⟨(some 201), none, .bin .geq (.t 200) (.c (.v (.int .u8 19)))⟩]) (.drop [14, 200]))
                                  (.cond (.t 201) (.seq (.reg [⟨(some 202), none, .fad 1 (.t 11)⟩, ⟨none, none, .store 1 (.t 202) (.c (.v (.int .i64 1)))⟩]) (.drop [14, 202]))
                                   .skip))
                                 (.seq (.reg [⟨(some 203), none, .fad 2 (.t 7)⟩, ⟨(some 204), none, .load none (.t 203)⟩, ⟨(some 205), none, .mv (.t 13)⟩, ⟨(some 206), none, .bin .mul (.c (.v (.int .i64 2))) (.t 205)⟩, ⟨(some 207), none, .bin .sub (.t 206) (.c (.v (.int .i64 2)))⟩, ⟨(some 208), none, .slstr (.t 204) none (some (.t 207))⟩, ⟨(some 209), none, .fad 2 (.t 11)⟩, ⟨none, none, .store 1 (.t 209) (.t 208)⟩]) (.drop [12, 209]))))))
theorem g_fuglemanref14_behind_9 {C : CT} {lf : Nat} {ks : List It} {s : St} : type_of% (@Sym.go_as C lf ks s _ _ c_fuglemanref14_behind_9.eq_1) := Sym.go_as c_fuglemanref14_behind_9.eq_1
def c_fuglemanref14_behind_10 : AC :=
 (.seq (.seq (.reg [⟨(some 211), none, .mv (.t 12)⟩, ⟨(some 212), none, .bin .neq (.t 211) (.c (.v (.int .i64 1)))⟩, ⟨(some 210), none, .mv (.t 212)⟩]) (.drop [211, 212]))
                              (.cond (.t 210) (.seq (.seq (.reg [⟨(some 213), none, .load (some 3) (.t 11)⟩, ⟨none, none, .store 3 (.t 8) (.t 213)⟩, ⟨(some 9), none, .mv (.c (.v (.int .i64 6)))⟩]) (.drop [10, 213]))
                                .ret)
                               .skip))
theorem g_fuglemanref14_behind_10 {C : CT} {lf : Nat} {ks : List It} {s : St} : type_of% (@Sym.go_as C lf ks s _ _ c_fuglemanref14_behind_10.eq_1) := Sym.go_as c_fuglemanref14_behind_10.eq_1
def c_fuglemanref14_behind_11 : AC :=
 (.seq (.seq (.reg [⟨(some 182), none, .mv (.t 10)⟩, ⟨(some 183), none, .bin .eql (.t 182) (.c (.v (.int .i64 33)))⟩, ⟨(some 181), none, .mv (.t 183)⟩]) (.drop [182, 183]))
                            (.cond (.t 181) c_fuglemanref14_behind_9
                             c_fuglemanref14_behind_10))
theorem g_fuglemanref14_behind_11 {C : CT} {lf : Nat} {ks : List It} {s : St} : type_of% (@Sym.go_as C lf ks s _ _ c_fuglemanref14_behind_11.eq_1) := Sym.go_as c_fuglemanref14_behind_11.eq_1
def c_fuglemanref14_behind_12 : AC :=
 (.seq (.seq (.reg [⟨(some 158), none, .mv (.t 10)⟩, ⟨(some 159), none, .bin .eql (.t 158) (.c (.v (.int .i64 32)))⟩, ⟨(some 157), none, .mv (.t 159)⟩]) (.drop [158, 159]))
                          (.cond (.t 157) c_fuglemanref14_behind_8
                           c_fuglemanref14_behind_11))
theorem g_fuglemanref14_behind_12 {C : CT} {lf : Nat} {ks : List It} {s : St} : type_of% (@Sym.go_as C lf ks s _ _ c_fuglemanref14_behind_12.eq_1) := Sym.go_as c_fuglemanref14_behind_12.eq_1
def c_fuglemanref14_behind_13 : AC :=
 (.seq (.seq (.reg [⟨(some 149), none, .mv (.t 10)⟩, ⟨(some 150), none, .bin .eql (.t 149) (.c (.v (.int .i64 31)))⟩, ⟨(some 148), none, .mv (.t 150)⟩]) (.drop [149, 150]))
                        (.cond (.t 148) c_fuglemanref14_behind_7
                         c_fuglemanref14_behind_12))
theorem g_fuglemanref14_behind_13 {C : CT} {lf : Nat} {ks : List It} {s : St} : type_of% (@Sym.go_as C lf ks s _ _ c_fuglemanref14_behind_13.eq_1) := Sym.go_as c_fuglemanref14_behind_13.eq_1
def c_fuglemanref14_behind_14 : AC :=
 (.seq (.seq (.reg [⟨(some 132), none, .mv (.t 10)⟩, ⟨(some 133), none, .bin .geq (.t 132) (.c (.v (.int .i64 28)))⟩, ⟨(some 134), none, .mv (.t 133)⟩, ⟨(some 135), (some (134, true)), .mv (.t 10)⟩, ⟨(some 136), (some (134, true)), .bin .leq (.t 135) (.c (.v (.int .i64 30)))⟩, ⟨(some 137), none, .pick (.t 134) (.t 136) (.c (.v (.bool false)))⟩, ⟨(some 131), none, .mv (.t 137)⟩]) (.drop [132, 137]))
                      (.cond (.t 131) c_fuglemanref14_behind_6
                       c_fuglemanref14_behind_13))
theorem g_fuglemanref14_behind_14 {C : CT} {lf : Nat} {ks : List It} {s : St} : type_of% (@Sym.go_as C lf ks s _ _ c_fuglemanref14_behind_14.eq_1) := Sym.go_as c_fuglemanref14_behind_14.eq_1
def c_fuglemanref14_behind_15 : AC :=
 (.seq (.seq (.reg [⟨(some 107), none, .mv (.t 10)⟩, ⟨(some 108), none, .bin .geq (.t 107) (.c (.v (.int .i64 25)))⟩, ⟨(some 109), none, .mv (.t 108)⟩, ⟨(some 110), (some (109, true)), .mv (.t 10)⟩, ⟨(some 111), (some (109, true)), .bin .leq (.t 110) (.c (.v (.int .i64 27)))⟩, ⟨(some 112), none, .pick (.t 109) (.t 111) (.c (.v (.bool false)))⟩, ⟨(some 106), none, .mv (.t 112)⟩]) (.drop [107, 112]))
                    (.cond (.t 106) c_fuglemanref14_behind_5
                     c_fuglemanref14_behind_14))
theorem g_fuglemanref14_behind_15 {C : CT} {lf : Nat} {ks : List It} {s : St} : type_of% (@Sym.go_as C lf ks s _ _ c_fuglemanref14_behind_15.eq_1) := Sym.go_as c_fuglemanref14_behind_15.eq_1
def c_fuglemanref14_behind_16 : AC :=
 (.seq (.seq (.reg [⟨(some 86), none, .mv (.t 10)⟩, ⟨(some 87), none, .bin .geq (.t 86) (.c (.v (.int .i64 7)))⟩, ⟨(some 88), none, .mv (.t 87)⟩, ⟨(some 89), (some (88, true)), .mv (.t 10)⟩, ⟨(some 90), (some (88, true)), .bin .leq (.t 89) (.c (.v (.int .i64 24)))⟩, ⟨(some 91), none, .pick (.t 88) (.t 90) (.c (.v (.bool false)))⟩, ⟨(some 85), none, .mv (.t 91)⟩]) (.drop [86, 91]))
                  (.cond (.t 85) c_fuglemanref14_behind_4
                   c_fuglemanref14_behind_15))
theorem g_fuglemanref14_behind_16 {C : CT} {lf : Nat} {ks : List It} {s : St} : type_of% (@Sym.go_as C lf ks s _ _ c_fuglemanref14_behind_16.eq_1) := Sym.go_as c_fuglemanref14_behind_16.eq_1
def c_fuglemanref14_behind_17 : AC :=
 (.seq (.seq (.reg [⟨(some 79), none, .mv (.t 10)⟩, ⟨(some 80), none, .bin .eql (.t 79) (.c (.v (.int .i64 13)))⟩, ⟨(some 78), none, .mv (.t 80)⟩]) (.drop [79, 80]))
                (.cond (.t 78) c_fuglemanref14_behind_3
                 c_fuglemanref14_behind_16))
theorem g_fuglemanref14_behind_17 {C : CT} {lf : Nat} {ks : List It} {s : St} : type_of% (@Sym.go_as C lf ks s _ _ c_fuglemanref14_behind_17.eq_1) := Sym.go_as c_fuglemanref14_behind_17.eq_1
def c_fuglemanref14_behind_18 : AC :=
 (.seq (.seq (.reg [⟨(some 64), none, .mv (.t 10)⟩, ⟨(some 65), none, .bin .eql (.t 64) (.c (.v (.int .i64 5)))⟩, ⟨(some 66), none, .mv (.t 65)⟩, ⟨(some 67), (some (66, false)), .mv (.t 10)⟩, ⟨(some 68), (some (66, false)), .bin .eql (.t 67) (.c (.v (.int .i64 6)))⟩, ⟨(some 69), none, .pick (.t 66) (.c (.v (.bool true))) (.t 68)⟩, ⟨(some 63), none, .mv (.t 69)⟩]) (.drop [64, 69]))
              (.cond (.t 63) c_fuglemanref14_behind_2
               c_fuglemanref14_behind_17))
theorem g_fuglemanref14_behind_18 {C : CT} {lf : Nat} {ks : List It} {s : St} : type_of% (@Sym.go_as C lf ks s _ _ c_fuglemanref14_behind_18.eq_1) := Sym.go_as c_fuglemanref14_behind_18.eq_1
def c_fuglemanref14_behind_19 : AC :=
 (.seq (.seq (.reg [⟨(some 42), none, .mv (.t 10)⟩, ⟨(some 43), none, .bin .eql (.t 42) (.c (.v (.int .i64 3)))⟩, ⟨(some 44), none, .mv (.t 43)⟩, ⟨(some 45), (some (44, false)), .mv (.t 10)⟩, ⟨(some 46), (some (44, false)), .bin .eql (.t 45) (.c (.v (.int .i64 4)))⟩, ⟨(some 47), none, .pick (.t 44) (.c (.v (.bool true))) (.t 46)⟩, ⟨(some 41), none, .mv (.t 47)⟩]) (.drop [42, 47]))
            (.cond (.t 41) c_fuglemanref14_behind_1
             c_fuglemanref14_behind_18))
theorem g_fuglemanref14_behind_19 {C : CT} {lf : Nat} {ks : List It} {s : St} : type_of% (@Sym.go_as C lf ks s _ _ c_fuglemanref14_behind_19.eq_1) := Sym.go_as c_fuglemanref14_behind_19.eq_1
def c_fuglemanref14_behind_20 : AC :=
 (.seq (.seq (.reg [⟨(some 31), none, .mv (.t 10)⟩, ⟨(some 32), none, .bin .eql (.t 31) (.c (.v (.int .i64 2)))⟩, ⟨(some 30), none, .mv (.t 32)⟩]) (.drop [31, 32]))
          (.cond (.t 30) c_fuglemanref14_behind_0
           c_fuglemanref14_behind_19))
theorem g_fuglemanref14_behind_20 {C : CT} {lf : Nat} {ks : List It} {s : St} : type_of% (@Sym.go_as C lf ks s _ _ c_fuglemanref14_behind_20.eq_1) := Sym.go_as c_fuglemanref14_behind_20.eq_1
def b_fuglemanref14_behind : AC :=
 (.seq (.seq (.reg [⟨(some 4), none, .box (.t 0)⟩, ⟨(some 7), none, .box (.t 3)⟩, ⟨(some 8), none, .alloc [(.v (.bool false)), (.v (.int .i64 0)), (.v (.string ⟨#[]⟩))]⟩, ⟨(some 9), none, .mv (.c (.v (.int .i64 0)))⟩]) (.drop [9, 9]))
 (.seq (.seq (.reg [⟨(some 15), none, .fad 0 (.t 4)⟩, ⟨(some 16), none, .load none (.t 15)⟩, ⟨(some 10), none, .mv (.t 16)⟩]) (.drop [11, 16]))
  (.seq (.seq (.reg [⟨(some 17), none, .load (some 3) (.t 7)⟩, ⟨(some 11), none, .alloc [(.v (.bool false)), (.v (.int .i64 0)), (.v (.string ⟨#[]⟩))]⟩, ⟨none, none, .store 3 (.t 11) (.t 17)⟩]) (.drop [12, 17]))
   (.seq (.seq (.reg [⟨(some 18), none, .fad 1 (.t 7)⟩, ⟨(some 19), none, .load none (.t 18)⟩, ⟨(some 12), none, .mv (.t 19)⟩]) (.drop [13, 19]))
    (.seq (.seq (.reg [⟨(some 20), none, .fad 2 (.t 7)⟩, ⟨(some 21), none, .load none (.t 20)⟩, ⟨(some 22), none, .lens (.t 21)⟩, ⟨(some 23), none, .bin .quo (.t 22) (.c (.v (.int .i64 2)))⟩, ⟨(some 13), none, .mv (.t 23)⟩]) (.drop [14, 23]))
     (.seq (.block 0 (.seq (.seq (.reg [⟨(some 25), none, .mv (.t 10)⟩, ⟨(some 26), none, .bin .eql (.t 25) (.c (.v (.int .i64 1)))⟩, ⟨(some 24), none, .mv (.t 26)⟩]) (.drop [25, 26]))
        (.cond (.t 24) (.seq (.reg [⟨(some 27), none, .fad 1 (.t 4)⟩, ⟨(some 28), none, .load none (.t 27)⟩, ⟨(some 29), none, .fad 1 (.t 11)⟩, ⟨none, none, .store 1 (.t 29) (.t 28)⟩]) (.drop [12, 29]))
         c_fuglemanref14_behind_20)))
      (.seq (.seq (.reg [⟨(some 214), none, .load (some 3) (.t 11)⟩, ⟨none, none, .store 3 (.t 8) (.t 214)⟩, ⟨(some 9), none, .mv (.c (.v (.int .i64 0)))⟩]) (.drop [10, 214]))
       .ret)))))))
def a_fuglemanref14_behind : AFn := ⟨4, b_fuglemanref14_behind, [.cell 8 (some 3), .t 9], false, false⟩
theorem a_fuglemanref14_behind_ok : compF Try.prog Try.f15 [[9, 9], [11, 16], [12, 17], [13, 19], [14, 23], [25, 26], [12, 29], [31, 32], [12, 35], [10, 37], [12, 40], [42, 47], [12, 60], [10, 62], [64, 69], [12, 75], [10, 77], [79, 80], [12, 82], [10, 84], [86, 91], [12, 100], [10, 102], [12, 103], [12, 105], [107, 112], [13, 121], [10, 123], [12, 128], [10, 130], [132, 137], [14, 142], [10, 144], [12, 145], [10, 147], [149, 150], [12, 151], [10, 153], [12, 156], [158, 159], [14, 163], [10, 165], [13, 166], [10, 168], [13, 169], [12, 180], [182, 183], [14, 184], [10, 186], [15, 192], [15, 196], [10, 198], [14, 200], [14, 202], [12, 209], [211, 212], [10, 213], [10, 214]] false false hv = some a_fuglemanref14_behind := by kernel_rfl

/-! fugleman/fuglemanref14.join: 16 -/
def b_fuglemanref14_join : AC :=
 (.seq (.seq (.reg [⟨(some 2), none, .box (.t 0)⟩, ⟨(some 3), none, .box (.t 1)⟩, ⟨(some 4), none, .alloc [(.v (.bool false)), (.v (.int .i64 0)), (.v (.string ⟨#[]⟩))]⟩, ⟨(some 5), none, .mv (.c (.v (.bool false)))⟩]) (.drop [5, 5]))
 (.seq (.seq (.seq (.reg [⟨(some 6), none, .fad 0 (.t 2)⟩, ⟨(some 7), none, .load none (.t 6)⟩, ⟨(some 8), none, .un .not (.t 7)⟩]) (.drop [5, 7]))
   (.cond (.t 8) (.seq (.seq (.reg [⟨(some 9), none, .load (some 3) (.t 3)⟩, ⟨none, none, .store 3 (.t 4) (.t 9)⟩, ⟨(some 5), none, .mv (.c (.v (.bool true)))⟩]) (.drop [6, 9]))
     .ret)
    .skip))
  (.seq (.seq (.seq (.reg [⟨(some 10), none, .fad 1 (.t 2)⟩, ⟨(some 11), none, .load none (.t 10)⟩, ⟨(some 12), none, .fad 1 (.t 3)⟩, ⟨(some 13), none, .load none (.t 12)⟩, ⟨(some 14), none, .bin .neq (.t 11) (.t 13)⟩]) (.drop [5, 13]))
    (.cond (.t 14) (.seq (.reg [⟨(some 15), none, .fad 1 (.t 2)⟩, ⟨none, none, .store 1 (.t 15) (.c (.v (.int .i64 0)))⟩]) (.drop [5, 15]))
     .skip))
   (.seq (.seq (.regs 6 [⟨(some 16), none, .load (some 3) (.t 2)⟩, ⟨(some 17), none, .fad 2 (.t 2)⟩, ⟨(some 18), none, .load none (.t 17)⟩, ⟨(some 19), none, .fad 2 (.t 3)⟩, ⟨(some 20), none, .load none (.t 19)⟩, ⟨(some 21), none, .bin .eql (.t 18) (.t 20)⟩, ⟨none, none, .store 3 (.t 4) (.t 16)⟩, ⟨(some 5), none, .mv (.t 21)⟩]) (.drop [6, 21]))
    .ret))))
def a_fuglemanref14_join : AFn := ⟨2, b_fuglemanref14_join, [.cell 4 (some 3), .t 5], false, false⟩
theorem a_fuglemanref14_join_ok : compF Try.prog Try.f16 [[5, 5], [5, 7], [6, 9], [5, 13], [5, 15], [6, 21]] false false hv = some a_fuglemanref14_join := by kernel_rfl

/-! fugleman/fuglemanref14.All: 8 -/
def l_fuglemanref14_All_1 : AC :=
 (.seq (.seq (.seq (.reg [⟨(some 107), none, .mv (.t 6)⟩, ⟨(some 108), none, .mv (.t 5)⟩, ⟨(some 109), none, .ixs 3 (.t 107) (.t 108)⟩, ⟨(some 110), none, .fad 0 (.t 109)⟩, ⟨(some 111), none, .load none (.t 110)⟩, ⟨(some 112), none, .mv (.t 111)⟩, ⟨(some 113), (some (112, true)), .mv (.t 6)⟩, ⟨(some 114), (some (112, true)), .mv (.t 5)⟩, ⟨(some 115), (some (112, true)), .ixs 3 (.t 113) (.t 114)⟩, ⟨(some 116), (some (112, true)), .fad 2 (.t 115)⟩, ⟨(some 117), (some (112, true)), .load none (.t 116)⟩, ⟨(some 118), (some (112, true)), .bin .neq (.t 117) (.c (.v (.string ⟨#[]⟩)))⟩, ⟨(some 119), none, .pick (.t 112) (.t 118) (.c (.v (.bool false)))⟩]) (.drop [7, 118]))
  (.cond (.t 119) (.seq (.seq (.reg [⟨(some 120), none, .mv (.t 5)⟩, ⟨(some 2), none, .mv (.c (.v (.slice none 0 0)))⟩, ⟨(some 3), none, .mv (.c (.v (.int .i64 3)))⟩, ⟨(some 4), none, .mv (.t 120)⟩]) (.drop [5, 120]))
    .ret)
   .skip))
 (.seq (.seq (.reg [⟨(some 121), none, .mv (.t 6)⟩, ⟨(some 2), none, .mv (.t 121)⟩, ⟨(some 3), none, .mv (.c (.v (.int .i64 0)))⟩, ⟨(some 4), none, .mv (.c (.v (.int .i64 0)))⟩]) (.drop [5, 121]))
  .ret))
def c_fuglemanref14_All_0 : AC :=
 (.seq (.regm [(.o, ⟨(some 66), none, .mv (.t 6)⟩), (.o, ⟨(some 67), none, .mv (.t 7)⟩), (.o, ⟨(some 68), none, .bin .add (.t 67) (.c (.v (.int .i64 1)))⟩), (.o, ⟨(some 69), none, .mv (.t 6)⟩), (.o, ⟨(some 70), none, .mv (.t 7)⟩), (.o, ⟨(some 71), none, .bin .add (.t 70) (.c (.v (.int .i64 1)))⟩), (.o, ⟨(some 72), none, .ixs 3 (.t 69) (.t 71)⟩), (.o, ⟨(some 73), none, .load (some 3) (.t 72)⟩), (.o, ⟨(some 74), none, .load (some 3) (.t 9)⟩), (.m, ⟨(some 75), none, .call (.c (.fn 16 [])) [(.t 73), (.t 74)]⟩), (.o, ⟨(some 65), none, .mv (.t 75)⟩), (.o, ⟨(some 76), none, .ext 0 (.t 65)⟩), (.o, ⟨(some 77), none, .ext 1 (.t 65)⟩), (.o, ⟨(some 78), none, .ixs 3 (.t 66) (.t 68)⟩), (.o, ⟨none, none, .store 3 (.t 78) (.t 76)⟩), (.o, ⟨(some 11), none, .mv (.t 77)⟩)]) (.drop [12, 78]))
theorem g_fuglemanref14_All_0 {C : CT} {lf : Nat} {ks : List It} {s : St} : type_of% (@Sym.go_as C lf ks s _ _ c_fuglemanref14_All_0.eq_1) := Sym.go_as c_fuglemanref14_All_0.eq_1
def c_fuglemanref14_All_1 : AC :=
 (.seq (.regm [(.o, ⟨(some 91), none, .mv (.t 6)⟩), (.o, ⟨(some 92), none, .fad 3 (.t 8)⟩), (.o, ⟨(some 93), none, .load none (.t 92)⟩), (.o, ⟨(some 94), none, .mv (.t 6)⟩), (.o, ⟨(some 95), none, .fad 3 (.t 8)⟩), (.o, ⟨(some 96), none, .load none (.t 95)⟩), (.o, ⟨(some 97), none, .ixs 3 (.t 94) (.t 96)⟩), (.o, ⟨(some 98), none, .load (some 3) (.t 97)⟩), (.o, ⟨(some 99), none, .load (some 3) (.t 9)⟩), (.m, ⟨(some 100), none, .call (.c (.fn 16 [])) [(.t 98), (.t 99)]⟩), (.o, ⟨(some 90), none, .mv (.t 100)⟩), (.o, ⟨(some 101), none, .ext 0 (.t 90)⟩), (.o, ⟨(some 102), none, .ext 1 (.t 90)⟩), (.o, ⟨(some 103), none, .ixs 3 (.t 91) (.t 93)⟩), (.o, ⟨none, none, .store 3 (.t 103) (.t 101)⟩), (.o, ⟨(some 11), none, .mv (.t 102)⟩)]) (.drop [12, 103]))
theorem g_fuglemanref14_All_1 {C : CT} {lf : Nat} {ks : List It} {s : St} : type_of% (@Sym.go_as C lf ks s _ _ c_fuglemanref14_All_1.eq_1) := Sym.go_as c_fuglemanref14_All_1.eq_1
def l_fuglemanref14_All_0 : AC :=
 (.seq (.seq (.seq (.reg [⟨(some 23), none, .mv (.t 7)⟩, ⟨(some 24), none, .mv (.t 5)⟩, ⟨(some 25), none, .bin .lss (.t 23) (.t 24)⟩]) (.drop [8, 24]))
  (.cond (.t 25) .skip
   (.exit 0)))
 (.seq (.block 1 (.seq (.seq (.reg [⟨(some 28), none, .mv (.t 0)⟩, ⟨(some 29), none, .mv (.t 7)⟩, ⟨(some 30), none, .ixs 5 (.t 28) (.t 29)⟩, ⟨(some 31), none, .load (some 5) (.t 30)⟩, ⟨(some 8), none, .alloc [(.v (.int .i64 0)), (.v (.int .i64 0)), (.v (.int .i64 0)), (.v (.int .i64 0)), (.v (.int .i64 0))]⟩, ⟨none, none, .store 5 (.t 8) (.t 31)⟩]) (.drop [9, 31]))
    (.seq (.seq (.seq (.reg [⟨(some 32), none, .load (some 5) (.t 8)⟩, ⟨(some 33), none, .call (.c (.fn 10 [])) [(.t 32)]⟩, ⟨(some 34), none, .un .not (.t 33)⟩]) (.drop [9, 33]))
      (.cond (.t 34) (.seq (.seq (.reg [⟨(some 35), none, .mv (.t 7)⟩, ⟨(some 2), none, .mv (.c (.v (.slice none 0 0)))⟩, ⟨(some 3), none, .mv (.c (.v (.int .i64 3)))⟩, ⟨(some 4), none, .mv (.t 35)⟩]) (.drop [5, 35]))
        .ret)
       .skip))
     (.seq (.seq (.seq (.reg [⟨(some 36), none, .mv (.t 6)⟩, ⟨(some 37), none, .mv (.t 7)⟩, ⟨(some 38), none, .ixs 3 (.t 36) (.t 37)⟩, ⟨(some 39), none, .fad 0 (.t 38)⟩, ⟨(some 40), none, .load none (.t 39)⟩, ⟨(some 41), none, .un .not (.t 40)⟩]) (.drop [9, 40]))
       (.cond (.t 41) (.exit 1)
        .skip))
      (.seq (.seq (.regx (.op .o ⟨(some 43), none, .load (some 5) (.t 8)⟩
          (.op .o ⟨(some 44), none, .mv (.t 7)⟩
           (.op .o ⟨(some 45), none, .mv (.t 5)⟩
            (.op .o ⟨(some 46), none, .mv (.t 6)⟩
             (.op .o ⟨(some 47), none, .mv (.t 7)⟩
              (.op .o ⟨(some 48), none, .ixs 3 (.t 46) (.t 47)⟩
               (.op .o ⟨(some 49), none, .load (some 3) (.t 48)⟩
                (.alt (.op .m ⟨(some 50), none, .call (.c (.fn 15 [])) [(.t 43), (.t 44), (.t 45), (.t 49)]⟩
                  (.op .o ⟨(some 42), none, .mv (.t 50)⟩
                   (.op .o ⟨(some 51), none, .ext 0 (.t 42)⟩
                    (.op .o ⟨(some 52), none, .ext 1 (.t 42)⟩
                     (.op .o ⟨(some 9), none, .alloc [(.v (.bool false)), (.v (.int .i64 0)), (.v (.string ⟨#[]⟩))]⟩
                      (.op .o ⟨none, none, .store 3 (.t 9) (.t 51)⟩
                       (.op .o ⟨(some 10), none, .mv (.t 52)⟩
                        .nil)))))))
                 (.op .o ⟨(some 9), none, .alloc [(.v (.bool false)), (.v (.int .i64 0)), (.v (.string ⟨#[]⟩))]⟩
                  (.op .m ⟨(some 50), none, .call (.c (.fn 15 [])) [(.t 43), (.t 44), (.t 45), (.t 49)]⟩
                   (.op .o ⟨(some 42), none, .mv (.t 50)⟩
                    (.op .o ⟨(some 51), none, .ext 0 (.t 42)⟩
                     (.op .o ⟨(some 52), none, .ext 1 (.t 42)⟩
                      (.op .o ⟨none, none, .store 3 (.t 9) (.t 51)⟩
                       (.op .o ⟨(some 10), none, .mv (.t 52)⟩
                        .nil)))))))))))))))) (.drop [11, 52]))
       (.seq (.seq (.seq (.reg [⟨(some 53), none, .mv (.t 10)⟩, ⟨(some 54), none, .bin .neq (.t 53) (.c (.v (.int .i64 0)))⟩]) (.drop [11, 53]))
         (.cond (.t 54) (.seq (.seq (.reg [⟨(some 55), none, .mv (.t 10)⟩, ⟨(some 56), none, .mv (.t 7)⟩, ⟨(some 2), none, .mv (.c (.v (.slice none 0 0)))⟩, ⟨(some 3), none, .mv (.t 55)⟩, ⟨(some 4), none, .mv (.t 56)⟩]) (.drop [5, 56]))
           .ret)
          .skip))
        (.seq (.seq (.reg [⟨(some 11), none, .mv (.c (.v (.bool true)))⟩]) (.drop []))
         (.seq (.seq (.seq (.reg [⟨(some 57), none, .fad 0 (.t 8)⟩, ⟨(some 58), none, .load none (.t 57)⟩, ⟨(some 59), none, .bin .neq (.t 58) (.c (.v (.int .i64 25)))⟩, ⟨(some 60), none, .mv (.t 59)⟩, ⟨(some 61), (some (60, true)), .fad 0 (.t 8)⟩, ⟨(some 62), (some (60, true)), .load none (.t 61)⟩, ⟨(some 63), (some (60, true)), .bin .neq (.t 62) (.c (.v (.int .i64 28)))⟩, ⟨(some 64), none, .pick (.t 60) (.t 63) (.c (.v (.bool false)))⟩]) (.drop [12, 63]))
           (.cond (.t 64) c_fuglemanref14_All_0
            .skip))
          (.seq (.seq (.seq (.reg [⟨(some 79), none, .mv (.t 11)⟩, ⟨(some 80), none, .mv (.t 79)⟩, ⟨(some 81), (some (80, true)), .fad 0 (.t 8)⟩, ⟨(some 82), (some (80, true)), .load none (.t 81)⟩, ⟨(some 83), (some (80, true)), .bin .geq (.t 82) (.c (.v (.int .i64 25)))⟩, ⟨(some 84), none, .pick (.t 80) (.t 83) (.c (.v (.bool false)))⟩, ⟨(some 85), none, .mv (.t 84)⟩, ⟨(some 86), (some (85, true)), .fad 0 (.t 8)⟩, ⟨(some 87), (some (85, true)), .load none (.t 86)⟩, ⟨(some 88), (some (85, true)), .bin .leq (.t 87) (.c (.v (.int .i64 27)))⟩, ⟨(some 89), none, .pick (.t 85) (.t 88) (.c (.v (.bool false)))⟩]) (.drop [12, 88]))
            (.cond (.t 89) c_fuglemanref14_All_1
             .skip))
           (.seq (.seq (.reg [⟨(some 104), none, .mv (.t 11)⟩, ⟨(some 105), none, .un .not (.t 104)⟩]) (.drop [8, 104]))
            (.cond (.t 105) (.seq (.seq (.reg [⟨(some 106), none, .mv (.t 7)⟩, ⟨(some 2), none, .mv (.c (.v (.slice none 0 0)))⟩, ⟨(some 3), none, .mv (.c (.v (.int .i64 7)))⟩, ⟨(some 4), none, .mv (.t 106)⟩]) (.drop [5, 106]))
              .ret)
             .skip)))))))))))
  (.seq (.reg [⟨(some 26), none, .mv (.t 7)⟩, ⟨(some 27), none, .bin .add (.t 26) (.c (.v (.int .i64 1)))⟩, ⟨(some 7), none, .mv (.t 27)⟩]) (.drop [8, 27]))))
def b_fuglemanref14_All : AC :=
 (.seq (.seq (.reg [⟨(some 2), none, .mv (.c (.v (.slice none 0 0)))⟩, ⟨(some 3), none, .mv (.c (.v (.int .i64 0)))⟩, ⟨(some 4), none, .mv (.c (.v (.int .i64 0)))⟩]) (.drop [1, 4]))
 (.seq (.seq (.seq (.reg [⟨(some 12), none, .mv (.t 0)⟩, ⟨(some 13), none, .len (.t 12)⟩, ⟨(some 14), none, .bin .gtr (.t 13) (.c (.v (.int .i64 200)))⟩]) (.drop [1, 13]))
   (.cond (.t 14) (.seq (.seq (.reg [⟨(some 2), none, .mv (.c (.v (.slice none 0 0)))⟩, ⟨(some 3), none, .mv (.c (.v (.int .i64 2)))⟩, ⟨(some 4), none, .mv (.c (.v (.int .i64 200)))⟩]) (.drop []))
     .ret)
    .skip))
  (.seq (.seq (.reg [⟨(some 15), none, .mv (.t 0)⟩, ⟨(some 16), none, .len (.t 15)⟩, ⟨(some 5), none, .mv (.t 16)⟩]) (.drop [6, 16]))
   (.seq (.seq (.reg [⟨(some 17), none, .mv (.t 5)⟩, ⟨(some 18), none, .bin .add (.t 17) (.c (.v (.int .i64 1)))⟩, ⟨(some 19), none, .mks 3 32 [(.v (.bool false)), (.v (.int .i64 0)), (.v (.string ⟨#[]⟩))] (.t 18) (.t 18)⟩, ⟨(some 6), none, .mv (.t 19)⟩]) (.drop [7, 19]))
    (.seq (.seq (.reg [⟨(some 20), none, .mv (.t 6)⟩, ⟨(some 21), none, .ixs 3 (.t 20) (.c (.v (.int .i64 0)))⟩, ⟨(some 22), none, .fad 0 (.t 21)⟩, ⟨none, none, .store 1 (.t 22) (.c (.v (.bool true)))⟩]) (.drop [7, 22]))
     (.seq (.seq (.seq (.reg [⟨(some 7), none, .mv (.c (.v (.int .i64 0)))⟩]) (.drop []))
       (.block 0 (.loop [0, 5, 6, 7] l_fuglemanref14_All_0)))
      l_fuglemanref14_All_1))))))
def a_fuglemanref14_All : AFn := ⟨1, b_fuglemanref14_All, [.t 2, .t 3, .t 4], false, false⟩
theorem a_fuglemanref14_All_ok : compF Try.prog Try.f8 [[1, 4], [1, 13], [], [6, 16], [7, 19], [7, 22], [], [0, 5, 6, 7], [8, 24], [9, 31], [9, 33], [5, 35], [9, 40], [11, 52], [11, 53], [5, 56], [], [12, 63], [12, 78], [12, 88], [12, 103], [8, 104], [5, 106], [8, 27], [7, 118], [5, 120], [5, 121]] false false hv = some a_fuglemanref14_All := by kernel_rfl

/-! fugleman/fuglemanlaw14.VerifyChecks: 3 -/
def l_fuglemanlaw14_VerifyChecks_1 : AC :=
 (.seq (.seq (.reg [⟨(some 79), none, .mv (.t 8)⟩, ⟨(some 80), none, .len (.t 79)⟩, ⟨(some 81), none, .mv (.t 0)⟩, ⟨(some 82), none, .len (.t 81)⟩, ⟨(some 83), none, .bin .eql (.t 80) (.t 82)⟩, ⟨(some 2), none, .mv (.t 83)⟩]) (.drop [3, 83]))
 .ret)
def l_fuglemanlaw14_VerifyChecks_0 : AC :=
 (.seq (.seq (.reg [⟨(some 53), none, .bin .lss (.t 52) (.t 51)⟩]) (.drop []))
 (.seq (.cond (.t 53) .skip
   (.exit 0))
  (.seq (.block 1 (.seq (.seq (.reg [⟨(some 54), none, .mv (.t 52)⟩, ⟨(some 10), none, .mv (.t 54)⟩]) (.drop [53, 54]))
     (.seq (.seq (.reg [⟨(some 55), none, .mv (.t 5)⟩, ⟨(some 56), none, .mv (.t 10)⟩, ⟨(some 57), none, .ixs 3 (.t 55) (.t 56)⟩, ⟨(some 58), none, .fad 1 (.t 57)⟩, ⟨(some 59), none, .load none (.t 58)⟩, ⟨(some 11), none, .mv (.t 59)⟩]) (.drop [53, 59]))
      (.seq (.seq (.seq (.reg [⟨(some 60), none, .mv (.t 5)⟩, ⟨(some 61), none, .mv (.t 10)⟩, ⟨(some 62), none, .ixs 3 (.t 60) (.t 61)⟩, ⟨(some 63), none, .fad 0 (.t 62)⟩, ⟨(some 64), none, .load none (.t 63)⟩, ⟨(some 65), none, .un .not (.t 64)⟩]) (.drop [53, 64]))
        (.cond (.t 65) (.seq (.reg [⟨(some 11), none, .mv (.c (.v (.int .i64 (-1))))⟩]) (.drop []))
         .skip))
       (.seq (.seq (.reg [⟨(some 66), none, .mv (.t 10)⟩, ⟨(some 67), none, .mv (.t 8)⟩, ⟨(some 68), none, .len (.t 67)⟩, ⟨(some 69), none, .bin .geq (.t 66) (.t 68)⟩, ⟨(some 70), none, .mv (.t 69)⟩, ⟨(some 71), (some (70, false)), .mv (.t 8)⟩, ⟨(some 72), (some (70, false)), .mv (.t 10)⟩, ⟨(some 73), (some (70, false)), .ixs 1 (.t 71) (.t 72)⟩, ⟨(some 74), (some (70, false)), .load none (.t 73)⟩, ⟨(some 75), (some (70, false)), .mv (.t 11)⟩, ⟨(some 76), (some (70, false)), .bin .neq (.t 74) (.t 75)⟩, ⟨(some 77), none, .pick (.t 70) (.c (.v (.bool true))) (.t 76)⟩]) (.drop [53, 76]))
        (.cond (.t 77) (.seq (.seq (.reg [⟨(some 2), none, .mv (.c (.v (.bool false)))⟩]) (.drop []))
          .ret)
         .skip))))))
   (.seq (.reg [⟨(some 78), none, .bin .add (.t 52) (.c (.v (.int .i64 1)))⟩, ⟨(some 52), none, .mv (.t 78)⟩]) (.drop [53, 78])))))
def b_fuglemanlaw14_VerifyChecks : AC :=
 (.seq (.seq (.reg [⟨(some 2), none, .mv (.c (.v (.bool false)))⟩]) (.drop [1, 2]))
 (.seq (.seq (.seq (.reg [⟨(some 12), none, .call (.c (.fn 6 [])) []⟩, ⟨(some 13), none, .un .not (.t 12)⟩]) (.drop [1, 12]))
   (.cond (.t 13) (.seq (.seq (.reg [⟨(some 2), none, .mv (.c (.v (.bool false)))⟩]) (.drop []))
     .ret)
    .skip))
  (.seq (.seq (.seq (.reg [⟨(some 14), none, .mv (.t 0)⟩, ⟨(some 15), none, .len (.t 14)⟩, ⟨(some 16), none, .bin .gtr (.t 15) (.c (.v (.int .i64 210)))⟩]) (.drop [1, 15]))
    (.cond (.t 16) (.seq (.seq (.reg [⟨(some 2), none, .mv (.c (.v (.bool true)))⟩]) (.drop []))
      .ret)
     .skip))
   (.seq (.seq (.reg [⟨(some 18), none, .mv (.t 0)⟩, ⟨(some 19), none, .call (.c (.fn 7 [])) [(.t 18)]⟩, ⟨(some 17), none, .mv (.t 19)⟩, ⟨(some 20), none, .ext 0 (.t 17)⟩, ⟨(some 21), none, .ext 1 (.t 17)⟩, ⟨(some 3), none, .mv (.t 20)⟩, ⟨(some 4), none, .mv (.t 21)⟩]) (.drop [5, 21]))
    (.seq (.seq (.reg [⟨(some 23), none, .mv (.t 0)⟩, ⟨(some 24), none, .call (.c (.fn 8 [])) [(.t 23)]⟩, ⟨(some 22), none, .mv (.t 24)⟩, ⟨(some 25), none, .ext 0 (.t 22)⟩, ⟨(some 26), none, .ext 1 (.t 22)⟩, ⟨(some 27), none, .ext 2 (.t 22)⟩, ⟨(some 5), none, .mv (.t 25)⟩, ⟨(some 6), none, .mv (.t 26)⟩, ⟨(some 7), none, .mv (.t 27)⟩]) (.drop [8, 27]))
     (.seq (.seq (.seq (.reg [⟨(some 28), none, .mv (.t 3)⟩, ⟨(some 29), none, .mv (.t 6)⟩, ⟨(some 30), none, .bin .neq (.t 28) (.t 29)⟩, ⟨(some 31), none, .mv (.t 30)⟩, ⟨(some 32), (some (31, false)), .mv (.t 4)⟩, ⟨(some 33), (some (31, false)), .mv (.t 7)⟩, ⟨(some 34), (some (31, false)), .bin .neq (.t 32) (.t 33)⟩, ⟨(some 35), none, .pick (.t 31) (.c (.v (.bool true))) (.t 34)⟩]) (.drop [7, 34]))
       (.cond (.t 35) (.seq (.seq (.reg [⟨(some 2), none, .mv (.c (.v (.bool false)))⟩]) (.drop []))
         .ret)
        .skip))
      (.seq (.seq (.reg [⟨(some 37), none, .mv (.t 0)⟩, ⟨(some 38), none, .call (.c (.fn 9 [])) [(.t 37)]⟩, ⟨(some 36), none, .mv (.t 38)⟩, ⟨(some 39), none, .ext 0 (.t 36)⟩, ⟨(some 40), none, .ext 1 (.t 36)⟩, ⟨(some 8), none, .mv (.t 39)⟩, ⟨(some 9), none, .mv (.t 40)⟩]) (.drop [10, 40]))
       (.seq (.seq (.seq (.reg [⟨(some 41), none, .mv (.t 9)⟩, ⟨(some 42), none, .mv (.t 6)⟩, ⟨(some 43), none, .bin .eql (.t 42) (.c (.v (.int .i64 0)))⟩, ⟨(some 44), none, .eqb true (.t 41) (.t 43)⟩]) (.drop [10, 43]))
         (.cond (.t 44) (.seq (.seq (.reg [⟨(some 2), none, .mv (.c (.v (.bool false)))⟩]) (.drop []))
           .ret)
          .skip))
        (.seq (.seq (.seq (.reg [⟨(some 45), none, .mv (.t 9)⟩, ⟨(some 46), none, .un .not (.t 45)⟩]) (.drop [9, 45]))
          (.cond (.t 46) (.seq (.seq (.reg [⟨(some 47), none, .mv (.t 8)⟩, ⟨(some 48), none, .len (.t 47)⟩, ⟨(some 49), none, .bin .eql (.t 48) (.c (.v (.int .i64 0)))⟩, ⟨(some 2), none, .mv (.t 49)⟩]) (.drop [3, 49]))
            .ret)
           .skip))
         (.seq (.seq (.seq (.reg [⟨(some 50), none, .mv (.t 0)⟩, ⟨(some 51), none, .len (.t 50)⟩, ⟨(some 52), none, .mv (.c (.v (.int .i64 0)))⟩]) (.drop [9, 50]))
           (.block 0 (.loop [0, 5, 8, 51, 52] l_fuglemanlaw14_VerifyChecks_0)))
          l_fuglemanlaw14_VerifyChecks_1))))))))))
def a_fuglemanlaw14_VerifyChecks : AFn := ⟨1, b_fuglemanlaw14_VerifyChecks, [.t 2], false, false⟩
theorem a_fuglemanlaw14_VerifyChecks_ok : compF Try.prog Try.f3 [[1, 2], [1, 12], [], [1, 15], [], [5, 21], [8, 27], [7, 34], [], [10, 40], [10, 43], [], [9, 45], [3, 49], [9, 50], [0, 5, 8, 51, 52], [], [53, 54], [53, 59], [53, 64], [], [53, 76], [], [53, 78], [3, 83]] false false hv = some a_fuglemanlaw14_VerifyChecks := by kernel_rfl

/-! fugleman/fuglemanlaw14.VerifyBehind: 4 -/
def l_fuglemanlaw14_VerifyBehind_6 : AC :=
 (.seq (.seq (.reg [⟨(some 135), none, .row 5 0 [(.v (.int .i64 0)), (.v (.int .i64 0)), (.v (.int .i64 0)), (.v (.int .i64 0)), (.v (.int .i64 0))] []⟩, ⟨(some 136), none, .mv (.t 0)⟩, ⟨(some 137), none, .app 5 40 (.t 135) (.t 136)⟩, ⟨(some 138), none, .build [(.v (.int .i64 0)), (.v (.int .i64 0)), (.v (.int .i64 0)), (.v (.int .i64 0)), (.v (.int .i64 0))] [(0, 1, (.c (.v (.int .i64 28))))]⟩, ⟨(some 139), none, .row 5 1 [(.v (.int .i64 0)), (.v (.int .i64 0)), (.v (.int .i64 0)), (.v (.int .i64 0)), (.v (.int .i64 0))] [(0, 5, (.t 138))]⟩, ⟨(some 140), none, .app 5 40 (.t 137) (.t 139)⟩, ⟨(some 141), none, .mv (.t 1)⟩, ⟨(some 142), none, .app 5 40 (.t 140) (.t 141)⟩, ⟨(some 17), none, .mv (.t 142)⟩]) (.drop [18, 142, 17]))
 (.seq (.seq (.reg [⟨(some 144), none, .mv (.t 17)⟩, ⟨(some 145), none, .call (.c (.fn 7 [])) [(.t 144)]⟩, ⟨(some 143), none, .mv (.t 145)⟩, ⟨(some 146), none, .ext 0 (.t 143)⟩, ⟨(some 147), none, .ext 1 (.t 143)⟩, ⟨(some 18), none, .mv (.t 146)⟩, ⟨(some 19), none, .mv (.t 147)⟩]) (.drop [19, 147]))
  (.seq (.seq (.reg [⟨(some 148), none, .mv (.t 18)⟩, ⟨(some 149), none, .bin .eql (.t 148) (.c (.v (.int .i64 0)))⟩, ⟨(some 4), none, .mv (.t 149)⟩]) (.drop [5, 149]))
   .ret)))
def l_fuglemanlaw14_VerifyBehind_5 : AC :=
 (.seq (.seq (.reg [⟨(some 116), none, .bin .lss (.t 115) (.t 114)⟩]) (.drop []))
 (.seq (.cond (.t 116) .skip
   (.exit 4))
  (.seq (.block 5 (.seq (.seq (.reg [⟨(some 117), none, .ixs 5 (.t 113) (.t 115)⟩, ⟨(some 118), none, .load (some 5) (.t 117)⟩, ⟨(some 16), none, .alloc [(.v (.int .i64 0)), (.v (.int .i64 0)), (.v (.int .i64 0)), (.v (.int .i64 0)), (.v (.int .i64 0))]⟩, ⟨none, none, .store 5 (.t 16) (.t 118)⟩]) (.drop [116, 118]))
     (.seq (.seq (.reg [⟨(some 119), none, .fad 0 (.t 16)⟩, ⟨(some 120), none, .load none (.t 119)⟩, ⟨(some 121), none, .bin .geq (.t 120) (.c (.v (.int .i64 25)))⟩, ⟨(some 122), none, .mv (.t 121)⟩, ⟨(some 123), (some (122, true)), .fad 0 (.t 16)⟩, ⟨(some 124), (some (122, true)), .load none (.t 123)⟩, ⟨(some 125), (some (122, true)), .bin .leq (.t 124) (.c (.v (.int .i64 27)))⟩, ⟨(some 126), none, .pick (.t 122) (.t 125) (.c (.v (.bool false)))⟩, ⟨(some 127), none, .mv (.t 126)⟩, ⟨(some 128), (some (127, true)), .fad 3 (.t 16)⟩, ⟨(some 129), (some (127, true)), .load none (.t 128)⟩, ⟨(some 130), (some (127, true)), .mv (.t 0)⟩, ⟨(some 131), (some (127, true)), .len (.t 130)⟩, ⟨(some 132), (some (127, true)), .bin .eql (.t 129) (.t 131)⟩, ⟨(some 133), none, .pick (.t 127) (.t 132) (.c (.v (.bool false)))⟩]) (.drop [116, 132]))
      (.cond (.t 133) (.seq (.seq (.reg [⟨(some 4), none, .mv (.c (.v (.bool true)))⟩]) (.drop []))
        .ret)
       .skip))))
   (.seq (.reg [⟨(some 134), none, .bin .add (.t 115) (.c (.v (.int .i64 1)))⟩, ⟨(some 115), none, .mv (.t 134)⟩]) (.drop [116, 134])))))
def l_fuglemanlaw14_VerifyBehind_4 : AC :=
 (.seq (.seq (.seq (.reg [⟨(some 113), none, .mv (.t 0)⟩, ⟨(some 114), none, .len (.t 113)⟩, ⟨(some 115), none, .mv (.c (.v (.int .i64 0)))⟩]) (.drop []))
  (.block 4 (.loop [0, 1, 113, 114, 115] l_fuglemanlaw14_VerifyBehind_5)))
 l_fuglemanlaw14_VerifyBehind_6)
def l_fuglemanlaw14_VerifyBehind_3 : AC :=
 (.seq (.seq (.reg [⟨(some 106), none, .bin .lss (.t 105) (.t 104)⟩]) (.drop []))
 (.seq (.cond (.t 106) .skip
   (.exit 2))
  (.seq (.block 3 (.seq (.seq (.reg [⟨(some 107), none, .ixs 5 (.t 103) (.t 105)⟩, ⟨(some 108), none, .load (some 5) (.t 107)⟩, ⟨(some 14), none, .alloc [(.v (.int .i64 0)), (.v (.int .i64 0)), (.v (.int .i64 0)), (.v (.int .i64 0)), (.v (.int .i64 0))]⟩, ⟨none, none, .store 5 (.t 14) (.t 108)⟩]) (.drop [106, 108]))
     (.seq (.seq (.reg [⟨(some 109), none, .load (some 5) (.t 14)⟩, ⟨(some 110), none, .call (.c (.fn 10 [])) [(.t 109)]⟩, ⟨(some 111), none, .un .not (.t 110)⟩]) (.drop [106, 110]))
      (.cond (.t 111) (.seq (.seq (.reg [⟨(some 4), none, .mv (.c (.v (.bool true)))⟩]) (.drop []))
        .ret)
       .skip))))
   (.seq (.reg [⟨(some 112), none, .bin .add (.t 105) (.c (.v (.int .i64 1)))⟩, ⟨(some 105), none, .mv (.t 112)⟩]) (.drop [106, 112])))))
def l_fuglemanlaw14_VerifyBehind_2 : AC :=
 (.seq (.seq (.seq (.reg [⟨(some 101), none, .mv (.t 5)⟩, ⟨(some 102), none, .bin .neq (.t 101) (.c (.v (.int .i64 0)))⟩]) (.drop [2, 101]))
  (.cond (.t 102) (.seq (.seq (.reg [⟨(some 4), none, .mv (.c (.v (.bool true)))⟩]) (.drop []))
    .ret)
   .skip))
 (.seq (.seq (.seq (.reg [⟨(some 103), none, .mv (.t 1)⟩, ⟨(some 104), none, .len (.t 103)⟩, ⟨(some 105), none, .mv (.c (.v (.int .i64 0)))⟩]) (.drop []))
   (.block 2 (.loop [0, 1, 103, 104, 105] l_fuglemanlaw14_VerifyBehind_3)))
  l_fuglemanlaw14_VerifyBehind_4))
def l_fuglemanlaw14_VerifyBehind_1 : AC :=
 (.seq (.seq (.reg [⟨(some 90), none, .mv (.t 10)⟩, ⟨(some 91), none, .mv (.t 90)⟩, ⟨(some 92), (some (91, false)), .mv (.t 8)⟩, ⟨(some 93), (some (91, false)), .mv (.t 5)⟩, ⟨(some 94), (some (91, false)), .bin .eql (.t 92) (.t 93)⟩, ⟨(some 95), (some (91, false)), .mv (.t 94)⟩, ⟨(some 96), (some (95, true)), .mv (.t 9)⟩, ⟨(some 97), (some (95, true)), .mv (.t 6)⟩, ⟨(some 98), (some (95, true)), .bin .eql (.t 96) (.t 97)⟩, ⟨(some 99), (some (91, false)), .pick (.t 95) (.t 98) (.c (.v (.bool false)))⟩, ⟨(some 100), none, .pick (.t 91) (.c (.v (.bool true))) (.t 99)⟩, ⟨(some 4), none, .mv (.t 100)⟩]) (.drop [5, 100]))
 .ret)
def l_fuglemanlaw14_VerifyBehind_0 : AC :=
 (.seq (.seq (.reg [⟨(some 68), none, .bin .lss (.t 67) (.t 66)⟩]) (.drop []))
 (.seq (.cond (.t 68) .skip
   (.exit 0))
  (.seq (.block 1 (.seq (.seq (.reg [⟨(some 69), none, .ixs 5 (.t 65) (.t 67)⟩, ⟨(some 70), none, .load (some 5) (.t 69)⟩, ⟨(some 12), none, .alloc [(.v (.int .i64 0)), (.v (.int .i64 0)), (.v (.int .i64 0)), (.v (.int .i64 0)), (.v (.int .i64 0))]⟩, ⟨none, none, .store 5 (.t 12) (.t 70)⟩]) (.drop [68, 70]))
     (.seq (.reg [⟨(some 71), none, .mv (.t 10)⟩, ⟨(some 72), none, .mv (.t 71)⟩, ⟨(some 73), (some (72, false)), .fad 0 (.t 12)⟩, ⟨(some 74), (some (72, false)), .load none (.t 73)⟩, ⟨(some 75), (some (72, false)), .bin .geq (.t 74) (.c (.v (.int .i64 25)))⟩, ⟨(some 76), (some (72, false)), .mv (.t 75)⟩, ⟨(some 77), (some (76, true)), .fad 0 (.t 12)⟩, ⟨(some 78), (some (76, true)), .load none (.t 77)⟩, ⟨(some 79), (some (76, true)), .bin .leq (.t 78) (.c (.v (.int .i64 27)))⟩, ⟨(some 80), (some (72, false)), .pick (.t 76) (.t 79) (.c (.v (.bool false)))⟩, ⟨(some 81), (some (72, false)), .mv (.t 80)⟩, ⟨(some 82), (some (81, true)), .fad 3 (.t 12)⟩, ⟨(some 83), (some (81, true)), .load none (.t 82)⟩, ⟨(some 84), (some (81, true)), .mv (.t 6)⟩, ⟨(some 85), (some (81, true)), .bin .add (.t 84) (.c (.v (.int .i64 1)))⟩, ⟨(some 86), (some (81, true)), .bin .gtr (.t 83) (.t 85)⟩, ⟨(some 87), (some (72, false)), .pick (.t 81) (.t 86) (.c (.v (.bool false)))⟩, ⟨(some 88), none, .pick (.t 72) (.c (.v (.bool true))) (.t 87)⟩, ⟨(some 10), none, .mv (.t 88)⟩]) (.drop [68, 88]))))
   (.seq (.reg [⟨(some 89), none, .bin .add (.t 67) (.c (.v (.int .i64 1)))⟩, ⟨(some 67), none, .mv (.t 89)⟩]) (.drop [68, 89])))))
def c_fuglemanlaw14_VerifyBehind_0 : AC :=
 (.seq (.seq (.reg [⟨(some 43), none, .mv (.t 0)⟩, ⟨(some 44), none, .mv (.t 6)⟩, ⟨(some 45), none, .ixs 5 (.t 43) (.t 44)⟩, ⟨(some 46), none, .load (some 5) (.t 45)⟩, ⟨(some 7), none, .alloc [(.v (.int .i64 0)), (.v (.int .i64 0)), (.v (.int .i64 0)), (.v (.int .i64 0)), (.v (.int .i64 0))]⟩, ⟨none, none, .store 5 (.t 7) (.t 46)⟩]) (.drop [8, 46]))
        (.seq (.seq (.seq (.reg [⟨(some 47), none, .fad 0 (.t 7)⟩, ⟨(some 48), none, .load none (.t 47)⟩, ⟨(some 49), none, .bin .geq (.t 48) (.c (.v (.int .i64 25)))⟩, ⟨(some 50), none, .mv (.t 49)⟩, ⟨(some 51), (some (50, true)), .fad 0 (.t 7)⟩, ⟨(some 52), (some (50, true)), .load none (.t 51)⟩, ⟨(some 53), (some (50, true)), .bin .leq (.t 52) (.c (.v (.int .i64 27)))⟩, ⟨(some 54), none, .pick (.t 50) (.t 53) (.c (.v (.bool false)))⟩]) (.drop [7, 53]))
          (.cond (.t 54) (.seq (.seq (.reg [⟨(some 4), none, .mv (.c (.v (.bool true)))⟩]) (.drop []))
            .ret)
           .skip))
         (.seq (.seq (.reg [⟨(some 56), none, .mv (.t 0)⟩, ⟨(some 57), none, .mv (.t 6)⟩, ⟨(some 58), none, .bin .add (.t 57) (.c (.v (.int .i64 1)))⟩, ⟨(some 59), none, .sls 5 (.t 56) none (some (.t 58)) none⟩, ⟨(some 60), none, .call (.c (.fn 7 [])) [(.t 59)]⟩, ⟨(some 55), none, .mv (.t 60)⟩, ⟨(some 61), none, .ext 0 (.t 55)⟩, ⟨(some 62), none, .ext 1 (.t 55)⟩, ⟨(some 8), none, .mv (.t 61)⟩, ⟨(some 9), none, .mv (.t 62)⟩]) (.drop [10, 62]))
          (.seq (.seq (.reg [⟨(some 10), none, .mv (.c (.v (.bool false)))⟩]) (.drop []))
           (.seq (.seq (.seq (.reg [⟨(some 63), none, .mv (.t 0)⟩, ⟨(some 64), none, .mv (.t 6)⟩, ⟨(some 65), none, .sls 5 (.t 63) none (some (.t 64)) none⟩, ⟨(some 66), none, .len (.t 65)⟩, ⟨(some 67), none, .mv (.c (.v (.int .i64 0)))⟩]) (.drop [11, 64]))
             (.block 0 (.loop [5, 6, 8, 9, 10, 65, 66, 67] l_fuglemanlaw14_VerifyBehind_0)))
            l_fuglemanlaw14_VerifyBehind_1)))))
theorem g_fuglemanlaw14_VerifyBehind_0 {C : CT} {lf : Nat} {ks : List It} {s : St} : type_of% (@Sym.go_as C lf ks s _ _ c_fuglemanlaw14_VerifyBehind_0.eq_1) := Sym.go_as c_fuglemanlaw14_VerifyBehind_0.eq_1
def b_fuglemanlaw14_VerifyBehind : AC :=
 (.seq (.seq (.reg [⟨(some 4), none, .mv (.c (.v (.bool false)))⟩]) (.drop [2, 4]))
 (.seq (.seq (.seq (.reg [⟨(some 20), none, .call (.c (.fn 6 [])) []⟩, ⟨(some 21), none, .un .not (.t 20)⟩]) (.drop [2, 20]))
   (.cond (.t 21) (.seq (.seq (.reg [⟨(some 4), none, .mv (.c (.v (.bool false)))⟩]) (.drop []))
     .ret)
    .skip))
  (.seq (.seq (.seq (.reg [⟨(some 22), none, .mv (.t 0)⟩, ⟨(some 23), none, .len (.t 22)⟩, ⟨(some 24), none, .bin .gtr (.t 23) (.c (.v (.int .i64 100)))⟩, ⟨(some 25), none, .mv (.t 24)⟩, ⟨(some 26), (some (25, false)), .mv (.t 1)⟩, ⟨(some 27), (some (25, false)), .len (.t 26)⟩, ⟨(some 28), (some (25, false)), .bin .gtr (.t 27) (.c (.v (.int .i64 90)))⟩, ⟨(some 29), none, .pick (.t 25) (.c (.v (.bool true))) (.t 28)⟩]) (.drop [2, 28]))
    (.cond (.t 29) (.seq (.seq (.reg [⟨(some 4), none, .mv (.c (.v (.bool true)))⟩]) (.drop []))
      .ret)
     .skip))
   (.seq (.seq (.reg [⟨(some 31), none, .mv (.t 0)⟩, ⟨(some 32), none, .call (.c (.fn 7 [])) [(.t 31)]⟩, ⟨(some 30), none, .mv (.t 32)⟩, ⟨(some 33), none, .ext 0 (.t 30)⟩, ⟨(some 34), none, .ext 1 (.t 30)⟩, ⟨(some 5), none, .mv (.t 33)⟩, ⟨(some 6), none, .mv (.t 34)⟩]) (.drop [7, 34]))
    (.seq (.seq (.seq (.reg [⟨(some 35), none, .mv (.t 5)⟩, ⟨(some 36), none, .bin .neq (.t 35) (.c (.v (.int .i64 0)))⟩, ⟨(some 37), none, .mv (.t 36)⟩, ⟨(some 38), (some (37, true)), .mv (.t 6)⟩, ⟨(some 39), (some (37, true)), .mv (.t 0)⟩, ⟨(some 40), (some (37, true)), .len (.t 39)⟩, ⟨(some 41), (some (37, true)), .bin .lss (.t 38) (.t 40)⟩, ⟨(some 42), none, .pick (.t 37) (.t 41) (.c (.v (.bool false)))⟩]) (.drop [7, 41]))
      (.cond (.t 42) c_fuglemanlaw14_VerifyBehind_0
       .skip))
     l_fuglemanlaw14_VerifyBehind_2)))))
def a_fuglemanlaw14_VerifyBehind : AFn := ⟨2, b_fuglemanlaw14_VerifyBehind, [.t 4], false, false⟩
theorem a_fuglemanlaw14_VerifyBehind_ok : compF Try.prog Try.f4 [[2, 4], [2, 20], [], [2, 28], [], [7, 34], [7, 41], [8, 46], [7, 53], [], [10, 62], [], [11, 64], [5, 6, 8, 9, 10, 65, 66, 67], [], [68, 70], [68, 88], [68, 89], [5, 100], [2, 101], [], [], [0, 1, 103, 104, 105], [], [106, 108], [106, 110], [], [106, 112], [], [0, 1, 113, 114, 115], [], [116, 118], [116, 132], [], [116, 134], [18, 142, 17], [19, 147], [5, 149]] false false hv = some a_fuglemanlaw14_VerifyBehind := by kernel_rfl

/-! fugleman/fuglemanref14.Bytes: 12 -/
def l_fuglemanref14_Bytes_3 : AC :=
 (.seq (.seq (.reg [⟨(some 94), none, .load (some 4) (.t 5)⟩, ⟨none, none, .store 4 (.t 4) (.t 94)⟩]) (.drop [5, 94]))
 .ret)
def l_fuglemanref14_Bytes_2 : AC :=
 (.seq (.reg [⟨(some 27), none, .mv (.t 9)⟩, ⟨(some 28), none, .bin .add (.t 27) (.c (.v (.int .i64 1)))⟩, ⟨(some 9), none, .mv (.t 28)⟩]) (.drop [10, 28]))
def l_fuglemanref14_Bytes_1 : AC :=
 (.seq (.seq (.seq (.reg [⟨(some 74), none, .mv (.t 13)⟩, ⟨(some 75), none, .mv (.t 11)⟩, ⟨(some 76), none, .bin .lss (.t 74) (.t 75)⟩]) (.drop [14, 75]))
  (.cond (.t 76) .skip
   (.exit 2)))
 (.seq (.block 3 (.seq (.regm [(.o, ⟨(some 79), none, .fad 2 (.t 10)⟩), (.o, ⟨(some 80), none, .load none (.t 79)⟩), (.o, ⟨(some 81), none, .bin .sub (.t 80) (.c (.v (.int .i64 1)))⟩), (.o, ⟨(some 82), none, .fad 2 (.t 10)⟩), (.o, ⟨(some 83), none, .load none (.t 82)⟩), (.o, ⟨(some 84), none, .bin .sub (.t 83) (.c (.v (.int .i64 1)))⟩), (.o, ⟨(some 85), none, .ixa 4 1 (.t 5) (.t 84)⟩), (.o, ⟨(some 86), none, .load none (.t 85)⟩), (.o, ⟨(some 87), none, .fad 3 (.t 10)⟩), (.o, ⟨(some 88), none, .load none (.t 87)⟩), (.o, ⟨(some 89), none, .mv (.t 13)⟩), (.o, ⟨(some 90), none, .bin .add (.t 88) (.t 89)⟩), (.o, ⟨(some 91), none, .bin .shl (.c (.v (.int .u64 1))) (.t 90)⟩), (.o, ⟨(some 92), none, .bin .or (.t 86) (.t 91)⟩), (.o, ⟨(some 93), none, .ixa 4 1 (.t 5) (.t 81)⟩), (.o, ⟨none, none, .store 1 (.t 93) (.t 92)⟩)]) (.drop [14, 93])))
  (.seq (.reg [⟨(some 77), none, .mv (.t 13)⟩, ⟨(some 78), none, .bin .add (.t 77) (.c (.v (.int .i64 1)))⟩, ⟨(some 13), none, .mv (.t 78)⟩]) (.drop [14, 78]))))
def l_fuglemanref14_Bytes_0 : AC :=
 (.seq (.seq (.seq (.reg [⟨(some 23), none, .mv (.t 9)⟩, ⟨(some 24), none, .mv (.t 0)⟩, ⟨(some 25), none, .len (.t 24)⟩, ⟨(some 26), none, .bin .lss (.t 23) (.t 25)⟩]) (.drop [10, 25]))
  (.cond (.t 26) .skip
   (.exit 0)))
 (.seq (.block 1 (.seq (.seq (.reg [⟨(some 29), none, .mv (.t 0)⟩, ⟨(some 30), none, .mv (.t 9)⟩, ⟨(some 31), none, .ixs 5 (.t 29) (.t 30)⟩, ⟨(some 32), none, .load (some 5) (.t 31)⟩, ⟨(some 10), none, .alloc [(.v (.int .i64 0)), (.v (.int .i64 0)), (.v (.int .i64 0)), (.v (.int .i64 0)), (.v (.int .i64 0))]⟩, ⟨none, none, .store 5 (.t 10) (.t 32)⟩]) (.drop [11, 32]))
    (.seq (.seq (.seq (.reg [⟨(some 33), none, .mv (.t 6)⟩, ⟨(some 34), none, .mv (.t 9)⟩, ⟨(some 35), none, .ixs 3 (.t 33) (.t 34)⟩, ⟨(some 36), none, .fad 0 (.t 35)⟩, ⟨(some 37), none, .load none (.t 36)⟩, ⟨(some 38), none, .un .not (.t 37)⟩, ⟨(some 39), none, .mv (.t 38)⟩, ⟨(some 40), (some (39, false)), .fad 2 (.t 10)⟩, ⟨(some 41), (some (39, false)), .load none (.t 40)⟩, ⟨(some 42), (some (39, false)), .bin .eql (.t 41) (.c (.v (.int .i64 0)))⟩, ⟨(some 43), none, .pick (.t 39) (.c (.v (.bool true))) (.t 42)⟩]) (.drop [11, 42]))
      (.cond (.t 43) (.exit 1)
       .skip))
     (.seq (.seq (.reg [⟨(some 44), none, .fad 1 (.t 10)⟩, ⟨(some 45), none, .load none (.t 44)⟩, ⟨(some 46), none, .call (.c (.fn 21 [])) [(.t 45)]⟩, ⟨(some 11), none, .mv (.t 46)⟩]) (.drop [12, 46]))
      (.seq (.seq (.reg [⟨(some 47), none, .fad 0 (.t 10)⟩, ⟨(some 48), none, .load none (.t 47)⟩, ⟨(some 49), none, .bin .geq (.t 48) (.c (.v (.int .i64 3)))⟩, ⟨(some 50), none, .mv (.t 49)⟩, ⟨(some 51), (some (50, true)), .fad 0 (.t 10)⟩, ⟨(some 52), (some (50, true)), .load none (.t 51)⟩, ⟨(some 53), (some (50, true)), .bin .leq (.t 52) (.c (.v (.int .i64 6)))⟩, ⟨(some 54), none, .pick (.t 50) (.t 53) (.c (.v (.bool false)))⟩, ⟨(some 12), none, .mv (.t 54)⟩]) (.drop [13, 54]))
       (.seq (.seq (.seq (.reg [⟨(some 55), none, .fad 0 (.t 10)⟩, ⟨(some 56), none, .load none (.t 55)⟩, ⟨(some 57), none, .bin .eql (.t 56) (.c (.v (.int .i64 34)))⟩, ⟨(some 58), none, .mv (.t 57)⟩, ⟨(some 59), (some (58, false)), .fad 0 (.t 10)⟩, ⟨(some 60), (some (58, false)), .load none (.t 59)⟩, ⟨(some 61), (some (58, false)), .bin .eql (.t 60) (.c (.v (.int .i64 35)))⟩, ⟨(some 62), none, .pick (.t 58) (.c (.v (.bool true))) (.t 61)⟩]) (.drop [13, 61]))
         (.cond (.t 62) (.seq (.reg [⟨(some 11), none, .mv (.c (.v (.int .i64 5)))⟩]) (.drop []))
          .skip))
        (.seq (.seq (.seq (.reg [⟨(some 63), none, .fad 0 (.t 10)⟩, ⟨(some 64), none, .load none (.t 63)⟩, ⟨(some 65), none, .bin .eql (.t 64) (.c (.v (.int .i64 36)))⟩]) (.drop [13, 64]))
          (.cond (.t 65) (.seq (.reg [⟨(some 11), none, .mv (.c (.v (.int .i64 1)))⟩]) (.drop []))
           .skip))
         (.seq (.seq (.seq (.reg [⟨(some 66), none, .fad 0 (.t 10)⟩, ⟨(some 67), none, .load none (.t 66)⟩, ⟨(some 68), none, .bin .lss (.t 67) (.c (.v (.int .i64 34)))⟩, ⟨(some 69), none, .mv (.t 68)⟩, ⟨(some 70), (some (69, true)), .mv (.t 12)⟩, ⟨(some 71), (some (69, true)), .mv (.t 1)⟩, ⟨(some 72), (some (69, true)), .eqb true (.t 70) (.t 71)⟩, ⟨(some 73), none, .pick (.t 69) (.t 72) (.c (.v (.bool false)))⟩]) (.drop [12, 72]))
           (.cond (.t 73) (.exit 1)
            .skip))
          (.seq (.seq (.reg [⟨(some 13), none, .mv (.c (.v (.int .i64 0)))⟩]) (.drop []))
           (.block 2 (.loop [0, 1, 4, 5, 6, 9, 10, 11, 13] l_fuglemanref14_Bytes_1)))))))))))
  l_fuglemanref14_Bytes_2))
def b_fuglemanref14_Bytes : AC :=
 (.seq (.seq (.reg [⟨(some 4), none, .alloc [(.v (.int .u64 0)), (.v (.int .u64 0)), (.v (.int .u64 0)), (.v (.int .u64 0))]⟩]) (.drop []))
 (.seq (.seq (.reg [⟨(some 5), none, .alloc [(.v (.int .u64 0)), (.v (.int .u64 0)), (.v (.int .u64 0)), (.v (.int .u64 0))]⟩]) (.drop []))
  (.seq (.seq (.reg [⟨(some 15), none, .mv (.t 0)⟩, ⟨(some 16), none, .call (.c (.fn 8 [])) [(.t 15)]⟩, ⟨(some 14), none, .mv (.t 16)⟩, ⟨(some 17), none, .ext 0 (.t 14)⟩, ⟨(some 18), none, .ext 1 (.t 14)⟩, ⟨(some 19), none, .ext 2 (.t 14)⟩, ⟨(some 6), none, .mv (.t 17)⟩, ⟨(some 7), none, .mv (.t 18)⟩, ⟨(some 8), none, .mv (.t 19)⟩]) (.drop [8, 19]))
   (.seq (.seq (.seq (.reg [⟨(some 20), none, .mv (.t 7)⟩, ⟨(some 21), none, .bin .neq (.t 20) (.c (.v (.int .i64 0)))⟩]) (.drop [7, 20]))
     (.cond (.t 21) (.seq (.seq (.reg [⟨(some 22), none, .load (some 4) (.t 5)⟩, ⟨none, none, .store 4 (.t 4) (.t 22)⟩]) (.drop [5, 22]))
       .ret)
      .skip))
    (.seq (.seq (.seq (.reg [⟨(some 9), none, .mv (.c (.v (.int .i64 0)))⟩]) (.drop []))
      (.block 0 (.loop [0, 1, 4, 5, 6, 9] l_fuglemanref14_Bytes_0)))
     l_fuglemanref14_Bytes_3)))))
def a_fuglemanref14_Bytes : AFn := ⟨2, b_fuglemanref14_Bytes, [.cell 4 (some 4)], false, false⟩
theorem a_fuglemanref14_Bytes_ok : compF Try.prog Try.f12 [[], [], [8, 19], [7, 20], [5, 22], [], [0, 1, 4, 5, 6, 9], [10, 25], [11, 32], [11, 42], [12, 46], [13, 54], [13, 61], [], [13, 64], [], [12, 72], [], [0, 1, 4, 5, 6, 9, 10, 11, 13], [14, 75], [14, 93], [14, 78], [10, 28], [5, 94]] false false hv = some a_fuglemanref14_Bytes := by kernel_rfl

/-! fugleman/verify.Reads: 13 -/
def b_verify_Reads : AC :=
 (.seq (.seq (.reg [⟨(some 2), none, .alloc [(.v (.int .u64 0)), (.v (.int .u64 0)), (.v (.int .u64 0)), (.v (.int .u64 0))]⟩]) (.drop []))
 (.seq (.seq (.reg [⟨(some 3), none, .mv (.t 0)⟩, ⟨(some 4), none, .call (.c (.fn 22 [])) [(.t 3), (.c (.fn 25 []))]⟩, ⟨none, none, .store 4 (.t 2) (.t 4)⟩]) (.drop [3, 4]))
  .ret))
def a_verify_Reads : AFn := ⟨1, b_verify_Reads, [.cell 2 (some 4)], false, false⟩
theorem a_verify_Reads_ok : compF Try.prog Try.f13 [[], [3, 4]] false false hv = some a_verify_Reads := by kernel_rfl

/-! fugleman/fuglemanlaw14.VerifyBytes: 5 -/
def b_fuglemanlaw14_VerifyBytes : AC :=
 (.seq (.seq (.reg [⟨(some 2), none, .mv (.c (.v (.bool false)))⟩]) (.drop [1, 2]))
 (.seq (.seq (.seq (.reg [⟨(some 3), none, .call (.c (.fn 6 [])) []⟩, ⟨(some 4), none, .un .not (.t 3)⟩]) (.drop [1, 3]))
   (.cond (.t 4) (.seq (.seq (.reg [⟨(some 2), none, .mv (.c (.v (.bool false)))⟩]) (.drop []))
     .ret)
    .skip))
  (.seq (.seq (.seq (.reg [⟨(some 5), none, .mv (.t 0)⟩, ⟨(some 6), none, .len (.t 5)⟩, ⟨(some 7), none, .bin .gtr (.t 6) (.c (.v (.int .i64 210)))⟩]) (.drop [1, 6]))
    (.cond (.t 7) (.seq (.seq (.reg [⟨(some 2), none, .mv (.c (.v (.bool true)))⟩]) (.drop []))
      .ret)
     .skip))
   (.seq (.seq (.reg [⟨(some 8), none, .mv (.t 0)⟩, ⟨(some 9), none, .call (.c (.fn 11 [])) [(.t 8)]⟩, ⟨(some 10), none, .mv (.t 0)⟩, ⟨(some 11), none, .call (.c (.fn 12 [])) [(.t 10), (.c (.v (.bool true)))]⟩, ⟨(some 12), none, .eqst false [(0, .i), (1, .i), (2, .i), (3, .i)] (.t 9) (.t 11)⟩, ⟨(some 13), none, .mv (.t 12)⟩, ⟨(some 14), (some (13, true)), .mv (.t 0)⟩, ⟨(some 15), (some (13, true)), .call (.c (.fn 13 [])) [(.t 14)]⟩, ⟨(some 16), (some (13, true)), .mv (.t 0)⟩, ⟨(some 17), (some (13, true)), .call (.c (.fn 12 [])) [(.t 16), (.c (.v (.bool false)))]⟩, ⟨(some 18), (some (13, true)), .eqst false [(0, .i), (1, .i), (2, .i), (3, .i)] (.t 15) (.t 17)⟩, ⟨(some 19), none, .pick (.t 13) (.t 18) (.c (.v (.bool false)))⟩, ⟨(some 2), none, .mv (.t 19)⟩]) (.drop [3, 19]))
    .ret))))
def a_fuglemanlaw14_VerifyBytes : AFn := ⟨1, b_fuglemanlaw14_VerifyBytes, [.t 2], false, false⟩
theorem a_fuglemanlaw14_VerifyBytes_ok : compF Try.prog Try.f5 [[1, 2], [1, 3], [], [1, 6], [], [3, 19]] false false hv = some a_fuglemanlaw14_VerifyBytes := by kernel_rfl

/-! fugleman/verify.Writes$1: 23 -/
def b_verify_Writes_1 : AC :=
 (.seq (.seq (.reg [⟨(some 1), none, .box (.t 0)⟩, ⟨(some 2), none, .mv (.c (.v (.bool false)))⟩]) (.drop [2, 2]))
 (.seq (.seq (.reg [⟨(some 3), none, .load (some 5) (.t 1)⟩, ⟨(some 4), none, .call (.c (.fn 24 [])) [(.t 3)]⟩, ⟨(some 5), none, .mv (.t 4)⟩, ⟨(some 6), (some (5, false)), .fad 0 (.t 1)⟩, ⟨(some 7), (some (5, false)), .load none (.t 6)⟩, ⟨(some 8), (some (5, false)), .bin .geq (.t 7) (.c (.v (.int .i64 34)))⟩, ⟨(some 9), none, .pick (.t 5) (.c (.v (.bool true))) (.t 8)⟩, ⟨(some 2), none, .mv (.t 9)⟩]) (.drop [3, 9]))
  .ret))
def a_verify_Writes_1 : AFn := ⟨1, b_verify_Writes_1, [.t 2], false, false⟩
theorem a_verify_Writes_1_ok : compF Try.prog Try.f23 [[2, 2], [3, 9]] false false hv = some a_verify_Writes_1 := by kernel_rfl

/-! fugleman/verify.stores: 24 -/
def b_verify_stores : AC :=
 (.seq (.seq (.reg [⟨(some 1), none, .box (.t 0)⟩, ⟨(some 2), none, .mv (.c (.v (.bool false)))⟩]) (.drop [2, 2]))
 (.seq (.seq (.reg [⟨(some 3), none, .fad 0 (.t 1)⟩, ⟨(some 4), none, .load none (.t 3)⟩, ⟨(some 5), none, .bin .geq (.t 4) (.c (.v (.int .i64 3)))⟩, ⟨(some 6), none, .mv (.t 5)⟩, ⟨(some 7), (some (6, true)), .fad 0 (.t 1)⟩, ⟨(some 8), (some (6, true)), .load none (.t 7)⟩, ⟨(some 9), (some (6, true)), .bin .leq (.t 8) (.c (.v (.int .i64 6)))⟩, ⟨(some 10), none, .pick (.t 6) (.t 9) (.c (.v (.bool false)))⟩, ⟨(some 2), none, .mv (.t 10)⟩]) (.drop [3, 10]))
  .ret))
def a_verify_stores : AFn := ⟨1, b_verify_stores, [.t 2], false, false⟩
theorem a_verify_stores_ok : compF Try.prog Try.f24 [[2, 2], [3, 10]] false false hv = some a_verify_stores := by kernel_rfl

/-! fugleman/verify.Reads$1: 25 -/
def b_verify_Reads_1 : AC :=
 (.seq (.seq (.reg [⟨(some 1), none, .box (.t 0)⟩, ⟨(some 2), none, .mv (.c (.v (.bool false)))⟩]) (.drop [2, 2]))
 (.seq (.seq (.reg [⟨(some 3), none, .load (some 5) (.t 1)⟩, ⟨(some 4), none, .call (.c (.fn 24 [])) [(.t 3)]⟩, ⟨(some 5), none, .un .not (.t 4)⟩, ⟨(some 2), none, .mv (.t 5)⟩]) (.drop [3, 5]))
  .ret))
def a_verify_Reads_1 : AFn := ⟨1, b_verify_Reads_1, [.t 2], false, false⟩
theorem a_verify_Reads_1_ok : compF Try.prog Try.f25 [[2, 2], [3, 5]] false false hv = some a_verify_Reads_1 := by kernel_rfl

def tab : Nat → Option AFn
  | 54 => some a_iec_kinds
  | 50 => some a_iec_of
  | 35 => some a_iec_Size
  | 51 => some a_il_ops
  | 36 => some a_il_of
  | 52 => some a_iec_Wrap
  | 37 => some a_iec_Is
  | 38 => some a_il_stands
  | 39 => some a_il_within
  | 40 => some a_il_keeps
  | 26 => some a_il_Right
  | 27 => some a_verify_jumps
  | 41 => some a_verify_ahead_with
  | 42 => some a_verify_must
  | 48 => some a_iec_May
  | 43 => some a_verify_logic
  | 44 => some a_verify_ahead_ret
  | 53 => some a_verify_bracket_53
  | 45 => some a_verify_ahead_push
  | 47 => some a_verify_made
  | 46 => some a_verify_ahead_pop
  | 28 => some a_verify_ahead_behind
  | 29 => some a_verify_on
  | 49 => some a_verify_bracket_49
  | 30 => some a_verify_table_lead
  | 14 => some a_verify_all
  | 7 => some a_verify_Check
  | 9 => some a_verify_Kinds
  | 22 => some a_verify_bytes
  | 11 => some a_verify_Writes
  | 6 => some a_fuglemanlaw14_awake
  | 17 => some a_fuglemanref12_reads
  | 21 => some a_fuglemanref11_Size
  | 34 => some a_fuglemanref11_many
  | 33 => some a_fuglemanref11_least
  | 18 => some a_fuglemanref11_Is
  | 19 => some a_fuglemanref12_writes
  | 20 => some a_fuglemanref11_There
  | 10 => some a_fuglemanref12_Right
  | 32 => some a_fuglemanref11_May
  | 31 => some a_fuglemanref14_logic
  | 15 => some a_fuglemanref14_behind
  | 16 => some a_fuglemanref14_join
  | 8 => some a_fuglemanref14_All
  | 3 => some a_fuglemanlaw14_VerifyChecks
  | 4 => some a_fuglemanlaw14_VerifyBehind
  | 12 => some a_fuglemanref14_Bytes
  | 13 => some a_verify_Reads
  | 5 => some a_fuglemanlaw14_VerifyBytes
  | 23 => some a_verify_Writes_1
  | 24 => some a_verify_stores
  | 25 => some a_verify_Reads_1
  | _ => none
def T : Tb := ⟨tab, fun _ _ _ _ => none⟩
theorem tableOK : TableOK Try.prog T := by
  refine ⟨fun f fn h => ?_, fun _ _ _ _ _ h => nomatch (show (none : Option Res) = some _ from h)⟩
  change tab f = some fn at h
  unfold tab at h
  split at h
  · cases h; exact ⟨_, _, _, _, _, Try.func54, a_iec_kinds_ok⟩
  · cases h; exact ⟨_, _, _, _, _, Try.func50, a_iec_of_ok⟩
  · cases h; exact ⟨_, _, _, _, _, Try.func35, a_iec_Size_ok⟩
  · cases h; exact ⟨_, _, _, _, _, Try.func51, a_il_ops_ok⟩
  · cases h; exact ⟨_, _, _, _, _, Try.func36, a_il_of_ok⟩
  · cases h; exact ⟨_, _, _, _, _, Try.func52, a_iec_Wrap_ok⟩
  · cases h; exact ⟨_, _, _, _, _, Try.func37, a_iec_Is_ok⟩
  · cases h; exact ⟨_, _, _, _, _, Try.func38, a_il_stands_ok⟩
  · cases h; exact ⟨_, _, _, _, _, Try.func39, a_il_within_ok⟩
  · cases h; exact ⟨_, _, _, _, _, Try.func40, a_il_keeps_ok⟩
  · cases h; exact ⟨_, _, _, _, _, Try.func26, a_il_Right_ok⟩
  · cases h; exact ⟨_, _, _, _, _, Try.func27, a_verify_jumps_ok⟩
  · cases h; exact ⟨_, _, _, _, _, Try.func41, a_verify_ahead_with_ok⟩
  · cases h; exact ⟨_, _, _, _, _, Try.func42, a_verify_must_ok⟩
  · cases h; exact ⟨_, _, _, _, _, Try.func48, a_iec_May_ok⟩
  · cases h; exact ⟨_, _, _, _, _, Try.func43, a_verify_logic_ok⟩
  · cases h; exact ⟨_, _, _, _, _, Try.func44, a_verify_ahead_ret_ok⟩
  · cases h; exact ⟨_, _, _, _, _, Try.func53, a_verify_bracket_53_ok⟩
  · cases h; exact ⟨_, _, _, _, _, Try.func45, a_verify_ahead_push_ok⟩
  · cases h; exact ⟨_, _, _, _, _, Try.func47, a_verify_made_ok⟩
  · cases h; exact ⟨_, _, _, _, _, Try.func46, a_verify_ahead_pop_ok⟩
  · cases h; exact ⟨_, _, _, _, _, Try.func28, a_verify_ahead_behind_ok⟩
  · cases h; exact ⟨_, _, _, _, _, Try.func29, a_verify_on_ok⟩
  · cases h; exact ⟨_, _, _, _, _, Try.func49, a_verify_bracket_49_ok⟩
  · cases h; exact ⟨_, _, _, _, _, Try.func30, a_verify_table_lead_ok⟩
  · cases h; exact ⟨_, _, _, _, _, Try.func14, a_verify_all_ok⟩
  · cases h; exact ⟨_, _, _, _, _, Try.func7, a_verify_Check_ok⟩
  · cases h; exact ⟨_, _, _, _, _, Try.func9, a_verify_Kinds_ok⟩
  · cases h; exact ⟨_, _, _, _, _, Try.func22, a_verify_bytes_ok⟩
  · cases h; exact ⟨_, _, _, _, _, Try.func11, a_verify_Writes_ok⟩
  · cases h; exact ⟨_, _, _, _, _, Try.func6, a_fuglemanlaw14_awake_ok⟩
  · cases h; exact ⟨_, _, _, _, _, Try.func17, a_fuglemanref12_reads_ok⟩
  · cases h; exact ⟨_, _, _, _, _, Try.func21, a_fuglemanref11_Size_ok⟩
  · cases h; exact ⟨_, _, _, _, _, Try.func34, a_fuglemanref11_many_ok⟩
  · cases h; exact ⟨_, _, _, _, _, Try.func33, a_fuglemanref11_least_ok⟩
  · cases h; exact ⟨_, _, _, _, _, Try.func18, a_fuglemanref11_Is_ok⟩
  · cases h; exact ⟨_, _, _, _, _, Try.func19, a_fuglemanref12_writes_ok⟩
  · cases h; exact ⟨_, _, _, _, _, Try.func20, a_fuglemanref11_There_ok⟩
  · cases h; exact ⟨_, _, _, _, _, Try.func10, a_fuglemanref12_Right_ok⟩
  · cases h; exact ⟨_, _, _, _, _, Try.func32, a_fuglemanref11_May_ok⟩
  · cases h; exact ⟨_, _, _, _, _, Try.func31, a_fuglemanref14_logic_ok⟩
  · cases h; exact ⟨_, _, _, _, _, Try.func15, a_fuglemanref14_behind_ok⟩
  · cases h; exact ⟨_, _, _, _, _, Try.func16, a_fuglemanref14_join_ok⟩
  · cases h; exact ⟨_, _, _, _, _, Try.func8, a_fuglemanref14_All_ok⟩
  · cases h; exact ⟨_, _, _, _, _, Try.func3, a_fuglemanlaw14_VerifyChecks_ok⟩
  · cases h; exact ⟨_, _, _, _, _, Try.func4, a_fuglemanlaw14_VerifyBehind_ok⟩
  · cases h; exact ⟨_, _, _, _, _, Try.func12, a_fuglemanref14_Bytes_ok⟩
  · cases h; exact ⟨_, _, _, _, _, Try.func13, a_verify_Reads_ok⟩
  · cases h; exact ⟨_, _, _, _, _, Try.func5, a_fuglemanlaw14_VerifyBytes_ok⟩
  · cases h; exact ⟨_, _, _, _, _, Try.func23, a_verify_Writes_1_ok⟩
  · cases h; exact ⟨_, _, _, _, _, Try.func24, a_verify_stores_ok⟩
  · cases h; exact ⟨_, _, _, _, _, Try.func25, a_verify_Reads_1_ok⟩
  · cases h
theorem mixed : Try.prog.follows .mixedOrders = true := by kernel_rfl
theorem calls (k : Nat) : CallsOK Try.prog (acall T k) := acall_ok mixed tableOK k
end Go.Proofs.Ytlefnekfeeihaaa.Tab

/- Kinds, operations: the functions of packages iec and il that verify needs, and the document's. -/
namespace Go.Proofs.Ytlefnekfeeihaaa.Ver
open Go Go.Proofs.Ytlefnekfeeihaaa.Sym Go.Proofs.Ytlefnekfeeihaaa.Tab
set_option linter.unusedVariables false
set_option linter.unusedSimpArgs false
set_option maxHeartbeats 4000000
set_option maxRecDepth 20000
def kok (k : Int) : Bool := decide (1 ≤ k) && decide (k ≤ 7)
def ksz (k : Int) : Int := if k = 1 ∨ k = 2 then 1 else if k = 3 ∨ k = 5 ∨ k = 6 then 2 else if k = 4 ∨ k = 7 then 4 else 0
def kbt (k : Int) : Bool := k == 1 || k == 6 || k == 7
def ksg (k : Int) : Bool := k == 2 || k == 3 || k == 4
def kname (k : Int) : ByteArray := if k = 1 then ⟨#[66, 79, 79, 76]⟩ else if k = 2 then ⟨#[83, 73, 78, 84]⟩ else if k = 3 then ⟨#[73, 78, 84]⟩ else if k = 4 then ⟨#[68, 73, 78, 84]⟩ else if k = 5 then ⟨#[85, 73, 78, 84]⟩ else if k = 6 then ⟨#[87, 79, 82, 68]⟩ else if k = 7 then ⟨#[68, 87, 79, 82, 68]⟩ else ⟨#[]⟩
def kcells (k : Int) : List AV := [.v (.string (kname k)), .v (.int .i64 (ksz k)), .v (.bool (ksg k)), .v (.bool (kbt k))]
theorem seven {k : Int} (h : 1 ≤ k ∧ k ≤ 7) : k = 1 ∨ k = 2 ∨ k = 3 ∨ k = 4 ∨ k = 5 ∨ k = 6 ∨ k = 7 := by omega
theorem kno {n : Int} (h : ¬ (1 ≤ n ∧ n ≤ 7)) : ksz n = 0 ∧ ksg n = false ∧ kbt n = false ∧ kname n = ⟨#[]⟩ ∧ kok n = false := by
  have e : ∀ m : Int, 1 ≤ m → m ≤ 7 → n ≠ m := fun m h1 h2 e => h (by omega)
  refine ⟨?_, ?_, ?_, ?_, ?_⟩
  · unfold ksz; rw [if_neg (by omega), if_neg (by omega), if_neg (by omega)]
  · unfold ksg; simp [e]
  · unfold kbt; simp [e]
  · unfold kname; simp [e]
  · unfold kok; by_cases c : 1 ≤ n <;> simp <;> omega
theorem kyes {n : Int} (h : 1 ≤ n ∧ n ≤ 7) : kok n = true := by unfold kok; simp [h.1, h.2]
theorem kof_a (k : Nat) (n : Int) : acall T (k + 2) 50 0 [.v (.int .i64 n)] [] = some ⟨.tup [.agg (kcells n), .v (.bool (kok n))], [], 1⟩ := by
  by_cases h : 1 ≤ n ∧ n ≤ 7
  · rcases seven h with rfl | rfl | rfl | rfl | rfl | rfl | rfl <;> kernel_rfl
  · obtain ⟨h1, h2, h3, h4, h5⟩ := kno h
    rw [acall_go (body := b_iec_of) rfl rfl (Nat.zero_le _)]
    by_cases c1 : n < 1
    · simp -implicitDefEqProofs only [eqs, eqd, aCall, Sym.reach, Sym.pos, Sym.sub, lh_some, ↓reduceIte, reduceCtorEq, Nat.reduceEqDiff, Nat.reduceAdd, Nat.reduceSub, Nat.reduceMul, Nat.reduceLT, Nat.reduceLeDiff, Nat.reduceBEq, Nat.reduceBNe, Nat.reduceGT, Int.reduceEq, Int.reduceLT, Int.reduceLE, Int.reduceToNat, Int.reduceAdd, Int.reduceSub, Int.reduceMul, Int.reduceNeg, Int.reduceBEq, Int.reduceBNe, b_iec_of, c1, kcells, h1, h2, h3, h4, h5]
    · have c2 : 7 < n := by omega
      simp -implicitDefEqProofs only [eqs, eqd, aCall, Sym.reach, Sym.pos, Sym.sub, lh_some, ↓reduceIte, reduceCtorEq, Nat.reduceEqDiff, Nat.reduceAdd, Nat.reduceSub, Nat.reduceMul, Nat.reduceLT, Nat.reduceLeDiff, Nat.reduceBEq, Nat.reduceBNe, Nat.reduceGT, Int.reduceEq, Int.reduceLT, Int.reduceLE, Int.reduceToNat, Int.reduceAdd, Int.reduceSub, Int.reduceMul, Int.reduceNeg, Int.reduceBEq, Int.reduceBNe, b_iec_of, c1, c2, kcells, h1, h2, h3, h4, h5]
theorem ksize_a (k : Nat) (n : Int) : acall T (k + 3) 35 0 [.v (.int .i64 n)] [] = some ⟨.v (.int .i64 (ksz n)), [], 1⟩ := by
  rw [acall_go (body := b_iec_Size) rfl rfl (Nat.zero_le _)]
  have h := kof_a k n
  simp -implicitDefEqProofs only [eqs, eqd, aCall, Sym.reach, Sym.pos, Sym.sub, lh_some, ↓reduceIte, reduceCtorEq, Nat.reduceEqDiff, Nat.reduceAdd, Nat.reduceSub, Nat.reduceMul, Nat.reduceLT, Nat.reduceLeDiff, Nat.reduceBEq, Nat.reduceBNe, Nat.reduceGT, Int.reduceEq, Int.reduceLT, Int.reduceLE, Int.reduceToNat, Int.reduceAdd, Int.reduceSub, Int.reduceMul, Int.reduceNeg, Int.reduceBEq, Int.reduceBNe, b_iec_Size, h, kcells]
theorem rsize_a (k : Nat) (n : Int) : acall T (k + 2) 21 0 [.v (.int .i64 n)] [] = some ⟨.v (.int .i64 (ksz n)), [], 1⟩ := by
  by_cases h : 1 ≤ n ∧ n ≤ 7
  · rcases seven h with rfl | rfl | rfl | rfl | rfl | rfl | rfl <;> kernel_rfl
  · obtain ⟨h1, h2, h3, h4, h5⟩ := kno h
    rw [acall_go (body := b_fuglemanref11_Size) rfl rfl (Nat.zero_le _)]
    by_cases c1 : n < 0
    · simp -implicitDefEqProofs only [eqs, eqd, aCall, Sym.reach, Sym.pos, Sym.sub, lh_some, ↓reduceIte, reduceCtorEq, Nat.reduceEqDiff, Nat.reduceAdd, Nat.reduceSub, Nat.reduceMul, Nat.reduceLT, Nat.reduceLeDiff, Nat.reduceBEq, Nat.reduceBNe, Nat.reduceGT, Int.reduceEq, Int.reduceLT, Int.reduceLE, Int.reduceToNat, Int.reduceAdd, Int.reduceSub, Int.reduceMul, Int.reduceNeg, Int.reduceBEq, Int.reduceBNe, b_fuglemanref11_Size, c1, h1]
    · by_cases c2 : 7 < n
      · simp -implicitDefEqProofs only [eqs, eqd, aCall, Sym.reach, Sym.pos, Sym.sub, lh_some, ↓reduceIte, reduceCtorEq, Nat.reduceEqDiff, Nat.reduceAdd, Nat.reduceSub, Nat.reduceMul, Nat.reduceLT, Nat.reduceLeDiff, Nat.reduceBEq, Nat.reduceBNe, Nat.reduceGT, Int.reduceEq, Int.reduceLT, Int.reduceLE, Int.reduceToNat, Int.reduceAdd, Int.reduceSub, Int.reduceMul, Int.reduceNeg, Int.reduceBEq, Int.reduceBNe, b_fuglemanref11_Size, c1, c2, h1]
      · obtain rfl : n = 0 := by omega
        simp -implicitDefEqProofs only [eqs, eqd, aCall, Sym.reach, Sym.pos, Sym.sub, lh_some, ↓reduceIte, reduceCtorEq, Nat.reduceEqDiff, Nat.reduceAdd, Nat.reduceSub, Nat.reduceMul, Nat.reduceLT, Nat.reduceLeDiff, Nat.reduceBEq, Nat.reduceBNe, Nat.reduceGT, Int.reduceEq, Int.reduceLT, Int.reduceLE, Int.reduceToNat, Int.reduceAdd, Int.reduceSub, Int.reduceMul, Int.reduceNeg, Int.reduceBEq, Int.reduceBNe, b_fuglemanref11_Size, h1]
/-- May an operation be done with a kind? -/
def may (op k : Int) : Bool := kok k && (if 7 ≤ op ∧ op ≤ 13 then kbt k else if 14 ≤ op ∧ op ≤ 18 then !kbt k else decide (19 ≤ op) && decide (op ≤ 24))
theorem may_a (k : Nat) (op n : Int) : acall T (k + 3) 48 0 [.v (.int .i64 op), .v (.int .i64 n)] [] = some ⟨.v (.bool (may op n)), [], 1⟩ := by
  rw [acall_go (body := b_iec_May) rfl rfl (Nat.zero_le _)]
  have h := kof_a k n
  unfold may
  cases c0 : kok n
  · rw [c0] at h
    simp -implicitDefEqProofs only [eqs, eqd, aCall, Sym.reach, Sym.pos, Sym.sub, lh_some, ↓reduceIte, reduceCtorEq, Nat.reduceEqDiff, Nat.reduceAdd, Nat.reduceSub, Nat.reduceMul, Nat.reduceLT, Nat.reduceLeDiff, Nat.reduceBEq, Nat.reduceBNe, Nat.reduceGT, Int.reduceEq, Int.reduceLT, Int.reduceLE, Int.reduceToNat, Int.reduceAdd, Int.reduceSub, Int.reduceMul, Int.reduceNeg, Int.reduceBEq, Int.reduceBNe, b_iec_May, g_iec_May_0, g_iec_May_1, h, kcells]
  · rw [c0] at h
    by_cases c1 : 7 ≤ op
    · by_cases c2 : op ≤ 13
      · simp -implicitDefEqProofs only [eqs, eqd, aCall, Sym.reach, Sym.pos, Sym.sub, lh_some, ↓reduceIte, reduceCtorEq, Nat.reduceEqDiff, Nat.reduceAdd, Nat.reduceSub, Nat.reduceMul, Nat.reduceLT, Nat.reduceLeDiff, Nat.reduceBEq, Nat.reduceBNe, Nat.reduceGT, Int.reduceEq, Int.reduceLT, Int.reduceLE, Int.reduceToNat, Int.reduceAdd, Int.reduceSub, Int.reduceMul, Int.reduceNeg, Int.reduceBEq, Int.reduceBNe, b_iec_May, g_iec_May_0, g_iec_May_1, h, kcells, c1, c2]
      · by_cases c3 : 14 ≤ op
        · by_cases c4 : op ≤ 18
          · simp -implicitDefEqProofs only [eqs, eqd, aCall, Sym.reach, Sym.pos, Sym.sub, lh_some, ↓reduceIte, reduceCtorEq, Nat.reduceEqDiff, Nat.reduceAdd, Nat.reduceSub, Nat.reduceMul, Nat.reduceLT, Nat.reduceLeDiff, Nat.reduceBEq, Nat.reduceBNe, Nat.reduceGT, Int.reduceEq, Int.reduceLT, Int.reduceLE, Int.reduceToNat, Int.reduceAdd, Int.reduceSub, Int.reduceMul, Int.reduceNeg, Int.reduceBEq, Int.reduceBNe, b_iec_May, g_iec_May_0, g_iec_May_1, h, kcells, c1, c2, c3, c4]
          · by_cases c5 : 19 ≤ op
            · simp -implicitDefEqProofs only [eqs, eqd, aCall, Sym.reach, Sym.pos, Sym.sub, lh_some, ↓reduceIte, reduceCtorEq, Nat.reduceEqDiff, Nat.reduceAdd, Nat.reduceSub, Nat.reduceMul, Nat.reduceLT, Nat.reduceLeDiff, Nat.reduceBEq, Nat.reduceBNe, Nat.reduceGT, Int.reduceEq, Int.reduceLT, Int.reduceLE, Int.reduceToNat, Int.reduceAdd, Int.reduceSub, Int.reduceMul, Int.reduceNeg, Int.reduceBEq, Int.reduceBNe, b_iec_May, g_iec_May_0, g_iec_May_1, h, kcells, c1, c2, c3, c4, c5]
            · omega
        · omega
    · have c2 : ¬ 14 ≤ op := by omega
      have c3 : ¬ 19 ≤ op := by omega
      simp -implicitDefEqProofs only [eqs, eqd, aCall, Sym.reach, Sym.pos, Sym.sub, lh_some, ↓reduceIte, reduceCtorEq, Nat.reduceEqDiff, Nat.reduceAdd, Nat.reduceSub, Nat.reduceMul, Nat.reduceLT, Nat.reduceLeDiff, Nat.reduceBEq, Nat.reduceBNe, Nat.reduceGT, Int.reduceEq, Int.reduceLT, Int.reduceLE, Int.reduceToNat, Int.reduceAdd, Int.reduceSub, Int.reduceMul, Int.reduceNeg, Int.reduceBEq, Int.reduceBNe, b_iec_May, g_iec_May_0, g_iec_May_1, h, kcells, c1, c2, c3]
theorem rmay_a (k : Nat) (op n : Int) : acall T (k + 3) 32 0 [.v (.int .i64 op), .v (.int .i64 n)] [] = some ⟨.v (.bool (may op n)), [], 1⟩ := by
  rw [acall_go (body := b_fuglemanref11_May) rfl rfl (Nat.zero_le _)]
  have h := rsize_a k n
  unfold may
  by_cases h0 : 1 ≤ n ∧ n ≤ 7
  · have e0 : kok n = true := kyes h0
    have e1 : (ksz n == 0) = false := by rcases seven h0 with rfl | rfl | rfl | rfl | rfl | rfl | rfl <;> rfl
    have e2 : kbt n = (n == 1 || decide (6 ≤ n)) := by rcases seven h0 with rfl | rfl | rfl | rfl | rfl | rfl | rfl <;> rfl
    rw [e0, e2]
    by_cases a1 : 7 ≤ op
    · by_cases a2 : op ≤ 13
      · have b1 : ¬ 14 ≤ op := by omega
        have b2 : ¬ 19 ≤ op := by omega
        have b3 : op ≤ 18 := by omega
        have b4 : op ≤ 24 := by omega
        by_cases d1 : n = 1
        · subst d1
          simp -implicitDefEqProofs only [eqs, eqd, aCall, Sym.reach, Sym.pos, Sym.sub, lh_some, ↓reduceIte, reduceCtorEq, Nat.reduceEqDiff, Nat.reduceAdd, Nat.reduceSub, Nat.reduceMul, Nat.reduceLT, Nat.reduceLeDiff, Nat.reduceBEq, Nat.reduceBNe, Nat.reduceGT, Int.reduceEq, Int.reduceLT, Int.reduceLE, Int.reduceToNat, Int.reduceAdd, Int.reduceSub, Int.reduceMul, Int.reduceNeg, Int.reduceBEq, Int.reduceBNe, b_fuglemanref11_May, h, e1, a1, a2, b1, b2, b3, b4]
        · have d1' : (n == 1) = false := by simpa using d1
          by_cases d2 : 6 ≤ n <;> simp -implicitDefEqProofs only [eqs, eqd, aCall, Sym.reach, Sym.pos, Sym.sub, lh_some, ↓reduceIte, reduceCtorEq, Nat.reduceEqDiff, Nat.reduceAdd, Nat.reduceSub, Nat.reduceMul, Nat.reduceLT, Nat.reduceLeDiff, Nat.reduceBEq, Nat.reduceBNe, Nat.reduceGT, Int.reduceEq, Int.reduceLT, Int.reduceLE, Int.reduceToNat, Int.reduceAdd, Int.reduceSub, Int.reduceMul, Int.reduceNeg, Int.reduceBEq, Int.reduceBNe, b_fuglemanref11_May, h, e1, a1, a2, b1, b2, b3, b4, d1', d2]
      · by_cases a3 : op ≤ 18
        · have b1 : 14 ≤ op := by omega
          have b2 : ¬ 19 ≤ op := by omega
          have b4 : op ≤ 24 := by omega
          by_cases d2 : 2 ≤ n
          · have d1' : (n == 1) = false := by rw [beq_eq_false_iff_ne]; omega
            by_cases d3 : n ≤ 5
            · have d4 : ¬ 6 ≤ n := by omega
              simp -implicitDefEqProofs only [eqs, eqd, aCall, Sym.reach, Sym.pos, Sym.sub, lh_some, ↓reduceIte, reduceCtorEq, Nat.reduceEqDiff, Nat.reduceAdd, Nat.reduceSub, Nat.reduceMul, Nat.reduceLT, Nat.reduceLeDiff, Nat.reduceBEq, Nat.reduceBNe, Nat.reduceGT, Int.reduceEq, Int.reduceLT, Int.reduceLE, Int.reduceToNat, Int.reduceAdd, Int.reduceSub, Int.reduceMul, Int.reduceNeg, Int.reduceBEq, Int.reduceBNe, b_fuglemanref11_May, h, e1, a1, a2, a3, b1, b2, b4, d1', d2, d3, d4]
            · have d4 : 6 ≤ n := by omega
              simp -implicitDefEqProofs only [eqs, eqd, aCall, Sym.reach, Sym.pos, Sym.sub, lh_some, ↓reduceIte, reduceCtorEq, Nat.reduceEqDiff, Nat.reduceAdd, Nat.reduceSub, Nat.reduceMul, Nat.reduceLT, Nat.reduceLeDiff, Nat.reduceBEq, Nat.reduceBNe, Nat.reduceGT, Int.reduceEq, Int.reduceLT, Int.reduceLE, Int.reduceToNat, Int.reduceAdd, Int.reduceSub, Int.reduceMul, Int.reduceNeg, Int.reduceBEq, Int.reduceBNe, b_fuglemanref11_May, h, e1, a1, a2, a3, b1, b2, b4, d1', d2, d3, d4]
          · obtain rfl : n = 1 := by omega
            simp -implicitDefEqProofs only [eqs, eqd, aCall, Sym.reach, Sym.pos, Sym.sub, lh_some, ↓reduceIte, reduceCtorEq, Nat.reduceEqDiff, Nat.reduceAdd, Nat.reduceSub, Nat.reduceMul, Nat.reduceLT, Nat.reduceLeDiff, Nat.reduceBEq, Nat.reduceBNe, Nat.reduceGT, Int.reduceEq, Int.reduceLT, Int.reduceLE, Int.reduceToNat, Int.reduceAdd, Int.reduceSub, Int.reduceMul, Int.reduceNeg, Int.reduceBEq, Int.reduceBNe, b_fuglemanref11_May, h, e1, a1, a2, a3, b1, b2, b4]
        · have b1 : 14 ≤ op := by omega
          have b2 : 19 ≤ op := by omega
          by_cases b4 : op ≤ 24 <;> simp -implicitDefEqProofs only [eqs, eqd, aCall, Sym.reach, Sym.pos, Sym.sub, lh_some, ↓reduceIte, reduceCtorEq, Nat.reduceEqDiff, Nat.reduceAdd, Nat.reduceSub, Nat.reduceMul, Nat.reduceLT, Nat.reduceLeDiff, Nat.reduceBEq, Nat.reduceBNe, Nat.reduceGT, Int.reduceEq, Int.reduceLT, Int.reduceLE, Int.reduceToNat, Int.reduceAdd, Int.reduceSub, Int.reduceMul, Int.reduceNeg, Int.reduceBEq, Int.reduceBNe, b_fuglemanref11_May, h, e1, a1, a2, a3, b1, b2, b4]
    · have a2 : op ≤ 13 := by omega
      have a3 : op ≤ 18 := by omega
      have b1 : ¬ 14 ≤ op := by omega
      have b2 : ¬ 19 ≤ op := by omega
      have b4 : op ≤ 24 := by omega
      simp -implicitDefEqProofs only [eqs, eqd, aCall, Sym.reach, Sym.pos, Sym.sub, lh_some, ↓reduceIte, reduceCtorEq, Nat.reduceEqDiff, Nat.reduceAdd, Nat.reduceSub, Nat.reduceMul, Nat.reduceLT, Nat.reduceLeDiff, Nat.reduceBEq, Nat.reduceBNe, Nat.reduceGT, Int.reduceEq, Int.reduceLT, Int.reduceLE, Int.reduceToNat, Int.reduceAdd, Int.reduceSub, Int.reduceMul, Int.reduceNeg, Int.reduceBEq, Int.reduceBNe, b_fuglemanref11_May, h, e1, a1, a2, a3, b1, b2, b4]
  · obtain ⟨h1, h2, h3, h4, h5⟩ := kno h0
    rw [h1] at h
    rw [h5]
    by_cases a1 : 7 ≤ op <;> by_cases b1 : 14 ≤ op <;> by_cases b2 : 19 ≤ op <;> simp -implicitDefEqProofs only [eqs, eqd, aCall, Sym.reach, Sym.pos, Sym.sub, lh_some, ↓reduceIte, reduceCtorEq, Nat.reduceEqDiff, Nat.reduceAdd, Nat.reduceSub, Nat.reduceMul, Nat.reduceLT, Nat.reduceLeDiff, Nat.reduceBEq, Nat.reduceBNe, Nat.reduceGT, Int.reduceEq, Int.reduceLT, Int.reduceLE, Int.reduceToNat, Int.reduceAdd, Int.reduceSub, Int.reduceMul, Int.reduceNeg, Int.reduceBEq, Int.reduceBNe, b_fuglemanref11_May, h, a1, b1, b2]
end Go.Proofs.Ytlefnekfeeihaaa.Ver

/- Instructions that may be: package il's answer, and the document's. Written by a program for this claim. -/
namespace Go.Proofs.Ytlefnekfeeihaaa.Ver
open Go Go.Proofs.Ytlefnekfeeihaaa.Sym Go.Proofs.Ytlefnekfeeihaaa.Tab
set_option linter.unusedVariables false
set_option linter.unusedSimpArgs false
set_option maxHeartbeats 4000000
set_option maxRecDepth 20000
def klo (k : Int) : Int := if k = 2 then -128 else if k = 3 then -32768 else if k = 4 then -2147483648 else 0
def khi (k : Int) : Int := if k = 1 then 1 else if k = 2 then 127 else if k = 3 then 32767 else if k = 4 then 2147483647 else if k = 5 ∨ k = 6 then 65535 else 4294967295
/-- Is a number a value of a kind? -/
def isK (k v : Int) : Bool := kok k && (decide (klo k ≤ v) && decide (v ≤ khi k))
def wrapK (k v : Int) : Int := if k = 1 then (if v = 0 then 0 else 1) else if k = 2 then IntKind.i64.wrap (IntKind.i8.wrap v) else if k = 3 then IntKind.i64.wrap (IntKind.i16.wrap v) else if k = 4 then IntKind.i64.wrap (IntKind.i32.wrap v) else if k = 5 ∨ k = 6 then IntKind.i64.wrap (IntKind.u16.wrap v) else if k = 7 then IntKind.i64.wrap (IntKind.u32.wrap v) else 0
theorem wi8 (v : Int) : IntKind.i8.wrap v = (v + 128) % 256 - 128 := by
  simp [IntKind.wrap, IntKind.bits, IntKind.signed]
  split <;> omega
theorem wi16 (v : Int) : IntKind.i16.wrap v = (v + 32768) % 65536 - 32768 := by
  simp [IntKind.wrap, IntKind.bits, IntKind.signed]
  split <;> omega
theorem wi32 (v : Int) : IntKind.i32.wrap v = (v + 2147483648) % 4294967296 - 2147483648 := by
  simp [IntKind.wrap, IntKind.bits, IntKind.signed]
  split <;> omega
theorem wu16' (v : Int) : IntKind.u16.wrap v = v % 65536 := by simp [IntKind.wrap, IntKind.bits, IntKind.signed]
theorem wu32' (v : Int) : IntKind.u32.wrap v = v % 4294967296 := by simp [IntKind.wrap, IntKind.bits, IntKind.signed]
theorem beq_dec {a b : Int} {p : Bool} (h : a = b ↔ p = true) : (a == b) = p := by
  cases p
  · rw [beq_eq_false_iff_ne]; intro e; have := h.1 e; cases this
  · rw [beq_iff_eq]; exact h.2 rfl
theorem wrap_is (k v : Int) : (kok k && (wrapK k v == v)) = isK k v := by
  unfold isK
  by_cases h : 1 ≤ k ∧ k ≤ 7
  · rw [kyes h, Bool.true_and, Bool.true_and]
    refine beq_dec ?_
    rw [Bool.and_eq_true, decide_eq_true_eq, decide_eq_true_eq]
    rcases seven h with rfl | rfl | rfl | rfl | rfl | rfl | rfl
    · show (if v = 0 then (0 : Int) else 1) = v ↔ 0 ≤ v ∧ v ≤ 1
      split <;> omega
    · show IntKind.i64.wrap (IntKind.i8.wrap v) = v ↔ -128 ≤ v ∧ v ≤ 127
      rw [wi8, w64 (by omega) (by omega)]; omega
    · show IntKind.i64.wrap (IntKind.i16.wrap v) = v ↔ -32768 ≤ v ∧ v ≤ 32767
      rw [wi16, w64 (by omega) (by omega)]; omega
    · show IntKind.i64.wrap (IntKind.i32.wrap v) = v ↔ -2147483648 ≤ v ∧ v ≤ 2147483647
      rw [wi32, w64 (by omega) (by omega)]; omega
    · show IntKind.i64.wrap (IntKind.u16.wrap v) = v ↔ 0 ≤ v ∧ v ≤ 65535
      rw [wu16', w64 (by omega) (by omega)]; omega
    · show IntKind.i64.wrap (IntKind.u16.wrap v) = v ↔ 0 ≤ v ∧ v ≤ 65535
      rw [wu16', w64 (by omega) (by omega)]; omega
    · show IntKind.i64.wrap (IntKind.u32.wrap v) = v ↔ 0 ≤ v ∧ v ≤ 4294967295
      rw [wu32', w64 (by omega) (by omega)]; omega
  · rw [(kno h).2.2.2.2, Bool.false_and, Bool.false_and]
theorem wrap_a (k : Nat) (n v : Int) (hn : 1 ≤ n ∧ n ≤ 7) : acall T (k + 3) 52 0 [.v (.int .i64 n), .v (.int .i64 v)] [] = some ⟨.v (.int .i64 (wrapK n v)), [], 1⟩ := by
  rcases seven hn with rfl | rfl | rfl | rfl | rfl | rfl | rfl
  · have h := kof_a k 1
    have e1 : ksz 1 = 1 := rfl
    have e2 : ksg 1 = false := rfl
    have e3 : kok 1 = true := rfl
    rw [acall_go (body := b_iec_Wrap) rfl rfl (Nat.zero_le _)]
    by_cases c : v = 0
    · subst c
      simp -implicitDefEqProofs only [eqs, eqd, aCall, Sym.reach, Sym.pos, Sym.sub, lh_some, ↓reduceIte, reduceCtorEq, Nat.reduceEqDiff, Nat.reduceAdd, Nat.reduceSub, Nat.reduceMul, Nat.reduceLT, Nat.reduceLeDiff, Nat.reduceBEq, Nat.reduceBNe, Nat.reduceGT, Int.reduceEq, Int.reduceLT, Int.reduceLE, Int.reduceToNat, Int.reduceAdd, Int.reduceSub, Int.reduceMul, Int.reduceNeg, Int.reduceBEq, Int.reduceBNe, b_iec_Wrap, g_iec_Wrap_0, g_iec_Wrap_1, g_iec_Wrap_2, g_iec_Wrap_3, g_iec_Wrap_4, g_iec_Wrap_5, h, e1, e2, e3, kcells, wrapK]
    · have c' : (v != 0) = true := by simpa using c
      simp -implicitDefEqProofs only [eqs, eqd, aCall, Sym.reach, Sym.pos, Sym.sub, lh_some, ↓reduceIte, reduceCtorEq, Nat.reduceEqDiff, Nat.reduceAdd, Nat.reduceSub, Nat.reduceMul, Nat.reduceLT, Nat.reduceLeDiff, Nat.reduceBEq, Nat.reduceBNe, Nat.reduceGT, Int.reduceEq, Int.reduceLT, Int.reduceLE, Int.reduceToNat, Int.reduceAdd, Int.reduceSub, Int.reduceMul, Int.reduceNeg, Int.reduceBEq, Int.reduceBNe, b_iec_Wrap, g_iec_Wrap_0, g_iec_Wrap_1, g_iec_Wrap_2, g_iec_Wrap_3, g_iec_Wrap_4, g_iec_Wrap_5, h, e1, e2, e3, kcells, wrapK, c, c']
  all_goals kernel_rfl
theorem is_a (k : Nat) (n v : Int) : acall T (k + 4) 37 0 [.v (.int .i64 n), .v (.int .i64 v)] [] = some ⟨.v (.bool (isK n v)), [], 1⟩ := by
  rw [acall_go (body := b_iec_Is) rfl rfl (Nat.zero_le _), ← wrap_is]
  have h := kof_a (k + 1) n
  by_cases hn : 1 ≤ n ∧ n ≤ 7
  · have h2 := wrap_a k n v hn
    rw [kyes hn] at h ⊢
    simp -implicitDefEqProofs only [eqs, eqd, aCall, Sym.reach, Sym.pos, Sym.sub, lh_some, ↓reduceIte, reduceCtorEq, Nat.reduceEqDiff, Nat.reduceAdd, Nat.reduceSub, Nat.reduceMul, Nat.reduceLT, Nat.reduceLeDiff, Nat.reduceBEq, Nat.reduceBNe, Nat.reduceGT, Int.reduceEq, Int.reduceLT, Int.reduceLE, Int.reduceToNat, Int.reduceAdd, Int.reduceSub, Int.reduceMul, Int.reduceNeg, Int.reduceBEq, Int.reduceBNe, b_iec_Is, h, h2, kcells]
  · rw [(kno hn).2.2.2.2] at h ⊢
    simp -implicitDefEqProofs only [eqs, eqd, aCall, Sym.reach, Sym.pos, Sym.sub, lh_some, ↓reduceIte, reduceCtorEq, Nat.reduceEqDiff, Nat.reduceAdd, Nat.reduceSub, Nat.reduceMul, Nat.reduceLT, Nat.reduceLeDiff, Nat.reduceBEq, Nat.reduceBNe, Nat.reduceGT, Int.reduceEq, Int.reduceLT, Int.reduceLE, Int.reduceToNat, Int.reduceAdd, Int.reduceSub, Int.reduceMul, Int.reduceNeg, Int.reduceBEq, Int.reduceBNe, b_iec_Is, h, kcells]
theorem many_a (k : Nat) (n : Int) (hn : 1 ≤ n ∧ n ≤ 7) : acall T (k + 8) 34 0 [.v (.int .i64 n)] [] = some ⟨.v (.int .i64 (khi n - klo n + 1)), [], if n = 1 then 0 else 1⟩ := by
  rcases seven hn with rfl | rfl | rfl | rfl | rfl | rfl | rfl <;> kernel_rfl
theorem least_a (k : Nat) (n : Int) (hn : 1 ≤ n ∧ n ≤ 7) : acall T (k + 9) 33 0 [.v (.int .i64 n)] [] = some ⟨.v (.int .i64 (klo n)), [], if 2 ≤ n ∧ n ≤ 4 then 1 else 0⟩ := by
  rcases seven hn with rfl | rfl | rfl | rfl | rfl | rfl | rfl <;> kernel_rfl
theorem ris_a (k : Nat) (n v : Int) : acall T (k + 10) 18 0 [.v (.int .i64 n), .v (.int .i64 v)] [] = some ⟨.v (.bool (isK n v)), [], 1⟩ := by
  rw [acall_go (body := b_fuglemanref11_Is) rfl rfl (Nat.zero_le _)]
  have h := rsize_a (k + 7) n
  unfold isK
  by_cases hn : 1 ≤ n ∧ n ≤ 7
  · obtain ⟨d1, hd1, h1⟩ : ∃ d1, (d1 = 0 ∨ d1 = 1) ∧ acall T (k + 9) 34 0 [.v (.int .i64 n)] [] = some ⟨.v (.int .i64 (khi n - klo n + 1)), [], d1⟩ := ⟨_, by split <;> simp, many_a (k + 1) n hn⟩
    obtain ⟨d2, hd2, h2⟩ : ∃ d2, (d2 = 0 ∨ d2 = 1) ∧ acall T (k + 9) 33 0 [.v (.int .i64 n)] [] = some ⟨.v (.int .i64 (klo n)), [], d2⟩ := ⟨_, by split <;> simp, least_a k n hn⟩
    have e0 : 0 < ksz n := by rcases seven hn with rfl | rfl | rfl | rfl | rfl | rfl | rfl <;> decide
    have e1 : -2147483648 ≤ klo n ∧ klo n ≤ 0 ∧ 1 ≤ khi n ∧ khi n ≤ 4294967295 := by rcases seven hn with rfl | rfl | rfl | rfl | rfl | rfl | rfl <;> decide
    have e2 : IntKind.i64.wrap (klo n + (khi n - klo n + 1)) = khi n + 1 := by rw [w64 (by omega) (by omega)]; omega
    have e3 : IntKind.i64.wrap (khi n + 1 - 1) = khi n := by rw [w64 (by omega) (by omega)]; omega
    rw [kyes hn]
    generalize klo n = lo at *
    generalize khi n = hi at *
    by_cases c1 : lo ≤ v <;> rcases hd1 with rfl | rfl <;> rcases hd2 with rfl | rfl <;> simp -implicitDefEqProofs only [eqs, eqd, aCall, Sym.reach, Sym.pos, Sym.sub, lh_some, ↓reduceIte, reduceCtorEq, Nat.reduceEqDiff, Nat.reduceAdd, Nat.reduceSub, Nat.reduceMul, Nat.reduceLT, Nat.reduceLeDiff, Nat.reduceBEq, Nat.reduceBNe, Nat.reduceGT, Int.reduceEq, Int.reduceLT, Int.reduceLE, Int.reduceToNat, Int.reduceAdd, Int.reduceSub, Int.reduceMul, Int.reduceNeg, Int.reduceBEq, Int.reduceBNe, b_fuglemanref11_Is, h, h1, h2, e0, e2, e3, c1]
  · rw [(kno hn).2.2.2.2]
    rw [(kno hn).1] at h
    simp -implicitDefEqProofs only [eqs, eqd, aCall, Sym.reach, Sym.pos, Sym.sub, lh_some, ↓reduceIte, reduceCtorEq, Nat.reduceEqDiff, Nat.reduceAdd, Nat.reduceSub, Nat.reduceMul, Nat.reduceLT, Nat.reduceLeDiff, Nat.reduceBEq, Nat.reduceBNe, Nat.reduceGT, Int.reduceEq, Int.reduceLT, Int.reduceLE, Int.reduceToNat, Int.reduceAdd, Int.reduceSub, Int.reduceMul, Int.reduceNeg, Int.reduceBEq, Int.reduceBNe, b_fuglemanref11_Is, h]
/-- What an operation asks for. -/
def cl (op : Int) : Int := if op = 1 ∨ op = 2 ∨ (7 ≤ op ∧ op ≤ 12) ∨ (14 ≤ op ∧ op ≤ 24) then 1 else if 3 ≤ op ∧ op ≤ 6 then 2 else if 25 ≤ op ∧ op ≤ 27 then 3 else if op = 13 ∨ (28 ≤ op ∧ op ≤ 30) ∨ op = 33 then 4 else if op = 31 then 5 else if op = 32 then 6 else if op = 34 ∨ op = 35 then 7 else if op = 36 then 8 else 0
noncomputable def onm (n : Int) : ByteArray := match acall T 5 36 0 [.v (.int .i64 n)] [] with
  | some ⟨.agg [.v (.string s), _], _, _⟩ => s
  | _ => ByteArray.empty
theorem upto37 : ∀ (n : Nat), n < 37 → n = 0 ∨ n = 1 ∨ n = 2 ∨ n = 3 ∨ n = 4 ∨ n = 5 ∨ n = 6 ∨ n = 7 ∨ n = 8 ∨ n = 9 ∨ n = 10 ∨ n = 11 ∨ n = 12 ∨ n = 13 ∨ n = 14 ∨ n = 15 ∨ n = 16 ∨ n = 17 ∨ n = 18 ∨ n = 19 ∨ n = 20 ∨ n = 21 ∨ n = 22 ∨ n = 23 ∨ n = 24 ∨ n = 25 ∨ n = 26 ∨ n = 27 ∨ n = 28 ∨ n = 29 ∨ n = 30 ∨ n = 31 ∨ n = 32 ∨ n = 33 ∨ n = 34 ∨ n = 35 ∨ n = 36 := by omega
theorem ilof_a (k : Nat) (n : Int) : ∃ s, acall T (k + 2) 36 0 [.v (.int .i64 n)] [] = some ⟨.agg [.v (.string s), .v (.int .i64 (cl n))], [], 1⟩ := by
  by_cases h : 0 ≤ n ∧ n < 37
  · refine ⟨onm n, ?_⟩
    obtain ⟨m, rfl⟩ : ∃ m : Nat, n = m := ⟨n.toNat, by omega⟩
    rcases upto37 m (by omega) with rfl | rfl | rfl | rfl | rfl | rfl | rfl | rfl | rfl | rfl | rfl | rfl | rfl | rfl | rfl | rfl | rfl | rfl | rfl | rfl | rfl | rfl | rfl | rfl | rfl | rfl | rfl | rfl | rfl | rfl | rfl | rfl | rfl | rfl | rfl | rfl | rfl <;> kernel_rfl
  · refine ⟨⟨#[]⟩, ?_⟩
    have e : cl n = 0 := by unfold cl; repeat (rw [if_neg (by omega)])
    rw [e, acall_go (body := b_il_of) rfl rfl (Nat.zero_le _)]
    have h2 : ∃ xs : List AV, acall T (k + 1) 51 0 [] [] = some ⟨.shr 37 true xs, [], 1⟩ := ⟨_, by rw [acall_go (body := b_il_ops) rfl rfl (Nat.zero_le _)]; simp -implicitDefEqProofs only [eqs, eqd, aCall, Sym.reach, Sym.pos, Sym.sub, lh_some, ↓reduceIte, reduceCtorEq, Nat.reduceEqDiff, Nat.reduceAdd, Nat.reduceSub, Nat.reduceMul, Nat.reduceLT, Nat.reduceLeDiff, Nat.reduceBEq, Nat.reduceBNe, Nat.reduceGT, Int.reduceEq, Int.reduceLT, Int.reduceLE, Int.reduceToNat, Int.reduceAdd, Int.reduceSub, Int.reduceMul, Int.reduceNeg, Int.reduceBEq, Int.reduceBNe, b_il_ops]; rfl⟩
    obtain ⟨xs, h2⟩ := h2
    by_cases c1 : n < 0
    · simp -implicitDefEqProofs only [eqs, eqd, aCall, Sym.reach, Sym.pos, Sym.sub, lh_some, ↓reduceIte, reduceCtorEq, Nat.reduceEqDiff, Nat.reduceAdd, Nat.reduceSub, Nat.reduceMul, Nat.reduceLT, Nat.reduceLeDiff, Nat.reduceBEq, Nat.reduceBNe, Nat.reduceGT, Int.reduceEq, Int.reduceLT, Int.reduceLE, Int.reduceToNat, Int.reduceAdd, Int.reduceSub, Int.reduceMul, Int.reduceNeg, Int.reduceBEq, Int.reduceBNe, b_il_of, h2, c1]
    · have c2 : (37 : Int) ≤ n := by omega
      simp -implicitDefEqProofs only [eqs, eqd, aCall, Sym.reach, Sym.pos, Sym.sub, lh_some, ↓reduceIte, reduceCtorEq, Nat.reduceEqDiff, Nat.reduceAdd, Nat.reduceSub, Nat.reduceMul, Nat.reduceLT, Nat.reduceLeDiff, Nat.reduceBEq, Nat.reduceBNe, Nat.reduceGT, Int.reduceEq, Int.reduceLT, Int.reduceLE, Int.reduceToNat, Int.reduceAdd, Int.reduceSub, Int.reduceMul, Int.reduceNeg, Int.reduceBEq, Int.reduceBNe, b_il_of, h2, c1, c2]
theorem within_a (k : Nat) (n : Int) : acall T (k + 3) 39 0 [.v (.int .i64 n)] [] = some ⟨.v (.bool ((cl n == 1) && decide (7 ≤ n))), [], 1⟩ := by
  rw [acall_go (body := b_il_within) rfl rfl (Nat.zero_le _)]
  obtain ⟨s, h⟩ := ilof_a k n
  try simp -implicitDefEqProofs only [eqs, eqd, aCall, Sym.reach, Sym.pos, Sym.sub, lh_some, ↓reduceIte, reduceCtorEq, Nat.reduceEqDiff, Nat.reduceAdd, Nat.reduceSub, Nat.reduceMul, Nat.reduceLT, Nat.reduceLeDiff, Nat.reduceBEq, Nat.reduceBNe, Nat.reduceGT, Int.reduceEq, Int.reduceLT, Int.reduceLE, Int.reduceToNat, Int.reduceAdd, Int.reduceSub, Int.reduceMul, Int.reduceNeg, Int.reduceBEq, Int.reduceBNe, b_il_within, h]
  cases h0 : (cl n == 1)
  · simp -implicitDefEqProofs only [eqs, eqd, aCall, Sym.reach, Sym.pos, Sym.sub, lh_some, ↓reduceIte, reduceCtorEq, Nat.reduceEqDiff, Nat.reduceAdd, Nat.reduceSub, Nat.reduceMul, Nat.reduceLT, Nat.reduceLeDiff, Nat.reduceBEq, Nat.reduceBNe, Nat.reduceGT, Int.reduceEq, Int.reduceLT, Int.reduceLE, Int.reduceToNat, Int.reduceAdd, Int.reduceSub, Int.reduceMul, Int.reduceNeg, Int.reduceBEq, Int.reduceBNe, b_il_within, h, h0]
  simp -implicitDefEqProofs only [eqs, eqd, aCall, Sym.reach, Sym.pos, Sym.sub, lh_some, ↓reduceIte, reduceCtorEq, Nat.reduceEqDiff, Nat.reduceAdd, Nat.reduceSub, Nat.reduceMul, Nat.reduceLT, Nat.reduceLeDiff, Nat.reduceBEq, Nat.reduceBNe, Nat.reduceGT, Int.reduceEq, Int.reduceLT, Int.reduceLE, Int.reduceToNat, Int.reduceAdd, Int.reduceSub, Int.reduceMul, Int.reduceNeg, Int.reduceBEq, Int.reduceBNe, b_il_within, h, h0]
theorem keeps_a (k : Nat) (n : Int) : acall T (k + 1) 40 0 [.v (.int .i64 n)] [] = some ⟨.v (.bool (n == 3 || n == 4)), [], 0⟩ := by
  rw [acall_go (body := b_il_keeps) rfl rfl (Nat.zero_le _)]
  cases h1 : (n == 3) <;> simp -implicitDefEqProofs only [eqs, eqd, aCall, Sym.reach, Sym.pos, Sym.sub, lh_some, ↓reduceIte, reduceCtorEq, Nat.reduceEqDiff, Nat.reduceAdd, Nat.reduceSub, Nat.reduceMul, Nat.reduceLT, Nat.reduceLeDiff, Nat.reduceBEq, Nat.reduceBNe, Nat.reduceGT, Int.reduceEq, Int.reduceLT, Int.reduceLE, Int.reduceToNat, Int.reduceAdd, Int.reduceSub, Int.reduceMul, Int.reduceNeg, Int.reduceBEq, Int.reduceBNe, b_il_keeps, h1]
end Go.Proofs.Ytlefnekfeeihaaa.Ver
