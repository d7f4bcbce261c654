/- Texts of this claim, one behind the other. -/
import Derived.Test.YtcfokbhmchcgbaaProg
import Derived.KernelRfl
import Derived.Test.YtcfokbhmchcgbaaMg14125274
import Derived.Test.YtcfokbhmchcgbaaMgf1381651
namespace Go.Proofs.Ytcfokbhmchcgbaa.Tab
open Go Go.Proofs.Ytcfokbhmchcgbaa.Sym
set_option linter.unusedVariables false

/-! fugleman/members.is: 72 -/
def b_members_is : AC :=
 (.seq (.seq (.reg [⟨(some 2), none, .mv (.c (.v (.bool false)))⟩]) (.drop [1, 2]))
 (.seq (.seq (.reg [⟨(some 3), none, .mv (.t 0)⟩, ⟨(some 4), none, .bin .geq (.t 3) (.c (.v (.int .i64 0)))⟩, ⟨(some 5), none, .mv (.t 4)⟩, ⟨(some 6), (some (5, true)), .mv (.t 0)⟩, ⟨(some 7), (some (5, true)), .bin .lss (.t 6) (.c (.v (.int .i64 32)))⟩, ⟨(some 8), none, .pick (.t 5) (.t 7) (.c (.v (.bool false)))⟩, ⟨(some 2), none, .mv (.t 8)⟩]) (.drop [3, 8]))
  .ret))
def a_members_is : AFn := ⟨1, b_members_is, [.t 2], false, false⟩
theorem a_members_is_ok : compF Try.prog Try.f72 [[1, 2], [3, 8]] false false hv = some a_members_is := by kernel_rfl

/-! fugleman/members.one: 58 -/
def b_members_one : AC :=
 (.seq (.seq (.reg [⟨(some 2), none, .mv (.c (.v (.int .u32 0)))⟩]) (.drop [1, 2]))
 (.seq (.seq (.seq (.reg [⟨(some 3), none, .mv (.t 0)⟩, ⟨(some 4), none, .call (.c (.fn 72 [])) [(.t 3)]⟩, ⟨(some 5), none, .un .not (.t 4)⟩]) (.drop [1, 4]))
   (.cond (.t 5) (.seq (.seq (.reg [⟨(some 2), none, .mv (.c (.v (.int .u32 0)))⟩]) (.drop []))
     .ret)
    .skip))
  (.seq (.seq (.reg [⟨(some 6), none, .mv (.t 0)⟩, ⟨(some 7), none, .bin .shl (.c (.v (.int .u32 1))) (.t 6)⟩, ⟨(some 2), none, .mv (.t 7)⟩]) (.drop [3, 7]))
   .ret)))
def a_members_one : AFn := ⟨1, b_members_one, [.t 2], false, false⟩
theorem a_members_one_ok : compF Try.prog Try.f58 [[1, 2], [1, 4], [], [3, 7]] false false hv = some a_members_one := by kernel_rfl

/-! fugleman/members.With: 45 -/
def b_members_With : AC :=
 (.seq (.seq (.reg [⟨(some 4), none, .mv (.c (.v (.int .u32 0)))⟩]) (.drop [2, 4]))
 (.seq (.seq (.reg [⟨(some 5), none, .mv (.t 0)⟩, ⟨(some 6), none, .mv (.t 1)⟩, ⟨(some 7), none, .call (.c (.fn 58 [])) [(.t 6)]⟩, ⟨(some 8), none, .bin .or (.t 5) (.t 7)⟩, ⟨(some 4), none, .mv (.t 8)⟩]) (.drop [5, 8]))
  .ret))
def a_members_With : AFn := ⟨2, b_members_With, [.t 4], false, false⟩
theorem a_members_With_ok : compF Try.prog Try.f45 [[2, 4], [5, 8]] false false hv = some a_members_With := by kernel_rfl

/-! fugleman/config.set: 27 -/
def l_config_set_1 : AC :=
 (.seq (.seq (.reg [⟨(some 23), none, .mv (.t 5)⟩, ⟨(some 4), none, .mv (.t 23)⟩]) (.drop [5, 23]))
 .ret)
def l_config_set_0 : AC :=
 (.seq (.seq (.reg [⟨(some 12), none, .bin .lss (.t 11) (.t 10)⟩]) (.drop []))
 (.seq (.cond (.t 12) .skip
   (.exit 0))
  (.seq (.block 1 (.seq (.seq (.reg [⟨(some 13), none, .ixs 6 (.t 9) (.t 11)⟩, ⟨(some 14), none, .load (some 6) (.t 13)⟩, ⟨(some 7), none, .alloc [(.v (.int .i64 0)), (.v (.int .i64 0)), (.v (.int .i64 0)), (.v (.slice none 0 0)), (.v (.slice none 0 0)), (.v (.slice none 0 0))]⟩, ⟨none, none, .store 6 (.t 7) (.t 14)⟩]) (.drop [12, 14]))
     (.seq (.seq (.reg [⟨(some 15), none, .mv (.t 1)⟩, ⟨(some 16), none, .load (some 6) (.t 7)⟩, ⟨(some 17), none, .call (.t 15) [(.t 16)]⟩]) (.drop [12, 16]))
      (.cond (.t 17) (.seq (.reg [⟨(some 18), none, .mv (.t 5)⟩, ⟨(some 19), none, .fad 0 (.t 7)⟩, ⟨(some 20), none, .load none (.t 19)⟩, ⟨(some 21), none, .call (.c (.fn 45 [])) [(.t 18), (.t 20)]⟩, ⟨(some 5), none, .mv (.t 21)⟩]) (.drop [12, 21]))
       .skip))))
   (.seq (.reg [⟨(some 22), none, .bin .add (.t 11) (.c (.v (.int .i64 1)))⟩, ⟨(some 11), none, .mv (.t 22)⟩]) (.drop [12, 22])))))
def b_config_set : AC :=
 (.seq (.seq (.reg [⟨(some 2), none, .box (.t 0)⟩, ⟨(some 4), none, .mv (.c (.v (.int .u32 0)))⟩]) (.drop [3, 4]))
 (.seq (.seq (.reg [⟨(some 5), none, .mv (.c (.v (.int .u32 0)))⟩]) (.drop []))
  (.seq (.seq (.seq (.reg [⟨(some 8), none, .fad 7 (.t 2)⟩, ⟨(some 9), none, .load none (.t 8)⟩, ⟨(some 10), none, .len (.t 9)⟩, ⟨(some 11), none, .mv (.c (.v (.int .i64 0)))⟩]) (.drop [6, 8]))
    (.block 0 (.loop [1, 5, 9, 10, 11] l_config_set_0)))
   l_config_set_1)))
def a_config_set : AFn := ⟨2, b_config_set, [.t 4], false, false⟩
theorem a_config_set_ok : compF Try.prog Try.f27 [[3, 4], [], [6, 8], [1, 5, 9, 10, 11], [], [12, 14], [12, 16], [12, 21], [12, 22], [5, 23]] false false hv = some a_config_set := by kernel_rfl

/-! fugleman/config.Addrs: 13 -/
def b_config_Addrs : AC :=
 (.seq (.seq (.reg [⟨(some 1), none, .box (.t 0)⟩, ⟨(some 2), none, .mv (.c (.v (.int .u32 0)))⟩]) (.drop [2, 2]))
 (.seq (.seq (.reg [⟨(some 3), none, .load (some 8) (.t 1)⟩, ⟨(some 4), none, .call (.c (.fn 27 [])) [(.t 3), (.c (.fn 28 []))]⟩, ⟨(some 2), none, .mv (.t 4)⟩]) (.drop [3, 4]))
  .ret))
def a_config_Addrs : AFn := ⟨1, b_config_Addrs, [.t 2], false, false⟩
theorem a_config_Addrs_ok : compF Try.prog Try.f13 [[2, 2], [3, 4]] false false hv = some a_config_Addrs := by kernel_rfl

/-! fugleman/fuglemanlaw20.awake: 6 -/
def b_fuglemanlaw20_awake : AC :=
 (.seq (.seq (.reg [⟨(some 0), none, .mv (.c (.v (.bool false)))⟩]) (.drop [0, 0]))
 (.seq (.seq (.reg [⟨(some 6), none, .build [(.v (.int .i64 0)), (.v (.int .i64 0)), (.v (.int .i64 0)), (.v (.slice none 0 0)), (.v (.slice none 0 0)), (.v (.slice none 0 0))] [(0, 1, (.c (.v (.int .i64 3)))), (1, 1, (.c (.v (.int .i64 1))))]⟩, ⟨(some 7), none, .build [(.v (.int .i64 0)), (.v (.int .i64 0)), (.v (.int .i64 0)), (.v (.slice none 0 0)), (.v (.slice none 0 0)), (.v (.slice none 0 0))] [(0, 1, (.c (.v (.int .i64 3)))), (1, 1, (.c (.v (.int .i64 2))))]⟩, ⟨(some 8), none, .row 6 2 [(.v (.int .i64 0)), (.v (.int .i64 0)), (.v (.int .i64 0)), (.v (.slice none 0 0)), (.v (.slice none 0 0)), (.v (.slice none 0 0))] [(0, 6, (.t 6)), (6, 6, (.t 7))]⟩, ⟨(some 9), none, .build [(.v (.int .i64 0)), (.v (.int .i64 0)), (.v (.int .i64 0)), (.v (.int .i64 0)), (.v (.int .i64 0)), (.v (.int .i64 0)), (.v (.slice none 0 0)), (.v (.slice none 0 0))] [(0, 1, (.c (.v (.int .i64 4)))), (1, 1, (.c (.v (.int .i64 10)))), (2, 1, (.c (.v (.int .i64 1)))), (4, 1, (.c (.v (.int .i64 9)))), (5, 1, (.c (.v (.int .i64 5)))), (7, 1, (.t 8))]⟩, ⟨(some 1), none, .alloc [(.v (.int .i64 0)), (.v (.int .i64 0)), (.v (.int .i64 0)), (.v (.int .i64 0)), (.v (.int .i64 0)), (.v (.int .i64 0)), (.v (.slice none 0 0)), (.v (.slice none 0 0))]⟩, ⟨none, none, .store 8 (.t 1) (.t 9)⟩]) (.drop [2, 9]))
  (.seq (.seq (.reg [⟨(some 11), none, .load (some 8) (.t 1)⟩, ⟨(some 12), none, .call (.c (.fn 8 [])) [(.t 11)]⟩, ⟨(some 10), none, .mv (.t 12)⟩, ⟨(some 13), none, .ext 0 (.t 10)⟩, ⟨(some 14), none, .ext 1 (.t 10)⟩, ⟨(some 2), none, .mv (.t 13)⟩, ⟨(some 3), none, .mv (.t 14)⟩]) (.drop [4, 14]))
   (.seq (.seq (.reg [⟨(some 16), none, .load (some 8) (.t 1)⟩, ⟨(some 17), none, .call (.c (.fn 10 [])) [(.t 16), (.c (.v (.int .i64 3)))]⟩, ⟨(some 15), none, .mv (.t 17)⟩, ⟨(some 18), none, .ext 0 (.t 15)⟩, ⟨(some 19), none, .ext 1 (.t 15)⟩, ⟨(some 4), none, .alloc [(.v (.int .i64 0)), (.v (.int .i64 0)), (.v (.int .i64 0)), (.v (.slice none 0 0)), (.v (.slice none 0 0)), (.v (.slice none 0 0))]⟩, ⟨none, none, .store 6 (.t 4) (.t 18)⟩, ⟨(some 5), none, .mv (.t 19)⟩]) (.drop [6, 19]))
    (.seq (.seq (.reg [⟨(some 20), none, .mv (.t 2)⟩, ⟨(some 21), none, .bin .eql (.t 20) (.c (.v (.int .i64 14)))⟩, ⟨(some 22), none, .mv (.t 21)⟩, ⟨(some 23), (some (22, true)), .mv (.t 3)⟩, ⟨(some 24), (some (22, true)), .bin .eql (.t 23) (.c (.v (.int .i64 101)))⟩, ⟨(some 25), none, .pick (.t 22) (.t 24) (.c (.v (.bool false)))⟩, ⟨(some 26), none, .mv (.t 25)⟩, ⟨(some 27), (some (26, true)), .mv (.t 5)⟩, ⟨(some 28), none, .pick (.t 26) (.t 27) (.c (.v (.bool false)))⟩, ⟨(some 29), none, .mv (.t 28)⟩, ⟨(some 30), (some (29, true)), .fad 1 (.t 4)⟩, ⟨(some 31), (some (29, true)), .load none (.t 30)⟩, ⟨(some 32), (some (29, true)), .bin .eql (.t 31) (.c (.v (.int .i64 1)))⟩, ⟨(some 33), none, .pick (.t 29) (.t 32) (.c (.v (.bool false)))⟩, ⟨(some 34), none, .mv (.t 33)⟩, ⟨(some 35), (some (34, true)), .load (some 8) (.t 1)⟩, ⟨(some 36), (some (34, true)), .call (.c (.fn 13 [])) [(.t 35)]⟩, ⟨(some 37), (some (34, true)), .bin .eql (.t 36) (.c (.v (.int .u32 8)))⟩, ⟨(some 38), none, .pick (.t 34) (.t 37) (.c (.v (.bool false)))⟩, ⟨(some 0), none, .mv (.t 38)⟩]) (.drop [1, 38]))
     .ret)))))
def a_fuglemanlaw20_awake : AFn := ⟨0, b_fuglemanlaw20_awake, [.t 0], false, false⟩
theorem a_fuglemanlaw20_awake_ok : compF Try.prog Try.f6 [[0, 0], [2, 9], [4, 14], [6, 19], [1, 38]] false false hv = some a_fuglemanlaw20_awake := by kernel_rfl

/-! fugleman/fuglemanlaw20.Small: 7 -/
def l_fuglemanlaw20_Small_1 : AC :=
 (.seq (.seq (.reg [⟨(some 2), none, .mv (.c (.v (.bool true)))⟩]) (.drop []))
 .ret)
def l_fuglemanlaw20_Small_0 : AC :=
 (.seq (.seq (.reg [⟨(some 19), none, .bin .lss (.t 18) (.t 17)⟩]) (.drop []))
 (.seq (.cond (.t 19) .skip
   (.exit 0))
  (.seq (.block 1 (.seq (.seq (.reg [⟨(some 20), none, .ixs 6 (.t 16) (.t 18)⟩, ⟨(some 21), none, .load (some 6) (.t 20)⟩, ⟨(some 4), none, .alloc [(.v (.int .i64 0)), (.v (.int .i64 0)), (.v (.int .i64 0)), (.v (.slice none 0 0)), (.v (.slice none 0 0)), (.v (.slice none 0 0))]⟩, ⟨none, none, .store 6 (.t 4) (.t 21)⟩]) (.drop [19, 21]))
     (.seq (.seq (.reg [⟨(some 22), none, .fad 3 (.t 4)⟩, ⟨(some 23), none, .load none (.t 22)⟩, ⟨(some 24), none, .len (.t 23)⟩, ⟨(some 25), none, .bin .gtr (.t 24) (.c (.v (.int .i64 210)))⟩, ⟨(some 26), none, .mv (.t 25)⟩, ⟨(some 27), (some (26, false)), .fad 4 (.t 4)⟩, ⟨(some 28), (some (26, false)), .load none (.t 27)⟩, ⟨(some 29), (some (26, false)), .len (.t 28)⟩, ⟨(some 30), (some (26, false)), .bin .gtr (.t 29) (.c (.v (.int .i64 40)))⟩, ⟨(some 31), none, .pick (.t 26) (.c (.v (.bool true))) (.t 30)⟩, ⟨(some 32), none, .mv (.t 31)⟩, ⟨(some 33), (some (32, false)), .fad 5 (.t 4)⟩, ⟨(some 34), (some (32, false)), .load none (.t 33)⟩, ⟨(some 35), (some (32, false)), .len (.t 34)⟩, ⟨(some 36), (some (32, false)), .bin .gtr (.t 35) (.c (.v (.int .i64 40)))⟩, ⟨(some 37), none, .pick (.t 32) (.c (.v (.bool true))) (.t 36)⟩]) (.drop [19, 36]))
      (.cond (.t 37) (.seq (.seq (.reg [⟨(some 2), none, .mv (.c (.v (.bool false)))⟩]) (.drop []))
        .ret)
       .skip))))
   (.seq (.reg [⟨(some 38), none, .bin .add (.t 18) (.c (.v (.int .i64 1)))⟩, ⟨(some 18), none, .mv (.t 38)⟩]) (.drop [19, 38])))))
def b_fuglemanlaw20_Small : AC :=
 (.seq (.seq (.reg [⟨(some 1), none, .box (.t 0)⟩, ⟨(some 2), none, .mv (.c (.v (.bool false)))⟩]) (.drop [2, 2]))
 (.seq (.seq (.seq (.reg [⟨(some 5), none, .fad 7 (.t 1)⟩, ⟨(some 6), none, .load none (.t 5)⟩, ⟨(some 7), none, .len (.t 6)⟩, ⟨(some 8), none, .bin .gtr (.t 7) (.c (.v (.int .i64 40)))⟩, ⟨(some 9), none, .mv (.t 8)⟩, ⟨(some 10), (some (9, false)), .fad 6 (.t 1)⟩, ⟨(some 11), (some (9, false)), .load none (.t 10)⟩, ⟨(some 12), (some (9, false)), .len (.t 11)⟩, ⟨(some 13), (some (9, false)), .bin .gtr (.t 12) (.c (.v (.int .i64 40)))⟩, ⟨(some 14), none, .pick (.t 9) (.c (.v (.bool true))) (.t 13)⟩]) (.drop [2, 13]))
   (.cond (.t 14) (.seq (.seq (.reg [⟨(some 2), none, .mv (.c (.v (.bool false)))⟩]) (.drop []))
     .ret)
    .skip))
  (.seq (.seq (.seq (.reg [⟨(some 15), none, .fad 7 (.t 1)⟩, ⟨(some 16), none, .load none (.t 15)⟩, ⟨(some 17), none, .len (.t 16)⟩, ⟨(some 18), none, .mv (.c (.v (.int .i64 0)))⟩]) (.drop [0, 15]))
    (.block 0 (.loop [16, 17, 18] l_fuglemanlaw20_Small_0)))
   l_fuglemanlaw20_Small_1)))
def a_fuglemanlaw20_Small : AFn := ⟨1, b_fuglemanlaw20_Small, [.t 2], false, false⟩
theorem a_fuglemanlaw20_Small_ok : compF Try.prog Try.f7 [[2, 2], [2, 13], [], [0, 15], [16, 17, 18], [], [19, 21], [19, 36], [], [19, 38], []] false false hv = some a_fuglemanlaw20_Small := by kernel_rfl

/-! fugleman/fuglemanref20.in: 23 -/
def b_fuglemanref20_in : AC :=
 (.seq (.seq (.reg [⟨(some 6), none, .mv (.c (.v (.bool false)))⟩]) (.drop [3, 6]))
 (.seq (.seq (.reg [⟨(some 7), none, .mv (.t 0)⟩, ⟨(some 8), none, .mv (.t 1)⟩, ⟨(some 9), none, .bin .geq (.t 7) (.t 8)⟩, ⟨(some 10), none, .mv (.t 9)⟩, ⟨(some 11), (some (10, true)), .mv (.t 0)⟩, ⟨(some 12), (some (10, true)), .mv (.t 2)⟩, ⟨(some 13), (some (10, true)), .bin .leq (.t 11) (.t 12)⟩, ⟨(some 14), none, .pick (.t 10) (.t 13) (.c (.v (.bool false)))⟩, ⟨(some 6), none, .mv (.t 14)⟩]) (.drop [7, 14]))
  .ret))
def a_fuglemanref20_in : AFn := ⟨3, b_fuglemanref20_in, [.t 6], false, false⟩
theorem a_fuglemanref20_in_ok : compF Try.prog Try.f23 [[3, 6], [7, 14]] false false hv = some a_fuglemanref20_in := by kernel_rfl

/-! fugleman/fuglemanref16.Check: 24 -/
def l_fuglemanref16_Check_3 : AC :=
 (.seq (.seq (.reg [⟨(some 2), none, .mv (.c (.v (.int .i64 0)))⟩, ⟨(some 3), none, .mv (.c (.v (.int .i64 0)))⟩]) (.drop []))
 .ret)
def l_fuglemanref16_Check_2 : AC :=
 (.seq (.reg [⟨(some 14), none, .mv (.t 4)⟩, ⟨(some 15), none, .bin .add (.t 14) (.c (.v (.int .i64 1)))⟩, ⟨(some 4), none, .mv (.t 15)⟩]) (.drop [5, 15]))
def l_fuglemanref16_Check_1 : AC :=
 (.seq (.seq (.seq (.reg [⟨(some 49), none, .mv (.t 6)⟩, ⟨(some 50), none, .mv (.t 4)⟩, ⟨(some 51), none, .bin .lss (.t 49) (.t 50)⟩]) (.drop [7, 50]))
  (.cond (.t 51) .skip
   (.exit 2)))
 (.seq (.block 3 (.seq (.seq (.regq [⟨(some 54), none, .mv (.t 0)⟩, ⟨(some 55), none, .mv (.t 6)⟩, ⟨(some 56), none, .ixs 4 (.t 54) (.t 55)⟩, ⟨(some 57), none, .fad 0 (.t 56)⟩, ⟨(some 58), none, .load none (.t 57)⟩, ⟨(some 59), none, .fad 0 (.t 5)⟩, ⟨(some 60), none, .load none (.t 59)⟩, ⟨(some 61), none, .bin .eql (.t 58) (.t 60)⟩]) (.drop [7, 60]))
    (.cond (.t 61) (.seq (.seq (.reg [⟨(some 62), none, .mv (.t 4)⟩, ⟨(some 2), none, .mv (.c (.v (.int .i64 14)))⟩, ⟨(some 3), none, .mv (.t 62)⟩]) (.drop [4, 62]))
      .ret)
     .skip)))
  (.seq (.reg [⟨(some 52), none, .mv (.t 6)⟩, ⟨(some 53), none, .bin .add (.t 52) (.c (.v (.int .i64 1)))⟩, ⟨(some 6), none, .mv (.t 53)⟩]) (.drop [7, 53]))))
def l_fuglemanref16_Check_0 : AC :=
 (.seq (.seq (.seq (.reg [⟨(some 10), none, .mv (.t 4)⟩, ⟨(some 11), none, .mv (.t 0)⟩, ⟨(some 12), none, .len (.t 11)⟩, ⟨(some 13), none, .bin .lss (.t 10) (.t 12)⟩]) (.drop [5, 12]))
  (.cond (.t 13) .skip
   (.exit 0)))
 (.seq (.block 1 (.seq (.seq (.reg [⟨(some 16), none, .mv (.t 0)⟩, ⟨(some 17), none, .mv (.t 4)⟩, ⟨(some 18), none, .ixs 4 (.t 16) (.t 17)⟩, ⟨(some 19), none, .load (some 4) (.t 18)⟩, ⟨(some 5), none, .alloc [(.v (.int .i64 0)), (.v (.int .i64 0)), (.v (.int .i64 0)), (.v (.bool false))]⟩, ⟨none, none, .store 4 (.t 5) (.t 19)⟩]) (.drop [6, 19]))
    (.seq (.seq (.seq (.reg [⟨(some 20), none, .fad 0 (.t 5)⟩, ⟨(some 21), none, .load none (.t 20)⟩, ⟨(some 22), none, .bin .lss (.t 21) (.c (.v (.int .i64 0)))⟩, ⟨(some 23), none, .mv (.t 22)⟩, ⟨(some 24), (some (23, false)), .fad 0 (.t 5)⟩, ⟨(some 25), (some (23, false)), .load none (.t 24)⟩, ⟨(some 26), (some (23, false)), .bin .gtr (.t 25) (.c (.v (.int .i64 15)))⟩, ⟨(some 27), none, .pick (.t 23) (.c (.v (.bool true))) (.t 26)⟩, ⟨(some 28), none, .mv (.t 27)⟩, ⟨(some 29), (some (28, false)), .fad 1 (.t 5)⟩, ⟨(some 30), (some (28, false)), .load none (.t 29)⟩, ⟨(some 31), (some (28, false)), .bin .lss (.t 30) (.c (.v (.int .i64 0)))⟩, ⟨(some 32), none, .pick (.t 28) (.c (.v (.bool true))) (.t 31)⟩, ⟨(some 33), none, .mv (.t 32)⟩, ⟨(some 34), (some (33, false)), .fad 1 (.t 5)⟩, ⟨(some 35), (some (33, false)), .load none (.t 34)⟩, ⟨(some 36), (some (33, false)), .bin .gtr (.t 35) (.c (.v (.int .i64 31)))⟩, ⟨(some 37), none, .pick (.t 33) (.c (.v (.bool true))) (.t 36)⟩, ⟨(some 38), none, .mv (.t 37)⟩, ⟨(some 39), (some (38, false)), .fad 2 (.t 5)⟩, ⟨(some 40), (some (38, false)), .load none (.t 39)⟩, ⟨(some 41), (some (38, false)), .bin .lss (.t 40) (.c (.v (.int .i64 1)))⟩, ⟨(some 42), none, .pick (.t 38) (.c (.v (.bool true))) (.t 41)⟩, ⟨(some 43), none, .mv (.t 42)⟩, ⟨(some 44), (some (43, false)), .fad 2 (.t 5)⟩, ⟨(some 45), (some (43, false)), .load none (.t 44)⟩, ⟨(some 46), (some (43, false)), .bin .gtr (.t 45) (.c (.v (.int .i64 64)))⟩, ⟨(some 47), none, .pick (.t 43) (.c (.v (.bool true))) (.t 46)⟩]) (.drop [6, 46]))
      (.cond (.t 47) (.seq (.seq (.reg [⟨(some 48), none, .mv (.t 4)⟩, ⟨(some 2), none, .mv (.c (.v (.int .i64 3)))⟩, ⟨(some 3), none, .mv (.t 48)⟩]) (.drop [4, 48]))
        .ret)
       .skip))
     (.seq (.seq (.reg [⟨(some 6), none, .mv (.c (.v (.int .i64 0)))⟩]) (.drop []))
      (.block 2 (.loop [0, 4, 5, 6] l_fuglemanref16_Check_1))))))
  l_fuglemanref16_Check_2))
def b_fuglemanref16_Check : AC :=
 (.seq (.seq (.reg [⟨(some 2), none, .mv (.c (.v (.int .i64 0)))⟩, ⟨(some 3), none, .mv (.c (.v (.int .i64 0)))⟩]) (.drop [1, 3]))
 (.seq (.seq (.seq (.reg [⟨(some 7), none, .mv (.t 0)⟩, ⟨(some 8), none, .len (.t 7)⟩, ⟨(some 9), none, .bin .gtr (.t 8) (.c (.v (.int .i64 16)))⟩]) (.drop [1, 8]))
   (.cond (.t 9) (.seq (.seq (.reg [⟨(some 2), none, .mv (.c (.v (.int .i64 2)))⟩, ⟨(some 3), none, .mv (.c (.v (.int .i64 16)))⟩]) (.drop []))
     .ret)
    .skip))
  (.seq (.seq (.seq (.reg [⟨(some 4), none, .mv (.c (.v (.int .i64 0)))⟩]) (.drop []))
    (.block 0 (.loop [0, 4] l_fuglemanref16_Check_0)))
   l_fuglemanref16_Check_3)))
def a_fuglemanref16_Check : AFn := ⟨1, b_fuglemanref16_Check, [.t 2, .t 3], false, false⟩
theorem a_fuglemanref16_Check_ok : compF Try.prog Try.f24 [[1, 3], [1, 8], [], [], [0, 4], [5, 12], [6, 19], [6, 46], [4, 48], [], [0, 4, 5, 6], [7, 50], [7, 60], [4, 62], [7, 53], [5, 15], []] false false hv = some a_fuglemanref16_Check := by kernel_rfl

/-! fugleman/fuglemanref16.Find: 34 -/
def l_fuglemanref16_Find_1 : AC :=
 (.seq (.seq (.reg [⟨(some 24), none, .build [(.v (.int .i64 0)), (.v (.int .i64 0)), (.v (.int .i64 0)), (.v (.bool false))] []⟩, ⟨none, none, .store 4 (.t 4) (.t 24)⟩, ⟨(some 5), none, .mv (.c (.v (.bool false)))⟩]) (.drop [6, 24]))
 .ret)
def c_fuglemanref16_Find_0 : AC :=
 (.seq (.seq (.reg [⟨(some 20), none, .mv (.t 0)⟩, ⟨(some 21), none, .mv (.t 6)⟩, ⟨(some 22), none, .ixs 4 (.t 20) (.t 21)⟩, ⟨(some 23), none, .load (some 4) (.t 22)⟩, ⟨none, none, .store 4 (.t 4) (.t 23)⟩, ⟨(some 5), none, .mv (.c (.v (.bool true)))⟩]) (.drop [6, 23]))
      .ret)
theorem g_fuglemanref16_Find_0 {C : CT} {lf : Nat} {ks : List It} {s : St} : type_of% (@Sym.go_as C lf ks s _ _ c_fuglemanref16_Find_0.eq_1) := Sym.go_as c_fuglemanref16_Find_0.eq_1
def l_fuglemanref16_Find_0 : AC :=
 (.seq (.seq (.seq (.reg [⟨(some 7), none, .mv (.t 6)⟩, ⟨(some 8), none, .mv (.t 0)⟩, ⟨(some 9), none, .len (.t 8)⟩, ⟨(some 10), none, .bin .lss (.t 7) (.t 9)⟩]) (.drop [7, 9]))
  (.cond (.t 10) .skip
   (.exit 0)))
 (.seq (.block 1 (.seq (.seq (.reg [⟨(some 13), none, .mv (.t 0)⟩, ⟨(some 14), none, .mv (.t 6)⟩, ⟨(some 15), none, .ixs 4 (.t 13) (.t 14)⟩, ⟨(some 16), none, .fad 0 (.t 15)⟩, ⟨(some 17), none, .load none (.t 16)⟩, ⟨(some 18), none, .mv (.t 1)⟩, ⟨(some 19), none, .bin .eql (.t 17) (.t 18)⟩]) (.drop [7, 18]))
    (.cond (.t 19) c_fuglemanref16_Find_0
     .skip)))
  (.seq (.reg [⟨(some 11), none, .mv (.t 6)⟩, ⟨(some 12), none, .bin .add (.t 11) (.c (.v (.int .i64 1)))⟩, ⟨(some 6), none, .mv (.t 12)⟩]) (.drop [7, 12]))))
def b_fuglemanref16_Find : AC :=
 (.seq (.seq (.reg [⟨(some 4), none, .alloc [(.v (.int .i64 0)), (.v (.int .i64 0)), (.v (.int .i64 0)), (.v (.bool false))]⟩, ⟨(some 5), none, .mv (.c (.v (.bool false)))⟩]) (.drop [5, 5]))
 (.seq (.seq (.seq (.reg [⟨(some 6), none, .mv (.c (.v (.int .i64 0)))⟩]) (.drop []))
   (.block 0 (.loop [0, 1, 4, 6] l_fuglemanref16_Find_0)))
  l_fuglemanref16_Find_1))
def a_fuglemanref16_Find : AFn := ⟨2, b_fuglemanref16_Find, [.cell 4 (some 4), .t 5], false, false⟩
theorem a_fuglemanref16_Find_ok : compF Try.prog Try.f34 [[5, 5], [], [0, 1, 4, 6], [7, 9], [7, 18], [6, 23], [7, 12], [6, 24]] false false hv = some a_fuglemanref16_Find := by kernel_rfl

/-! fugleman/fuglemanref19.Lay: 41 -/
def l_fuglemanref19_Lay_7 : AC :=
 (.seq (.seq (.reg [⟨(some 8), none, .mv (.c (.v (.int .i64 0)))⟩, ⟨(some 9), none, .mv (.c (.v (.int .i64 0)))⟩]) (.drop []))
 .ret)
def l_fuglemanref19_Lay_6 : AC :=
 (.seq (.reg [⟨(some 45), none, .mv (.t 12)⟩, ⟨(some 46), none, .bin .add (.t 45) (.c (.v (.int .i64 1)))⟩, ⟨(some 12), none, .mv (.t 46)⟩]) (.drop [13, 46]))
def l_fuglemanref19_Lay_5 : AC :=
 (.seq (.seq (.seq (.reg [⟨(some 102), none, .mv (.t 17)⟩, ⟨(some 103), none, .mv (.t 16)⟩, ⟨(some 104), none, .fad 2 (.t 13)⟩, ⟨(some 105), none, .load none (.t 104)⟩, ⟨(some 106), none, .bin .add (.t 103) (.t 105)⟩, ⟨(some 107), none, .bin .lss (.t 102) (.t 106)⟩]) (.drop [18, 106]))
  (.cond (.t 107) .skip
   (.exit 6)))
 (.seq (.block 7 (.seq (.seq (.seq (.reg [⟨(some 110), none, .mv (.t 3)⟩, ⟨(some 111), none, .mv (.t 110)⟩, ⟨(some 112), (some (111, true)), .mv (.t 10)⟩, ⟨(some 113), (some (111, true)), .mv (.t 17)⟩, ⟨(some 114), (some (111, true)), .ixs 1 (.t 112) (.t 113)⟩, ⟨(some 115), (some (111, true)), .load none (.t 114)⟩, ⟨(some 116), none, .pick (.t 111) (.t 115) (.c (.v (.bool false)))⟩]) (.drop [18, 115]))
     (.cond (.t 116) (.seq (.seq (.reg [⟨(some 117), none, .mv (.t 12)⟩, ⟨(some 8), none, .mv (.c (.v (.int .i64 15)))⟩, ⟨(some 9), none, .mv (.t 117)⟩]) (.drop [10, 117]))
       .ret)
      .skip))
    (.seq (.reg [⟨(some 118), none, .mv (.t 10)⟩, ⟨(some 119), none, .mv (.t 17)⟩, ⟨(some 120), none, .ixs 1 (.t 118) (.t 119)⟩, ⟨none, none, .store 1 (.t 120) (.c (.v (.bool true)))⟩]) (.drop [18, 120]))))
  (.seq (.reg [⟨(some 108), none, .mv (.t 17)⟩, ⟨(some 109), none, .bin .add (.t 108) (.c (.v (.int .i64 1)))⟩, ⟨(some 17), none, .mv (.t 109)⟩]) (.drop [18, 109]))))
def l_fuglemanref19_Lay_4 : AC :=
 (.seq (.seq (.reg [⟨(some 77), none, .mv (.t 1)⟩, ⟨(some 78), none, .mv (.t 12)⟩, ⟨(some 79), none, .ixs 2 (.t 77) (.t 78)⟩, ⟨(some 80), none, .fad 1 (.t 79)⟩, ⟨(some 81), none, .load none (.t 80)⟩, ⟨(some 16), none, .mv (.t 81)⟩]) (.drop [17, 81]))
 (.seq (.seq (.seq (.reg [⟨(some 82), none, .mv (.t 16)⟩, ⟨(some 83), none, .bin .lss (.t 82) (.c (.v (.int .i64 0)))⟩, ⟨(some 84), none, .mv (.t 83)⟩, ⟨(some 85), (some (84, false)), .mv (.t 16)⟩, ⟨(some 86), (some (84, false)), .bin .gtr (.t 85) (.c (.v (.int .i64 64)))⟩, ⟨(some 87), none, .pick (.t 84) (.c (.v (.bool true))) (.t 86)⟩, ⟨(some 88), none, .mv (.t 87)⟩, ⟨(some 89), (some (88, false)), .fad 2 (.t 13)⟩, ⟨(some 90), (some (88, false)), .load none (.t 89)⟩, ⟨(some 91), (some (88, false)), .bin .lss (.t 90) (.c (.v (.int .i64 0)))⟩, ⟨(some 92), none, .pick (.t 88) (.c (.v (.bool true))) (.t 91)⟩, ⟨(some 93), none, .mv (.t 92)⟩, ⟨(some 94), (some (93, false)), .fad 2 (.t 13)⟩, ⟨(some 95), (some (93, false)), .load none (.t 94)⟩, ⟨(some 96), (some (93, false)), .mv (.t 16)⟩, ⟨(some 97), (some (93, false)), .bin .sub (.c (.v (.int .i64 64))) (.t 96)⟩, ⟨(some 98), (some (93, false)), .bin .gtr (.t 95) (.t 97)⟩, ⟨(some 99), none, .pick (.t 93) (.c (.v (.bool true))) (.t 98)⟩]) (.drop [17, 98]))
   (.cond (.t 99) (.seq (.seq (.reg [⟨(some 100), none, .mv (.t 12)⟩, ⟨(some 8), none, .mv (.c (.v (.int .i64 2)))⟩, ⟨(some 9), none, .mv (.t 100)⟩]) (.drop [10, 100]))
     .ret)
    .skip))
  (.seq (.seq (.reg [⟨(some 101), none, .mv (.t 16)⟩, ⟨(some 17), none, .mv (.t 101)⟩]) (.drop [18, 101]))
   (.block 6 (.loop [1, 2, 3, 10, 12, 13, 16, 17] l_fuglemanref19_Lay_5)))))
def l_fuglemanref19_Lay_3 : AC :=
 (.seq (.seq (.seq (.reg [⟨(some 60), none, .mv (.t 15)⟩, ⟨(some 61), none, .mv (.t 12)⟩, ⟨(some 62), none, .bin .lss (.t 60) (.t 61)⟩]) (.drop [16, 61]))
  (.cond (.t 62) .skip
   (.exit 4)))
 (.seq (.block 5 (.seq (.seq (.regq [⟨(some 65), none, .mv (.t 1)⟩, ⟨(some 66), none, .mv (.t 15)⟩, ⟨(some 67), none, .ixs 2 (.t 65) (.t 66)⟩, ⟨(some 68), none, .fad 0 (.t 67)⟩, ⟨(some 69), none, .load none (.t 68)⟩, ⟨(some 70), none, .mv (.t 1)⟩, ⟨(some 71), none, .mv (.t 12)⟩, ⟨(some 72), none, .ixs 2 (.t 70) (.t 71)⟩, ⟨(some 73), none, .fad 0 (.t 72)⟩, ⟨(some 74), none, .load none (.t 73)⟩, ⟨(some 75), none, .bin .eql (.t 69) (.t 74)⟩]) (.drop [16, 74]))
    (.cond (.t 75) (.seq (.seq (.reg [⟨(some 76), none, .mv (.t 12)⟩, ⟨(some 8), none, .mv (.c (.v (.int .i64 14)))⟩, ⟨(some 9), none, .mv (.t 76)⟩]) (.drop [10, 76]))
      .ret)
     .skip)))
  (.seq (.reg [⟨(some 63), none, .mv (.t 15)⟩, ⟨(some 64), none, .bin .add (.t 63) (.c (.v (.int .i64 1)))⟩, ⟨(some 15), none, .mv (.t 64)⟩]) (.drop [16, 64]))))
def l_fuglemanref19_Lay_2 : AC :=
 (.seq (.seq (.seq (.reg [⟨(some 41), none, .mv (.t 12)⟩, ⟨(some 42), none, .mv (.t 1)⟩, ⟨(some 43), none, .len (.t 42)⟩, ⟨(some 44), none, .bin .lss (.t 41) (.t 43)⟩]) (.drop [13, 43]))
  (.cond (.t 44) .skip
   (.exit 2)))
 (.seq (.block 3 (.seq (.seq (.reg [⟨(some 48), none, .mv (.t 2)⟩, ⟨(some 49), none, .mv (.t 1)⟩, ⟨(some 50), none, .mv (.t 12)⟩, ⟨(some 51), none, .ixs 2 (.t 49) (.t 50)⟩, ⟨(some 52), none, .fad 0 (.t 51)⟩, ⟨(some 53), none, .load none (.t 52)⟩, ⟨(some 54), none, .call (.c (.fn 34 [])) [(.t 48), (.t 53)]⟩, ⟨(some 47), none, .mv (.t 54)⟩, ⟨(some 55), none, .ext 0 (.t 47)⟩, ⟨(some 56), none, .ext 1 (.t 47)⟩, ⟨(some 13), none, .alloc [(.v (.int .i64 0)), (.v (.int .i64 0)), (.v (.int .i64 0)), (.v (.bool false))]⟩, ⟨none, none, .store 4 (.t 13) (.t 55)⟩, ⟨(some 14), none, .mv (.t 56)⟩]) (.drop [15, 56]))
    (.seq (.seq (.seq (.reg [⟨(some 57), none, .mv (.t 14)⟩, ⟨(some 58), none, .un .not (.t 57)⟩]) (.drop [14, 57]))
      (.cond (.t 58) (.seq (.seq (.reg [⟨(some 59), none, .mv (.t 12)⟩, ⟨(some 8), none, .mv (.c (.v (.int .i64 5)))⟩, ⟨(some 9), none, .mv (.t 59)⟩]) (.drop [10, 59]))
        .ret)
       .skip))
     (.seq (.seq (.seq (.reg [⟨(some 15), none, .mv (.c (.v (.int .i64 0)))⟩]) (.drop []))
       (.block 4 (.loop [1, 2, 3, 10, 12, 13, 15] l_fuglemanref19_Lay_3)))
      l_fuglemanref19_Lay_4))))
  l_fuglemanref19_Lay_6))
def l_fuglemanref19_Lay_1 : AC :=
 (.seq (.seq (.seq (.reg [⟨(some 12), none, .mv (.c (.v (.int .i64 0)))⟩]) (.drop []))
  (.block 2 (.loop [1, 2, 3, 10, 12] l_fuglemanref19_Lay_2)))
 l_fuglemanref19_Lay_7)
def l_fuglemanref19_Lay_0 : AC :=
 (.seq (.seq (.seq (.reg [⟨(some 28), none, .mv (.t 11)⟩, ⟨(some 29), none, .bin .lss (.t 28) (.c (.v (.int .i64 64)))⟩]) (.drop [12, 28]))
  (.cond (.t 29) .skip
   (.exit 0)))
 (.seq (.block 1 (.seq (.reg [⟨(some 32), none, .mv (.t 10)⟩, ⟨(some 33), none, .mv (.t 11)⟩, ⟨(some 34), none, .mv (.t 3)⟩, ⟨(some 35), none, .mv (.t 34)⟩, ⟨(some 36), (some (35, true)), .mv (.t 11)⟩, ⟨(some 37), (some (35, true)), .mv (.t 0)⟩, ⟨(some 38), (some (35, true)), .bin .lss (.t 36) (.t 37)⟩, ⟨(some 39), none, .pick (.t 35) (.t 38) (.c (.v (.bool false)))⟩, ⟨(some 40), none, .ixs 1 (.t 32) (.t 33)⟩, ⟨none, none, .store 1 (.t 40) (.t 39)⟩]) (.drop [12, 40])))
  (.seq (.reg [⟨(some 30), none, .mv (.t 11)⟩, ⟨(some 31), none, .bin .add (.t 30) (.c (.v (.int .i64 1)))⟩, ⟨(some 11), none, .mv (.t 31)⟩]) (.drop [12, 31]))))
def b_fuglemanref19_Lay : AC :=
 (.seq (.seq (.reg [⟨(some 8), none, .mv (.c (.v (.int .i64 0)))⟩, ⟨(some 9), none, .mv (.c (.v (.int .i64 0)))⟩]) (.drop [4, 9]))
 (.seq (.seq (.seq (.reg [⟨(some 18), none, .mv (.t 3)⟩, ⟨(some 19), none, .mv (.t 18)⟩, ⟨(some 20), (some (19, true)), .mv (.t 0)⟩, ⟨(some 21), (some (19, true)), .bin .lss (.t 20) (.c (.v (.int .i64 0)))⟩, ⟨(some 22), (some (19, true)), .mv (.t 21)⟩, ⟨(some 23), (some (22, false)), .mv (.t 0)⟩, ⟨(some 24), (some (22, false)), .bin .gtr (.t 23) (.c (.v (.int .i64 64)))⟩, ⟨(some 25), (some (19, true)), .pick (.t 22) (.c (.v (.bool true))) (.t 24)⟩, ⟨(some 26), none, .pick (.t 19) (.t 25) (.c (.v (.bool false)))⟩]) (.drop [4, 25]))
   (.cond (.t 26) (.seq (.seq (.reg [⟨(some 8), none, .mv (.c (.v (.int .i64 2)))⟩, ⟨(some 9), none, .mv (.c (.v (.int .i64 (-1))))⟩]) (.drop []))
     .ret)
    .skip))
  (.seq (.seq (.reg [⟨(some 27), none, .mks 1 1 [(.v (.bool false))] (.c (.v (.int .i64 64))) (.c (.v (.int .i64 64)))⟩, ⟨(some 10), none, .mv (.t 27)⟩]) (.drop [11, 27]))
   (.seq (.seq (.seq (.reg [⟨(some 11), none, .mv (.c (.v (.int .i64 0)))⟩]) (.drop []))
     (.block 0 (.loop [0, 1, 2, 3, 10, 11] l_fuglemanref19_Lay_0)))
    l_fuglemanref19_Lay_1))))
def a_fuglemanref19_Lay : AFn := ⟨4, b_fuglemanref19_Lay, [.t 8, .t 9], false, false⟩
theorem a_fuglemanref19_Lay_ok : compF Try.prog Try.f41 [[4, 9], [4, 25], [], [11, 27], [], [0, 1, 2, 3, 10, 11], [12, 28], [12, 40], [12, 31], [], [1, 2, 3, 10, 12], [13, 43], [15, 56], [14, 57], [10, 59], [], [1, 2, 3, 10, 12, 13, 15], [16, 61], [16, 74], [10, 76], [16, 64], [17, 81], [17, 98], [10, 100], [18, 101], [1, 2, 3, 10, 12, 13, 16, 17], [18, 106], [18, 115], [10, 117], [18, 120], [18, 109], [13, 46], []] false false hv = some a_fuglemanref19_Lay := by kernel_rfl

/-! fugleman/fuglemanref12.reads: 65 -/
def b_fuglemanref12_reads : AC :=
 (.seq (.seq (.reg [⟨(some 2), none, .mv (.c (.v (.bool false)))⟩]) (.drop [1, 2]))
 (.seq (.seq (.reg [⟨(some 3), none, .mv (.t 0)⟩, ⟨(some 4), none, .bin .eql (.t 3) (.c (.v (.int .i64 1)))⟩, ⟨(some 5), none, .mv (.t 4)⟩, ⟨(some 6), (some (5, false)), .mv (.t 0)⟩, ⟨(some 7), (some (5, false)), .bin .eql (.t 6) (.c (.v (.int .i64 2)))⟩, ⟨(some 8), none, .pick (.t 5) (.c (.v (.bool true))) (.t 7)⟩, ⟨(some 9), none, .mv (.t 8)⟩, ⟨(some 10), (some (9, false)), .mv (.t 0)⟩, ⟨(some 11), (some (9, false)), .bin .geq (.t 10) (.c (.v (.int .i64 7)))⟩, ⟨(some 12), (some (9, false)), .mv (.t 11)⟩, ⟨(some 13), (some (12, true)), .mv (.t 0)⟩, ⟨(some 14), (some (12, true)), .bin .leq (.t 13) (.c (.v (.int .i64 12)))⟩, ⟨(some 15), (some (9, false)), .pick (.t 12) (.t 14) (.c (.v (.bool false)))⟩, ⟨(some 16), none, .pick (.t 9) (.c (.v (.bool true))) (.t 15)⟩, ⟨(some 17), none, .mv (.t 16)⟩, ⟨(some 18), (some (17, false)), .mv (.t 0)⟩, ⟨(some 19), (some (17, false)), .bin .geq (.t 18) (.c (.v (.int .i64 14)))⟩, ⟨(some 20), (some (17, false)), .mv (.t 19)⟩, ⟨(some 21), (some (20, true)), .mv (.t 0)⟩, ⟨(some 22), (some (20, true)), .bin .leq (.t 21) (.c (.v (.int .i64 24)))⟩, ⟨(some 23), (some (17, false)), .pick (.t 20) (.t 22) (.c (.v (.bool false)))⟩, ⟨(some 24), none, .pick (.t 17) (.c (.v (.bool true))) (.t 23)⟩, ⟨(some 2), none, .mv (.t 24)⟩]) (.drop [3, 24]))
  .ret))
def a_fuglemanref12_reads : AFn := ⟨1, b_fuglemanref12_reads, [.t 2], false, false⟩
theorem a_fuglemanref12_reads_ok : compF Try.prog Try.f65 [[1, 2], [3, 24]] false false hv = some a_fuglemanref12_reads := by kernel_rfl

/-! fugleman/fuglemanref11.Size: 69 -/
def b_fuglemanref11_Size : AC :=
 (.seq (.seq (.reg [⟨(some 2), none, .mv (.c (.v (.int .i64 0)))⟩]) (.drop [1, 2]))
 (.seq (.seq (.reg [⟨(some 4), none, .row 1 8 [(.v (.int .i64 0))] [(0, 1, (.c (.v (.int .i64 0)))), (1, 1, (.c (.v (.int .i64 1)))), (2, 1, (.c (.v (.int .i64 1)))), (3, 1, (.c (.v (.int .i64 2)))), (4, 1, (.c (.v (.int .i64 4)))), (5, 1, (.c (.v (.int .i64 2)))), (6, 1, (.c (.v (.int .i64 2)))), (7, 1, (.c (.v (.int .i64 4))))]⟩, ⟨(some 3), none, .mv (.t 4)⟩]) (.drop [4, 4]))
  (.seq (.seq (.seq (.reg [⟨(some 5), none, .mv (.t 0)⟩, ⟨(some 6), none, .bin .lss (.t 5) (.c (.v (.int .i64 0)))⟩, ⟨(some 7), none, .mv (.t 6)⟩, ⟨(some 8), (some (7, false)), .mv (.t 0)⟩, ⟨(some 9), (some (7, false)), .bin .gtr (.t 8) (.c (.v (.int .i64 7)))⟩, ⟨(some 10), none, .pick (.t 7) (.c (.v (.bool true))) (.t 9)⟩]) (.drop [4, 9]))
    (.cond (.t 10) (.seq (.seq (.reg [⟨(some 2), none, .mv (.c (.v (.int .i64 0)))⟩]) (.drop []))
      .ret)
     .skip))
   (.seq (.seq (.reg [⟨(some 11), none, .mv (.t 3)⟩, ⟨(some 12), none, .mv (.t 0)⟩, ⟨(some 13), none, .ixs 1 (.t 11) (.t 12)⟩, ⟨(some 14), none, .load none (.t 13)⟩, ⟨(some 2), none, .mv (.t 14)⟩]) (.drop [3, 14]))
    .ret))))
def a_fuglemanref11_Size : AFn := ⟨1, b_fuglemanref11_Size, [.t 2], false, false⟩
theorem a_fuglemanref11_Size_ok : compF Try.prog Try.f69 [[1, 2], [4, 4], [4, 9], [], [3, 14]] false false hv = some a_fuglemanref11_Size := by kernel_rfl

/-! fugleman/fuglemanref11.many: 90 -/
def l_fuglemanref11_many_1 : AC :=
 (.seq (.seq (.reg [⟨(some 15), none, .mv (.t 3)⟩, ⟨(some 2), none, .mv (.t 15)⟩]) (.drop [3, 15]))
 .ret)
def l_fuglemanref11_many_0 : AC :=
 (.seq (.seq (.seq (.reg [⟨(some 7), none, .mv (.t 4)⟩, ⟨(some 8), none, .mv (.t 0)⟩, ⟨(some 9), none, .call (.c (.fn 69 [])) [(.t 8)]⟩, ⟨(some 10), none, .bin .lss (.t 7) (.t 9)⟩]) (.drop [5, 9]))
  (.cond (.t 10) .skip
   (.exit 0)))
 (.seq (.block 1 (.seq (.reg [⟨(some 13), none, .mv (.t 3)⟩, ⟨(some 14), none, .bin .mul (.t 13) (.c (.v (.int .i64 256)))⟩, ⟨(some 3), none, .mv (.t 14)⟩]) (.drop [5, 14])))
  (.seq (.reg [⟨(some 11), none, .mv (.t 4)⟩, ⟨(some 12), none, .bin .add (.t 11) (.c (.v (.int .i64 1)))⟩, ⟨(some 4), none, .mv (.t 12)⟩]) (.drop [5, 12]))))
def b_fuglemanref11_many : AC :=
 (.seq (.seq (.reg [⟨(some 2), none, .mv (.c (.v (.int .i64 0)))⟩]) (.drop [1, 2]))
 (.seq (.seq (.seq (.reg [⟨(some 5), none, .mv (.t 0)⟩, ⟨(some 6), none, .bin .eql (.t 5) (.c (.v (.int .i64 1)))⟩]) (.drop [1, 5]))
   (.cond (.t 6) (.seq (.seq (.reg [⟨(some 2), none, .mv (.c (.v (.int .i64 2)))⟩]) (.drop []))
     .ret)
    .skip))
  (.seq (.seq (.reg [⟨(some 3), none, .mv (.c (.v (.int .i64 1)))⟩]) (.drop []))
   (.seq (.seq (.seq (.reg [⟨(some 4), none, .mv (.c (.v (.int .i64 0)))⟩]) (.drop []))
     (.block 0 (.loop [0, 3, 4] l_fuglemanref11_many_0)))
    l_fuglemanref11_many_1))))
def a_fuglemanref11_many : AFn := ⟨1, b_fuglemanref11_many, [.t 2], false, false⟩
theorem a_fuglemanref11_many_ok : compF Try.prog Try.f90 [[1, 2], [1, 5], [], [], [], [0, 3, 4], [5, 9], [5, 14], [5, 12], [3, 15]] false false hv = some a_fuglemanref11_many := by kernel_rfl

/-! fugleman/fuglemanref11.least: 89 -/
def c_fuglemanref11_least_0 : AC :=
 (.seq (.seq (.reg [⟨(some 9), none, .mv (.t 0)⟩, ⟨(some 10), none, .call (.c (.fn 90 [])) [(.t 9)]⟩, ⟨(some 11), none, .un .neg (.t 10)⟩, ⟨(some 12), none, .bin .quo (.t 11) (.c (.v (.int .i64 2)))⟩, ⟨(some 2), none, .mv (.t 12)⟩]) (.drop [3, 12]))
     .ret)
def b_fuglemanref11_least : AC :=
 (.seq (.seq (.reg [⟨(some 2), none, .mv (.c (.v (.int .i64 0)))⟩]) (.drop [1, 2]))
 (.seq (.seq (.seq (.reg [⟨(some 3), none, .mv (.t 0)⟩, ⟨(some 4), none, .bin .geq (.t 3) (.c (.v (.int .i64 2)))⟩, ⟨(some 5), none, .mv (.t 4)⟩, ⟨(some 6), (some (5, true)), .mv (.t 0)⟩, ⟨(some 7), (some (5, true)), .bin .leq (.t 6) (.c (.v (.int .i64 4)))⟩, ⟨(some 8), none, .pick (.t 5) (.t 7) (.c (.v (.bool false)))⟩]) (.drop [1, 7]))
   (.cond (.t 8) c_fuglemanref11_least_0
    .skip))
  (.seq (.seq (.reg [⟨(some 2), none, .mv (.c (.v (.int .i64 0)))⟩]) (.drop []))
   .ret)))
def a_fuglemanref11_least : AFn := ⟨1, b_fuglemanref11_least, [.t 2], false, false⟩
theorem a_fuglemanref11_least_ok : compF Try.prog Try.f89 [[1, 2], [1, 7], [3, 12], []] false false hv = some a_fuglemanref11_least := by kernel_rfl

/-! fugleman/fuglemanref11.Is: 66 -/
def b_fuglemanref11_Is : AC :=
 (.seq (.seq (.reg [⟨(some 4), none, .mv (.c (.v (.bool false)))⟩]) (.drop [2, 4]))
 (.seq (.seq (.reg [⟨(some 5), none, .mv (.t 0)⟩, ⟨(some 6), none, .call (.c (.fn 69 [])) [(.t 5)]⟩, ⟨(some 7), none, .bin .gtr (.t 6) (.c (.v (.int .i64 0)))⟩, ⟨(some 8), none, .mv (.t 7)⟩, ⟨(some 9), (some (8, true)), .mv (.t 1)⟩, ⟨(some 10), (some (8, true)), .mv (.t 0)⟩, ⟨(some 11), (some (8, true)), .call (.c (.fn 89 [])) [(.t 10)]⟩, ⟨(some 12), (some (8, true)), .bin .geq (.t 9) (.t 11)⟩, ⟨(some 13), none, .pick (.t 8) (.t 12) (.c (.v (.bool false)))⟩, ⟨(some 14), none, .mv (.t 13)⟩, ⟨(some 15), (some (14, true)), .mv (.t 1)⟩, ⟨(some 16), (some (14, true)), .mv (.t 0)⟩, ⟨(some 17), (some (14, true)), .call (.c (.fn 89 [])) [(.t 16)]⟩, ⟨(some 18), (some (14, true)), .mv (.t 0)⟩, ⟨(some 19), (some (14, true)), .call (.c (.fn 90 [])) [(.t 18)]⟩, ⟨(some 20), (some (14, true)), .bin .add (.t 17) (.t 19)⟩, ⟨(some 21), (some (14, true)), .bin .sub (.t 20) (.c (.v (.int .i64 1)))⟩, ⟨(some 22), (some (14, true)), .bin .leq (.t 15) (.t 21)⟩, ⟨(some 23), none, .pick (.t 14) (.t 22) (.c (.v (.bool false)))⟩, ⟨(some 4), none, .mv (.t 23)⟩]) (.drop [5, 23]))
  .ret))
def a_fuglemanref11_Is : AFn := ⟨2, b_fuglemanref11_Is, [.t 4], false, false⟩
theorem a_fuglemanref11_Is_ok : compF Try.prog Try.f66 [[2, 4], [5, 23]] false false hv = some a_fuglemanref11_Is := by kernel_rfl

/-! fugleman/fuglemanref12.writes: 67 -/
def b_fuglemanref12_writes : AC :=
 (.seq (.seq (.reg [⟨(some 2), none, .mv (.c (.v (.bool false)))⟩]) (.drop [1, 2]))
 (.seq (.seq (.reg [⟨(some 3), none, .mv (.t 0)⟩, ⟨(some 4), none, .bin .geq (.t 3) (.c (.v (.int .i64 3)))⟩, ⟨(some 5), none, .mv (.t 4)⟩, ⟨(some 6), (some (5, true)), .mv (.t 0)⟩, ⟨(some 7), (some (5, true)), .bin .leq (.t 6) (.c (.v (.int .i64 6)))⟩, ⟨(some 8), none, .pick (.t 5) (.t 7) (.c (.v (.bool false)))⟩, ⟨(some 2), none, .mv (.t 8)⟩]) (.drop [3, 8]))
  .ret))
def a_fuglemanref12_writes : AFn := ⟨1, b_fuglemanref12_writes, [.t 2], false, false⟩
theorem a_fuglemanref12_writes_ok : compF Try.prog Try.f67 [[1, 2], [3, 8]] false false hv = some a_fuglemanref12_writes := by kernel_rfl

/-! fugleman/fuglemanref11.There: 68 -/
def b_fuglemanref11_There : AC :=
 (.seq (.seq (.reg [⟨(some 6), none, .mv (.c (.v (.bool false)))⟩]) (.drop [3, 6]))
 (.seq (.seq (.reg [⟨(some 8), none, .mv (.t 2)⟩, ⟨(some 9), none, .call (.c (.fn 69 [])) [(.t 8)]⟩, ⟨(some 7), none, .mv (.t 9)⟩]) (.drop [8, 9]))
  (.seq (.seq (.reg [⟨(some 10), none, .mv (.t 7)⟩, ⟨(some 11), none, .bin .gtr (.t 10) (.c (.v (.int .i64 0)))⟩, ⟨(some 12), none, .mv (.t 11)⟩, ⟨(some 13), (some (12, true)), .mv (.t 1)⟩, ⟨(some 14), (some (12, true)), .bin .geq (.t 13) (.c (.v (.int .i64 0)))⟩, ⟨(some 15), none, .pick (.t 12) (.t 14) (.c (.v (.bool false)))⟩, ⟨(some 16), none, .mv (.t 15)⟩, ⟨(some 17), (some (16, true)), .mv (.t 1)⟩, ⟨(some 18), (some (16, true)), .mv (.t 0)⟩, ⟨(some 19), (some (16, true)), .bin .leq (.t 17) (.t 18)⟩, ⟨(some 20), none, .pick (.t 16) (.t 19) (.c (.v (.bool false)))⟩, ⟨(some 21), none, .mv (.t 20)⟩, ⟨(some 22), (some (21, true)), .mv (.t 7)⟩, ⟨(some 23), (some (21, true)), .mv (.t 0)⟩, ⟨(some 24), (some (21, true)), .mv (.t 1)⟩, ⟨(some 25), (some (21, true)), .bin .sub (.t 23) (.t 24)⟩, ⟨(some 26), (some (21, true)), .bin .leq (.t 22) (.t 25)⟩, ⟨(some 27), none, .pick (.t 21) (.t 26) (.c (.v (.bool false)))⟩, ⟨(some 6), none, .mv (.t 27)⟩]) (.drop [7, 27]))
   .ret)))
def a_fuglemanref11_There : AFn := ⟨3, b_fuglemanref11_There, [.t 6], false, false⟩
theorem a_fuglemanref11_There_ok : compF Try.prog Try.f68 [[3, 6], [8, 9], [7, 27]] false false hv = some a_fuglemanref11_There := by kernel_rfl

/-! fugleman/fuglemanref12.Right: 55 -/
def c_fuglemanref12_Right_0 : AC :=
 (.seq (.seq (.reg [⟨(some 17), none, .fad 1 (.t 1)⟩, ⟨(some 18), none, .load none (.t 17)⟩, ⟨(some 19), none, .fad 1 (.t 3)⟩, ⟨none, none, .store 1 (.t 19) (.t 18)⟩]) (.drop [4, 19]))
        (.seq (.seq (.reg [⟨(some 20), none, .fad 4 (.t 1)⟩, ⟨(some 21), none, .load none (.t 20)⟩, ⟨(some 22), none, .fad 4 (.t 3)⟩, ⟨none, none, .store 1 (.t 22) (.t 21)⟩]) (.drop [4, 22]))
         (.seq (.reg [⟨(some 23), none, .fad 1 (.t 1)⟩, ⟨(some 24), none, .load none (.t 23)⟩, ⟨(some 25), none, .fad 4 (.t 1)⟩, ⟨(some 26), none, .load none (.t 25)⟩, ⟨(some 27), none, .call (.c (.fn 66 [])) [(.t 24), (.t 26)]⟩, ⟨(some 4), none, .mv (.t 27)⟩]) (.drop [5, 27]))))
theorem g_fuglemanref12_Right_0 {C : CT} {lf : Nat} {ks : List It} {s : St} : type_of% (@Sym.go_as C lf ks s _ _ c_fuglemanref12_Right_0.eq_1) := Sym.go_as c_fuglemanref12_Right_0.eq_1
def c_fuglemanref12_Right_1 : AC :=
 (.seq (.seq (.reg [⟨(some 37), none, .fad 1 (.t 1)⟩, ⟨(some 38), none, .load none (.t 37)⟩, ⟨(some 39), none, .fad 1 (.t 3)⟩, ⟨none, none, .store 1 (.t 39) (.t 38)⟩]) (.drop [4, 39]))
          (.seq (.seq (.reg [⟨(some 40), none, .fad 2 (.t 1)⟩, ⟨(some 41), none, .load none (.t 40)⟩, ⟨(some 42), none, .fad 2 (.t 3)⟩, ⟨none, none, .store 1 (.t 42) (.t 41)⟩]) (.drop [4, 42]))
           (.seq (.seq (.reg [⟨(some 43), none, .fad 3 (.t 1)⟩, ⟨(some 44), none, .load none (.t 43)⟩, ⟨(some 45), none, .fad 3 (.t 3)⟩, ⟨none, none, .store 1 (.t 45) (.t 44)⟩]) (.drop [4, 45]))
            (.seq (.reg [⟨(some 46), none, .fad 3 (.t 1)⟩, ⟨(some 47), none, .load none (.t 46)⟩, ⟨(some 48), none, .fad 1 (.t 1)⟩, ⟨(some 49), none, .load none (.t 48)⟩, ⟨(some 50), none, .call (.c (.fn 68 [])) [(.c (.v (.int .i64 64))), (.t 47), (.t 49)]⟩, ⟨(some 51), none, .mv (.t 50)⟩, ⟨(some 52), (some (51, true)), .fad 2 (.t 1)⟩, ⟨(some 53), (some (51, true)), .load none (.t 52)⟩, ⟨(some 54), (some (51, true)), .bin .geq (.t 53) (.c (.v (.int .i64 1)))⟩, ⟨(some 55), none, .pick (.t 51) (.t 54) (.c (.v (.bool false)))⟩, ⟨(some 56), none, .mv (.t 55)⟩, ⟨(some 57), (some (56, true)), .fad 2 (.t 1)⟩, ⟨(some 58), (some (56, true)), .load none (.t 57)⟩, ⟨(some 59), (some (56, true)), .bin .leq (.t 58) (.c (.v (.int .i64 4)))⟩, ⟨(some 60), none, .pick (.t 56) (.t 59) (.c (.v (.bool false)))⟩, ⟨(some 61), none, .mv (.t 60)⟩, ⟨(some 62), (some (61, true)), .fad 0 (.t 1)⟩, ⟨(some 63), (some (61, true)), .load none (.t 62)⟩, ⟨(some 64), (some (61, true)), .call (.c (.fn 67 [])) [(.t 63)]⟩, ⟨(some 65), (some (61, true)), .mv (.t 64)⟩, ⟨(some 66), (some (65, true)), .fad 2 (.t 1)⟩, ⟨(some 67), (some (65, true)), .load none (.t 66)⟩, ⟨(some 68), (some (65, true)), .bin .eql (.t 67) (.c (.v (.int .i64 1)))⟩, ⟨(some 69), (some (61, true)), .pick (.t 65) (.t 68) (.c (.v (.bool false)))⟩, ⟨(some 70), (some (61, true)), .un .not (.t 69)⟩, ⟨(some 71), none, .pick (.t 61) (.t 70) (.c (.v (.bool false)))⟩, ⟨(some 4), none, .mv (.t 71)⟩]) (.drop [5, 71])))))
theorem g_fuglemanref12_Right_1 {C : CT} {lf : Nat} {ks : List It} {s : St} : type_of% (@Sym.go_as C lf ks s _ _ c_fuglemanref12_Right_1.eq_1) := Sym.go_as c_fuglemanref12_Right_1.eq_1
def c_fuglemanref12_Right_2 : AC :=
 (.seq (.seq (.reg [⟨(some 81), none, .fad 3 (.t 1)⟩, ⟨(some 82), none, .load none (.t 81)⟩, ⟨(some 83), none, .fad 3 (.t 3)⟩, ⟨none, none, .store 1 (.t 83) (.t 82)⟩]) (.drop [4, 83]))
            (.seq (.reg [⟨(some 84), none, .fad 3 (.t 1)⟩, ⟨(some 85), none, .load none (.t 84)⟩, ⟨(some 86), none, .bin .geq (.t 85) (.c (.v (.int .i64 0)))⟩, ⟨(some 87), none, .mv (.t 86)⟩, ⟨(some 88), (some (87, true)), .fad 3 (.t 1)⟩, ⟨(some 89), (some (87, true)), .load none (.t 88)⟩, ⟨(some 90), (some (87, true)), .bin .leq (.t 89) (.c (.v (.int .i64 200)))⟩, ⟨(some 91), none, .pick (.t 87) (.t 90) (.c (.v (.bool false)))⟩, ⟨(some 4), none, .mv (.t 91)⟩]) (.drop [5, 91])))
theorem g_fuglemanref12_Right_2 {C : CT} {lf : Nat} {ks : List It} {s : St} : type_of% (@Sym.go_as C lf ks s _ _ c_fuglemanref12_Right_2.eq_1) := Sym.go_as c_fuglemanref12_Right_2.eq_1
def c_fuglemanref12_Right_3 : AC :=
 (.seq (.seq (.reg [⟨(some 115), none, .fad 1 (.t 1)⟩, ⟨(some 116), none, .load none (.t 115)⟩, ⟨(some 117), none, .fad 1 (.t 3)⟩, ⟨none, none, .store 1 (.t 117) (.t 116)⟩]) (.drop [4, 117]))
                (.seq (.reg [⟨(some 118), none, .fad 1 (.t 1)⟩, ⟨(some 119), none, .load none (.t 118)⟩, ⟨(some 120), none, .call (.c (.fn 69 [])) [(.t 119)]⟩, ⟨(some 121), none, .bin .gtr (.t 120) (.c (.v (.int .i64 0)))⟩, ⟨(some 4), none, .mv (.t 121)⟩]) (.drop [5, 121])))
theorem g_fuglemanref12_Right_3 {C : CT} {lf : Nat} {ks : List It} {s : St} : type_of% (@Sym.go_as C lf ks s _ _ c_fuglemanref12_Right_3.eq_1) := Sym.go_as c_fuglemanref12_Right_3.eq_1
def c_fuglemanref12_Right_4 : AC :=
 (.seq (.seq (.reg [⟨(some 126), none, .fad 3 (.t 1)⟩, ⟨(some 127), none, .load none (.t 126)⟩, ⟨(some 128), none, .fad 3 (.t 3)⟩, ⟨none, none, .store 1 (.t 128) (.t 127)⟩]) (.drop [4, 128]))
                  (.seq (.reg [⟨(some 129), none, .fad 3 (.t 1)⟩, ⟨(some 130), none, .load none (.t 129)⟩, ⟨(some 131), none, .call (.c (.fn 65 [])) [(.t 130)]⟩, ⟨(some 132), none, .mv (.t 131)⟩, ⟨(some 133), (some (132, true)), .fad 3 (.t 1)⟩, ⟨(some 134), (some (132, true)), .load none (.t 133)⟩, ⟨(some 135), (some (132, true)), .bin .gtr (.t 134) (.c (.v (.int .i64 2)))⟩, ⟨(some 136), none, .pick (.t 132) (.t 135) (.c (.v (.bool false)))⟩, ⟨(some 4), none, .mv (.t 136)⟩]) (.drop [5, 136])))
theorem g_fuglemanref12_Right_4 {C : CT} {lf : Nat} {ks : List It} {s : St} : type_of% (@Sym.go_as C lf ks s _ _ c_fuglemanref12_Right_4.eq_1) := Sym.go_as c_fuglemanref12_Right_4.eq_1
def c_fuglemanref12_Right_5 : AC :=
 (.seq (.seq (.reg [⟨(some 146), none, .fad 2 (.t 1)⟩, ⟨(some 147), none, .load none (.t 146)⟩, ⟨(some 148), none, .fad 2 (.t 3)⟩, ⟨none, none, .store 1 (.t 148) (.t 147)⟩]) (.drop [4, 148]))
                    (.seq (.seq (.reg [⟨(some 149), none, .fad 3 (.t 1)⟩, ⟨(some 150), none, .load none (.t 149)⟩, ⟨(some 151), none, .fad 3 (.t 3)⟩, ⟨none, none, .store 1 (.t 151) (.t 150)⟩]) (.drop [4, 151]))
                     (.seq (.seq (.reg [⟨(some 152), none, .fad 4 (.t 1)⟩, ⟨(some 153), none, .load none (.t 152)⟩, ⟨(some 154), none, .fad 4 (.t 3)⟩, ⟨none, none, .store 1 (.t 154) (.t 153)⟩]) (.drop [4, 154]))
                      (.seq (.reg [⟨(some 155), none, .fad 2 (.t 1)⟩, ⟨(some 156), none, .load none (.t 155)⟩, ⟨(some 157), none, .bin .eql (.t 156) (.c (.v (.int .i64 3)))⟩, ⟨(some 158), none, .mv (.t 157)⟩, ⟨(some 159), (some (158, false)), .fad 2 (.t 1)⟩, ⟨(some 160), (some (158, false)), .load none (.t 159)⟩, ⟨(some 161), (some (158, false)), .bin .eql (.t 160) (.c (.v (.int .i64 4)))⟩, ⟨(some 162), none, .pick (.t 158) (.c (.v (.bool true))) (.t 161)⟩, ⟨(some 163), none, .mv (.t 162)⟩, ⟨(some 164), (some (163, true)), .fad 3 (.t 1)⟩, ⟨(some 165), (some (163, true)), .load none (.t 164)⟩, ⟨(some 166), (some (163, true)), .bin .geq (.t 165) (.c (.v (.int .i64 0)))⟩, ⟨(some 167), none, .pick (.t 163) (.t 166) (.c (.v (.bool false)))⟩, ⟨(some 168), none, .mv (.t 167)⟩, ⟨(some 169), (some (168, true)), .fad 3 (.t 1)⟩, ⟨(some 170), (some (168, true)), .load none (.t 169)⟩, ⟨(some 171), (some (168, true)), .bin .leq (.t 170) (.c (.v (.int .i64 59)))⟩, ⟨(some 172), none, .pick (.t 168) (.t 171) (.c (.v (.bool false)))⟩, ⟨(some 173), none, .mv (.t 172)⟩, ⟨(some 174), (some (173, true)), .fad 4 (.t 1)⟩, ⟨(some 175), (some (173, true)), .load none (.t 174)⟩, ⟨(some 176), (some (173, true)), .bin .geq (.t 175) (.c (.v (.int .i64 1)))⟩, ⟨(some 177), none, .pick (.t 173) (.t 176) (.c (.v (.bool false)))⟩, ⟨(some 178), none, .mv (.t 177)⟩, ⟨(some 179), (some (178, true)), .fad 4 (.t 1)⟩, ⟨(some 180), (some (178, true)), .load none (.t 179)⟩, ⟨(some 181), (some (178, true)), .bin .leq (.t 180) (.c (.v (.int .i64 9999)))⟩, ⟨(some 182), none, .pick (.t 178) (.t 181) (.c (.v (.bool false)))⟩, ⟨(some 4), none, .mv (.t 182)⟩]) (.drop [5, 182])))))
theorem g_fuglemanref12_Right_5 {C : CT} {lf : Nat} {ks : List It} {s : St} : type_of% (@Sym.go_as C lf ks s _ _ c_fuglemanref12_Right_5.eq_1) := Sym.go_as c_fuglemanref12_Right_5.eq_1
def c_fuglemanref12_Right_6 : AC :=
 (.seq (.seq (.reg [⟨(some 187), none, .fad 2 (.t 1)⟩, ⟨(some 188), none, .load none (.t 187)⟩, ⟨(some 189), none, .fad 2 (.t 3)⟩, ⟨none, none, .store 1 (.t 189) (.t 188)⟩]) (.drop [4, 189]))
                      (.seq (.seq (.reg [⟨(some 190), none, .fad 3 (.t 1)⟩, ⟨(some 191), none, .load none (.t 190)⟩, ⟨(some 192), none, .fad 3 (.t 3)⟩, ⟨none, none, .store 1 (.t 192) (.t 191)⟩]) (.drop [4, 192]))
                       (.seq (.reg [⟨(some 193), none, .fad 2 (.t 1)⟩, ⟨(some 194), none, .load none (.t 193)⟩, ⟨(some 195), none, .bin .eql (.t 194) (.c (.v (.int .i64 3)))⟩, ⟨(some 196), none, .mv (.t 195)⟩, ⟨(some 197), (some (196, false)), .fad 2 (.t 1)⟩, ⟨(some 198), (some (196, false)), .load none (.t 197)⟩, ⟨(some 199), (some (196, false)), .bin .eql (.t 198) (.c (.v (.int .i64 4)))⟩, ⟨(some 200), none, .pick (.t 196) (.c (.v (.bool true))) (.t 199)⟩, ⟨(some 201), none, .mv (.t 200)⟩, ⟨(some 202), (some (201, true)), .fad 3 (.t 1)⟩, ⟨(some 203), (some (201, true)), .load none (.t 202)⟩, ⟨(some 204), (some (201, true)), .bin .geq (.t 203) (.c (.v (.int .i64 0)))⟩, ⟨(some 205), none, .pick (.t 201) (.t 204) (.c (.v (.bool false)))⟩, ⟨(some 206), none, .mv (.t 205)⟩, ⟨(some 207), (some (206, true)), .fad 3 (.t 1)⟩, ⟨(some 208), (some (206, true)), .load none (.t 207)⟩, ⟨(some 209), (some (206, true)), .bin .leq (.t 208) (.c (.v (.int .i64 63)))⟩, ⟨(some 210), none, .pick (.t 206) (.t 209) (.c (.v (.bool false)))⟩, ⟨(some 4), none, .mv (.t 210)⟩]) (.drop [5, 210]))))
theorem g_fuglemanref12_Right_6 {C : CT} {lf : Nat} {ks : List It} {s : St} : type_of% (@Sym.go_as C lf ks s _ _ c_fuglemanref12_Right_6.eq_1) := Sym.go_as c_fuglemanref12_Right_6.eq_1
def c_fuglemanref12_Right_7 : AC :=
 (.seq (.seq (.reg [⟨(some 184), none, .fad 0 (.t 1)⟩, ⟨(some 185), none, .load none (.t 184)⟩, ⟨(some 186), none, .bin .eql (.t 185) (.c (.v (.int .i64 36)))⟩, ⟨(some 183), none, .mv (.t 186)⟩]) (.drop [184, 186]))
                    (.cond (.t 183) c_fuglemanref12_Right_6
                     .skip))
theorem g_fuglemanref12_Right_7 {C : CT} {lf : Nat} {ks : List It} {s : St} : type_of% (@Sym.go_as C lf ks s _ _ c_fuglemanref12_Right_7.eq_1) := Sym.go_as c_fuglemanref12_Right_7.eq_1
def c_fuglemanref12_Right_8 : AC :=
 (.seq (.seq (.reg [⟨(some 138), none, .fad 0 (.t 1)⟩, ⟨(some 139), none, .load none (.t 138)⟩, ⟨(some 140), none, .bin .eql (.t 139) (.c (.v (.int .i64 34)))⟩, ⟨(some 141), none, .mv (.t 140)⟩, ⟨(some 142), (some (141, false)), .fad 0 (.t 1)⟩, ⟨(some 143), (some (141, false)), .load none (.t 142)⟩, ⟨(some 144), (some (141, false)), .bin .eql (.t 143) (.c (.v (.int .i64 35)))⟩, ⟨(some 145), none, .pick (.t 141) (.c (.v (.bool true))) (.t 144)⟩, ⟨(some 137), none, .mv (.t 145)⟩]) (.drop [138, 145]))
                  (.cond (.t 137) c_fuglemanref12_Right_5
                   c_fuglemanref12_Right_7))
theorem g_fuglemanref12_Right_8 {C : CT} {lf : Nat} {ks : List It} {s : St} : type_of% (@Sym.go_as C lf ks s _ _ c_fuglemanref12_Right_8.eq_1) := Sym.go_as c_fuglemanref12_Right_8.eq_1
def c_fuglemanref12_Right_9 : AC :=
 (.seq (.seq (.reg [⟨(some 123), none, .fad 0 (.t 1)⟩, ⟨(some 124), none, .load none (.t 123)⟩, ⟨(some 125), none, .bin .eql (.t 124) (.c (.v (.int .i64 32)))⟩, ⟨(some 122), none, .mv (.t 125)⟩]) (.drop [123, 125]))
                (.cond (.t 122) c_fuglemanref12_Right_4
                 c_fuglemanref12_Right_8))
theorem g_fuglemanref12_Right_9 {C : CT} {lf : Nat} {ks : List It} {s : St} : type_of% (@Sym.go_as C lf ks s _ _ c_fuglemanref12_Right_9.eq_1) := Sym.go_as c_fuglemanref12_Right_9.eq_1
def c_fuglemanref12_Right_10 : AC :=
 (.seq (.seq (.reg [⟨(some 112), none, .fad 0 (.t 1)⟩, ⟨(some 113), none, .load none (.t 112)⟩, ⟨(some 114), none, .bin .eql (.t 113) (.c (.v (.int .i64 31)))⟩, ⟨(some 111), none, .mv (.t 114)⟩]) (.drop [112, 114]))
              (.cond (.t 111) c_fuglemanref12_Right_3
               c_fuglemanref12_Right_9))
theorem g_fuglemanref12_Right_10 {C : CT} {lf : Nat} {ks : List It} {s : St} : type_of% (@Sym.go_as C lf ks s _ _ c_fuglemanref12_Right_10.eq_1) := Sym.go_as c_fuglemanref12_Right_10.eq_1
def c_fuglemanref12_Right_11 : AC :=
 (.seq (.seq (.reg [⟨(some 93), none, .fad 0 (.t 1)⟩, ⟨(some 94), none, .load none (.t 93)⟩, ⟨(some 95), none, .bin .eql (.t 94) (.c (.v (.int .i64 13)))⟩, ⟨(some 96), none, .mv (.t 95)⟩, ⟨(some 97), (some (96, false)), .fad 0 (.t 1)⟩, ⟨(some 98), (some (96, false)), .load none (.t 97)⟩, ⟨(some 99), (some (96, false)), .bin .geq (.t 98) (.c (.v (.int .i64 28)))⟩, ⟨(some 100), (some (96, false)), .mv (.t 99)⟩, ⟨(some 101), (some (100, true)), .fad 0 (.t 1)⟩, ⟨(some 102), (some (100, true)), .load none (.t 101)⟩, ⟨(some 103), (some (100, true)), .bin .leq (.t 102) (.c (.v (.int .i64 30)))⟩, ⟨(some 104), (some (96, false)), .pick (.t 100) (.t 103) (.c (.v (.bool false)))⟩, ⟨(some 105), none, .pick (.t 96) (.c (.v (.bool true))) (.t 104)⟩, ⟨(some 106), none, .mv (.t 105)⟩, ⟨(some 107), (some (106, false)), .fad 0 (.t 1)⟩, ⟨(some 108), (some (106, false)), .load none (.t 107)⟩, ⟨(some 109), (some (106, false)), .bin .eql (.t 108) (.c (.v (.int .i64 33)))⟩, ⟨(some 110), none, .pick (.t 106) (.c (.v (.bool true))) (.t 109)⟩, ⟨(some 92), none, .mv (.t 110)⟩]) (.drop [93, 110]))
            (.cond (.t 92) (.seq (.reg [⟨(some 4), none, .mv (.c (.v (.bool true)))⟩]) (.drop []))
             c_fuglemanref12_Right_10))
theorem g_fuglemanref12_Right_11 {C : CT} {lf : Nat} {ks : List It} {s : St} : type_of% (@Sym.go_as C lf ks s _ _ c_fuglemanref12_Right_11.eq_1) := Sym.go_as c_fuglemanref12_Right_11.eq_1
def c_fuglemanref12_Right_12 : AC :=
 (.seq (.seq (.reg [⟨(some 73), none, .fad 0 (.t 1)⟩, ⟨(some 74), none, .load none (.t 73)⟩, ⟨(some 75), none, .bin .geq (.t 74) (.c (.v (.int .i64 25)))⟩, ⟨(some 76), none, .mv (.t 75)⟩, ⟨(some 77), (some (76, true)), .fad 0 (.t 1)⟩, ⟨(some 78), (some (76, true)), .load none (.t 77)⟩, ⟨(some 79), (some (76, true)), .bin .leq (.t 78) (.c (.v (.int .i64 27)))⟩, ⟨(some 80), none, .pick (.t 76) (.t 79) (.c (.v (.bool false)))⟩, ⟨(some 72), none, .mv (.t 80)⟩]) (.drop [73, 80]))
          (.cond (.t 72) c_fuglemanref12_Right_2
           c_fuglemanref12_Right_11))
theorem g_fuglemanref12_Right_12 {C : CT} {lf : Nat} {ks : List It} {s : St} : type_of% (@Sym.go_as C lf ks s _ _ c_fuglemanref12_Right_12.eq_1) := Sym.go_as c_fuglemanref12_Right_12.eq_1
def c_fuglemanref12_Right_13 : AC :=
 (.seq (.seq (.reg [⟨(some 29), none, .fad 0 (.t 1)⟩, ⟨(some 30), none, .load none (.t 29)⟩, ⟨(some 31), none, .call (.c (.fn 65 [])) [(.t 30)]⟩, ⟨(some 32), none, .mv (.t 31)⟩, ⟨(some 33), (some (32, false)), .fad 0 (.t 1)⟩, ⟨(some 34), (some (32, false)), .load none (.t 33)⟩, ⟨(some 35), (some (32, false)), .call (.c (.fn 67 [])) [(.t 34)]⟩, ⟨(some 36), none, .pick (.t 32) (.c (.v (.bool true))) (.t 35)⟩, ⟨(some 28), none, .mv (.t 36)⟩]) (.drop [29, 36]))
        (.cond (.t 28) c_fuglemanref12_Right_1
         c_fuglemanref12_Right_12))
theorem g_fuglemanref12_Right_13 {C : CT} {lf : Nat} {ks : List It} {s : St} : type_of% (@Sym.go_as C lf ks s _ _ c_fuglemanref12_Right_13.eq_1) := Sym.go_as c_fuglemanref12_Right_13.eq_1
theorem gs_fuglemanref12_Right : type_of% (And.intro (And.intro (And.intro (@g_fuglemanref12_Right_0) (And.intro (@g_fuglemanref12_Right_1) (@g_fuglemanref12_Right_2))) (And.intro (And.intro (@g_fuglemanref12_Right_3) (@g_fuglemanref12_Right_4)) (And.intro (@g_fuglemanref12_Right_5) (@g_fuglemanref12_Right_6)))) (And.intro (And.intro (@g_fuglemanref12_Right_7) (And.intro (@g_fuglemanref12_Right_8) (@g_fuglemanref12_Right_9))) (And.intro (And.intro (@g_fuglemanref12_Right_10) (@g_fuglemanref12_Right_11)) (And.intro (@g_fuglemanref12_Right_12) (@g_fuglemanref12_Right_13))))) := (And.intro (And.intro (And.intro (@g_fuglemanref12_Right_0) (And.intro (@g_fuglemanref12_Right_1) (@g_fuglemanref12_Right_2))) (And.intro (And.intro (@g_fuglemanref12_Right_3) (@g_fuglemanref12_Right_4)) (And.intro (@g_fuglemanref12_Right_5) (@g_fuglemanref12_Right_6)))) (And.intro (And.intro (@g_fuglemanref12_Right_7) (And.intro (@g_fuglemanref12_Right_8) (@g_fuglemanref12_Right_9))) (And.intro (And.intro (@g_fuglemanref12_Right_10) (@g_fuglemanref12_Right_11)) (And.intro (@g_fuglemanref12_Right_12) (@g_fuglemanref12_Right_13)))))
def b_fuglemanref12_Right : AC :=
 (.seq (.seq (.reg [⟨(some 1), none, .box (.t 0)⟩, ⟨(some 2), none, .mv (.c (.v (.bool false)))⟩]) (.drop [2, 2]))
 (.seq (.seq (.reg [⟨(some 5), none, .fad 0 (.t 1)⟩, ⟨(some 6), none, .load none (.t 5)⟩, ⟨(some 7), none, .build [(.v (.int .i64 0)), (.v (.int .i64 0)), (.v (.int .i64 0)), (.v (.int .i64 0)), (.v (.int .i64 0))] [(0, 1, (.t 6))]⟩, ⟨(some 3), none, .alloc [(.v (.int .i64 0)), (.v (.int .i64 0)), (.v (.int .i64 0)), (.v (.int .i64 0)), (.v (.int .i64 0))]⟩, ⟨none, none, .store 5 (.t 3) (.t 7)⟩]) (.drop [4, 7]))
  (.seq (.seq (.reg [⟨(some 4), none, .mv (.c (.v (.bool false)))⟩]) (.drop []))
   (.seq (.block 0 (.seq (.seq (.reg [⟨(some 9), none, .fad 0 (.t 1)⟩, ⟨(some 10), none, .load none (.t 9)⟩, ⟨(some 11), none, .call (.c (.fn 65 [])) [(.t 10)]⟩, ⟨(some 12), none, .mv (.t 11)⟩, ⟨(some 13), (some (12, true)), .fad 2 (.t 1)⟩, ⟨(some 14), (some (12, true)), .load none (.t 13)⟩, ⟨(some 15), (some (12, true)), .bin .eql (.t 14) (.c (.v (.int .i64 0)))⟩, ⟨(some 16), none, .pick (.t 12) (.t 15) (.c (.v (.bool false)))⟩, ⟨(some 8), none, .mv (.t 16)⟩]) (.drop [9, 16]))
      (.cond (.t 8) c_fuglemanref12_Right_0
       c_fuglemanref12_Right_13)))
    (.seq (.seq (.reg [⟨(some 211), none, .mv (.t 4)⟩, ⟨(some 212), none, .mv (.t 211)⟩, ⟨(some 213), (some (212, true)), .load (some 5) (.t 1)⟩, ⟨(some 214), (some (212, true)), .load (some 5) (.t 3)⟩, ⟨(some 215), (some (212, true)), .eqst false [(0, .i), (1, .i), (2, .i), (3, .i), (4, .i)] (.t 213) (.t 214)⟩, ⟨(some 216), none, .pick (.t 212) (.t 215) (.c (.v (.bool false)))⟩, ⟨(some 2), none, .mv (.t 216)⟩]) (.drop [3, 216]))
     .ret)))))
def a_fuglemanref12_Right : AFn := ⟨1, b_fuglemanref12_Right, [.t 2], false, false⟩
theorem a_fuglemanref12_Right_ok : compF Try.prog Try.f55 [[2, 2], [4, 7], [], [9, 16], [4, 19], [4, 22], [5, 27], [29, 36], [4, 39], [4, 42], [4, 45], [5, 71], [73, 80], [4, 83], [5, 91], [93, 110], [], [112, 114], [4, 117], [5, 121], [123, 125], [4, 128], [5, 136], [138, 145], [4, 148], [4, 151], [4, 154], [5, 182], [184, 186], [4, 189], [4, 192], [5, 210], [3, 216]] false false hv = some a_fuglemanref12_Right := by kernel_rfl

/-! fugleman/fuglemanref11.May: 71 -/
def b_fuglemanref11_May : AC :=
 (.seq (.seq (.reg [⟨(some 4), none, .mv (.c (.v (.bool false)))⟩]) (.drop [2, 4]))
 (.seq (.seq (.reg [⟨(some 8), none, .mv (.t 0)⟩, ⟨(some 9), none, .bin .geq (.t 8) (.c (.v (.int .i64 14)))⟩, ⟨(some 10), none, .mv (.t 9)⟩, ⟨(some 11), (some (10, true)), .mv (.t 0)⟩, ⟨(some 12), (some (10, true)), .bin .leq (.t 11) (.c (.v (.int .i64 18)))⟩, ⟨(some 13), none, .pick (.t 10) (.t 12) (.c (.v (.bool false)))⟩, ⟨(some 5), none, .mv (.t 13)⟩]) (.drop [6, 13]))
  (.seq (.seq (.reg [⟨(some 14), none, .mv (.t 0)⟩, ⟨(some 15), none, .bin .geq (.t 14) (.c (.v (.int .i64 7)))⟩, ⟨(some 16), none, .mv (.t 15)⟩, ⟨(some 17), (some (16, true)), .mv (.t 0)⟩, ⟨(some 18), (some (16, true)), .bin .leq (.t 17) (.c (.v (.int .i64 13)))⟩, ⟨(some 19), none, .pick (.t 16) (.t 18) (.c (.v (.bool false)))⟩, ⟨(some 6), none, .mv (.t 19)⟩]) (.drop [7, 19]))
   (.seq (.seq (.reg [⟨(some 20), none, .mv (.t 0)⟩, ⟨(some 21), none, .bin .geq (.t 20) (.c (.v (.int .i64 19)))⟩, ⟨(some 22), none, .mv (.t 21)⟩, ⟨(some 23), (some (22, true)), .mv (.t 0)⟩, ⟨(some 24), (some (22, true)), .bin .leq (.t 23) (.c (.v (.int .i64 24)))⟩, ⟨(some 25), none, .pick (.t 22) (.t 24) (.c (.v (.bool false)))⟩, ⟨(some 7), none, .mv (.t 25)⟩]) (.drop [8, 25]))
    (.seq (.seq (.seq (.reg [⟨(some 26), none, .mv (.t 1)⟩, ⟨(some 27), none, .call (.c (.fn 69 [])) [(.t 26)]⟩, ⟨(some 28), none, .bin .eql (.t 27) (.c (.v (.int .i64 0)))⟩]) (.drop [8, 27]))
      (.cond (.t 28) (.seq (.seq (.reg [⟨(some 4), none, .mv (.c (.v (.bool false)))⟩]) (.drop []))
        .ret)
       .skip))
     (.seq (.seq (.reg [⟨(some 29), none, .mv (.t 5)⟩, ⟨(some 30), none, .mv (.t 29)⟩, ⟨(some 31), (some (30, true)), .mv (.t 1)⟩, ⟨(some 32), (some (30, true)), .bin .geq (.t 31) (.c (.v (.int .i64 2)))⟩, ⟨(some 33), none, .pick (.t 30) (.t 32) (.c (.v (.bool false)))⟩, ⟨(some 34), none, .mv (.t 33)⟩, ⟨(some 35), (some (34, true)), .mv (.t 1)⟩, ⟨(some 36), (some (34, true)), .bin .leq (.t 35) (.c (.v (.int .i64 5)))⟩, ⟨(some 37), none, .pick (.t 34) (.t 36) (.c (.v (.bool false)))⟩, ⟨(some 38), none, .mv (.t 37)⟩, ⟨(some 39), (some (38, false)), .mv (.t 6)⟩, ⟨(some 40), (some (38, false)), .mv (.t 39)⟩, ⟨(some 41), (some (40, true)), .mv (.t 1)⟩, ⟨(some 42), (some (40, true)), .bin .eql (.t 41) (.c (.v (.int .i64 1)))⟩, ⟨(some 43), (some (40, true)), .mv (.t 42)⟩, ⟨(some 44), (some (43, false)), .mv (.t 1)⟩, ⟨(some 45), (some (43, false)), .bin .geq (.t 44) (.c (.v (.int .i64 6)))⟩, ⟨(some 46), (some (40, true)), .pick (.t 43) (.c (.v (.bool true))) (.t 45)⟩, ⟨(some 47), (some (38, false)), .pick (.t 40) (.t 46) (.c (.v (.bool false)))⟩, ⟨(some 48), none, .pick (.t 38) (.c (.v (.bool true))) (.t 47)⟩, ⟨(some 49), none, .mv (.t 48)⟩, ⟨(some 50), (some (49, false)), .mv (.t 7)⟩, ⟨(some 51), none, .pick (.t 49) (.c (.v (.bool true))) (.t 50)⟩, ⟨(some 4), none, .mv (.t 51)⟩]) (.drop [5, 51]))
      .ret))))))
def a_fuglemanref11_May : AFn := ⟨2, b_fuglemanref11_May, [.t 4], false, false⟩
theorem a_fuglemanref11_May_ok : compF Try.prog Try.f71 [[2, 4], [6, 13], [7, 19], [8, 25], [8, 27], [], [5, 51]] false false hv = some a_fuglemanref11_May := by kernel_rfl

/-! fugleman/fuglemanref14.logic: 70 -/
def b_fuglemanref14_logic : AC :=
 (.seq (.seq (.reg [⟨(some 2), none, .mv (.c (.v (.bool false)))⟩]) (.drop [1, 2]))
 (.seq (.seq (.reg [⟨(some 3), none, .mv (.t 0)⟩, ⟨(some 4), none, .call (.c (.fn 71 [])) [(.c (.v (.int .i64 13))), (.t 3)]⟩, ⟨(some 2), none, .mv (.t 4)⟩]) (.drop [3, 4]))
  .ret))
def a_fuglemanref14_logic : AFn := ⟨1, b_fuglemanref14_logic, [.t 2], false, false⟩
theorem a_fuglemanref14_logic_ok : compF Try.prog Try.f70 [[1, 2], [3, 4]] false false hv = some a_fuglemanref14_logic := by kernel_rfl

/-! fugleman/fuglemanref14.behind: 56 -/
def c_fuglemanref14_behind_0 : AC :=
 (.seq (.seq (.seq (.reg [⟨(some 33), none, .fad 1 (.t 4)⟩, ⟨(some 34), none, .load none (.t 33)⟩, ⟨(some 35), none, .call (.c (.fn 70 [])) [(.t 34)]⟩, ⟨(some 36), none, .un .not (.t 35)⟩]) (.drop [12, 35]))
             (.cond (.t 36) (.seq (.seq (.reg [⟨(some 37), none, .load (some 3) (.t 11)⟩, ⟨none, none, .store 3 (.t 8) (.t 37)⟩, ⟨(some 9), none, .mv (.c (.v (.int .i64 6)))⟩]) (.drop [10, 37]))
               .ret)
              .skip))
            (.seq (.reg [⟨(some 38), none, .fad 1 (.t 4)⟩, ⟨(some 39), none, .load none (.t 38)⟩, ⟨(some 40), none, .fad 1 (.t 11)⟩, ⟨none, none, .store 1 (.t 40) (.t 39)⟩]) (.drop [12, 40])))
theorem g_fuglemanref14_behind_0 {C : CT} {lf : Nat} {ks : List It} {s : St} : type_of% (@Sym.go_as C lf ks s _ _ c_fuglemanref14_behind_0.eq_1) := Sym.go_as c_fuglemanref14_behind_0.eq_1
def c_fuglemanref14_behind_1 : AC :=
 (.seq (.seq (.reg [⟨(some 48), none, .mv (.t 12)⟩, ⟨(some 49), none, .fad 1 (.t 4)⟩, ⟨(some 50), none, .load none (.t 49)⟩, ⟨(some 51), none, .bin .neq (.t 48) (.t 50)⟩, ⟨(some 52), none, .mv (.t 51)⟩, ⟨(some 53), (some (52, false)), .mv (.t 10)⟩, ⟨(some 54), (some (52, false)), .bin .eql (.t 53) (.c (.v (.int .i64 4)))⟩, ⟨(some 55), (some (52, false)), .mv (.t 54)⟩, ⟨(some 56), (some (55, true)), .fad 1 (.t 4)⟩, ⟨(some 57), (some (55, true)), .load none (.t 56)⟩, ⟨(some 58), (some (55, true)), .call (.c (.fn 70 [])) [(.t 57)]⟩, ⟨(some 59), (some (55, true)), .un .not (.t 58)⟩, ⟨(some 60), (some (52, false)), .pick (.t 55) (.t 59) (.c (.v (.bool false)))⟩, ⟨(some 61), none, .pick (.t 52) (.c (.v (.bool true))) (.t 60)⟩]) (.drop [12, 60]))
              (.cond (.t 61) (.seq (.seq (.reg [⟨(some 62), none, .load (some 3) (.t 11)⟩, ⟨none, none, .store 3 (.t 8) (.t 62)⟩, ⟨(some 9), none, .mv (.c (.v (.int .i64 6)))⟩]) (.drop [10, 62]))
                .ret)
               .skip))
theorem g_fuglemanref14_behind_1 {C : CT} {lf : Nat} {ks : List It} {s : St} : type_of% (@Sym.go_as C lf ks s _ _ c_fuglemanref14_behind_1.eq_1) := Sym.go_as c_fuglemanref14_behind_1.eq_1
def c_fuglemanref14_behind_2 : AC :=
 (.seq (.seq (.reg [⟨(some 70), none, .mv (.t 12)⟩, ⟨(some 71), none, .bin .neq (.t 70) (.c (.v (.int .i64 1)))⟩, ⟨(some 72), none, .mv (.t 71)⟩, ⟨(some 73), (some (72, false)), .fad 1 (.t 4)⟩, ⟨(some 74), (some (72, false)), .load none (.t 73)⟩, ⟨(some 75), (some (72, false)), .bin .neq (.t 74) (.c (.v (.int .i64 1)))⟩, ⟨(some 76), none, .pick (.t 72) (.c (.v (.bool true))) (.t 75)⟩]) (.drop [12, 75]))
                (.cond (.t 76) (.seq (.seq (.reg [⟨(some 77), none, .load (some 3) (.t 11)⟩, ⟨none, none, .store 3 (.t 8) (.t 77)⟩, ⟨(some 9), none, .mv (.c (.v (.int .i64 6)))⟩]) (.drop [10, 77]))
                  .ret)
                 .skip))
theorem g_fuglemanref14_behind_2 {C : CT} {lf : Nat} {ks : List It} {s : St} : type_of% (@Sym.go_as C lf ks s _ _ c_fuglemanref14_behind_2.eq_1) := Sym.go_as c_fuglemanref14_behind_2.eq_1
def c_fuglemanref14_behind_3 : AC :=
 (.seq (.seq (.reg [⟨(some 81), none, .mv (.t 12)⟩, ⟨(some 82), none, .call (.c (.fn 70 [])) [(.t 81)]⟩, ⟨(some 83), none, .un .not (.t 82)⟩]) (.drop [12, 82]))
                  (.cond (.t 83) (.seq (.seq (.reg [⟨(some 84), none, .load (some 3) (.t 11)⟩, ⟨none, none, .store 3 (.t 8) (.t 84)⟩, ⟨(some 9), none, .mv (.c (.v (.int .i64 6)))⟩]) (.drop [10, 84]))
                    .ret)
                   .skip))
theorem g_fuglemanref14_behind_3 {C : CT} {lf : Nat} {ks : List It} {s : St} : type_of% (@Sym.go_as C lf ks s _ _ c_fuglemanref14_behind_3.eq_1) := Sym.go_as c_fuglemanref14_behind_3.eq_1
def c_fuglemanref14_behind_4 : AC :=
 (.seq (.seq (.seq (.reg [⟨(some 92), none, .mv (.t 12)⟩, ⟨(some 93), none, .fad 1 (.t 4)⟩, ⟨(some 94), none, .load none (.t 93)⟩, ⟨(some 95), none, .bin .neq (.t 92) (.t 94)⟩, ⟨(some 96), none, .mv (.t 95)⟩, ⟨(some 97), (some (96, false)), .mv (.t 10)⟩, ⟨(some 98), (some (96, false)), .mv (.t 12)⟩, ⟨(some 99), (some (96, false)), .call (.c (.fn 71 [])) [(.t 97), (.t 98)]⟩, ⟨(some 100), (some (96, false)), .un .not (.t 99)⟩, ⟨(some 101), none, .pick (.t 96) (.c (.v (.bool true))) (.t 100)⟩]) (.drop [12, 100]))
                     (.cond (.t 101) (.seq (.seq (.reg [⟨(some 102), none, .load (some 3) (.t 11)⟩, ⟨none, none, .store 3 (.t 8) (.t 102)⟩, ⟨(some 9), none, .mv (.c (.v (.int .i64 6)))⟩]) (.drop [10, 102]))
                       .ret)
                      .skip))
                    (.seq (.seq (.reg [⟨(some 103), none, .mv (.t 10)⟩, ⟨(some 104), none, .bin .geq (.t 103) (.c (.v (.int .i64 19)))⟩]) (.drop [12, 103]))
                     (.cond (.t 104) (.seq (.reg [⟨(some 105), none, .fad 1 (.t 11)⟩, ⟨none, none, .store 1 (.t 105) (.c (.v (.int .i64 1)))⟩]) (.drop [12, 105]))
                      .skip)))
theorem g_fuglemanref14_behind_4 {C : CT} {lf : Nat} {ks : List It} {s : St} : type_of% (@Sym.go_as C lf ks s _ _ c_fuglemanref14_behind_4.eq_1) := Sym.go_as c_fuglemanref14_behind_4.eq_1
def c_fuglemanref14_behind_5 : AC :=
 (.seq (.seq (.seq (.reg [⟨(some 113), none, .fad 3 (.t 4)⟩, ⟨(some 114), none, .load none (.t 113)⟩, ⟨(some 115), none, .mv (.t 1)⟩, ⟨(some 116), none, .bin .leq (.t 114) (.t 115)⟩, ⟨(some 117), none, .mv (.t 116)⟩, ⟨(some 118), (some (117, false)), .fad 3 (.t 4)⟩, ⟨(some 119), (some (117, false)), .load none (.t 118)⟩, ⟨(some 120), (some (117, false)), .mv (.t 2)⟩, ⟨(some 121), (some (117, false)), .bin .gtr (.t 119) (.t 120)⟩, ⟨(some 122), none, .pick (.t 117) (.c (.v (.bool true))) (.t 121)⟩]) (.drop [13, 121]))
                       (.cond (.t 122) (.seq (.seq (.reg [⟨(some 123), none, .load (some 3) (.t 11)⟩, ⟨none, none, .store 3 (.t 8) (.t 123)⟩, ⟨(some 9), none, .mv (.c (.v (.int .i64 7)))⟩]) (.drop [10, 123]))
                         .ret)
                        .skip))
                      (.seq (.seq (.reg [⟨(some 124), none, .mv (.t 10)⟩, ⟨(some 125), none, .bin .gtr (.t 124) (.c (.v (.int .i64 25)))⟩, ⟨(some 126), none, .mv (.t 125)⟩, ⟨(some 127), (some (126, true)), .mv (.t 12)⟩, ⟨(some 128), (some (126, true)), .bin .neq (.t 127) (.c (.v (.int .i64 1)))⟩, ⟨(some 129), none, .pick (.t 126) (.t 128) (.c (.v (.bool false)))⟩]) (.drop [12, 128]))
                       (.cond (.t 129) (.seq (.seq (.reg [⟨(some 130), none, .load (some 3) (.t 11)⟩, ⟨none, none, .store 3 (.t 8) (.t 130)⟩, ⟨(some 9), none, .mv (.c (.v (.int .i64 6)))⟩]) (.drop [10, 130]))
                         .ret)
                        .skip)))
theorem g_fuglemanref14_behind_5 {C : CT} {lf : Nat} {ks : List It} {s : St} : type_of% (@Sym.go_as C lf ks s _ _ c_fuglemanref14_behind_5.eq_1) := Sym.go_as c_fuglemanref14_behind_5.eq_1
def c_fuglemanref14_behind_6 : AC :=
 (.seq (.seq (.seq (.reg [⟨(some 138), none, .mv (.t 10)⟩, ⟨(some 139), none, .bin .gtr (.t 138) (.c (.v (.int .i64 28)))⟩, ⟨(some 140), none, .mv (.t 139)⟩, ⟨(some 141), (some (140, true)), .mv (.t 12)⟩, ⟨(some 142), (some (140, true)), .bin .neq (.t 141) (.c (.v (.int .i64 1)))⟩, ⟨(some 143), none, .pick (.t 140) (.t 142) (.c (.v (.bool false)))⟩]) (.drop [14, 142]))
                         (.cond (.t 143) (.seq (.seq (.reg [⟨(some 144), none, .load (some 3) (.t 11)⟩, ⟨none, none, .store 3 (.t 8) (.t 144)⟩, ⟨(some 9), none, .mv (.c (.v (.int .i64 6)))⟩]) (.drop [10, 144]))
                           .ret)
                          .skip))
                        (.seq (.seq (.reg [⟨(some 145), none, .mv (.t 13)⟩, ⟨(some 146), none, .bin .gtr (.t 145) (.c (.v (.int .i64 0)))⟩]) (.drop [12, 145]))
                         (.cond (.t 146) (.seq (.seq (.reg [⟨(some 147), none, .load (some 3) (.t 11)⟩, ⟨none, none, .store 3 (.t 8) (.t 147)⟩, ⟨(some 9), none, .mv (.c (.v (.int .i64 3)))⟩]) (.drop [10, 147]))
                           .ret)
                          .skip)))
theorem g_fuglemanref14_behind_6 {C : CT} {lf : Nat} {ks : List It} {s : St} : type_of% (@Sym.go_as C lf ks s _ _ c_fuglemanref14_behind_6.eq_1) := Sym.go_as c_fuglemanref14_behind_6.eq_1
def c_fuglemanref14_behind_7 : AC :=
 (.seq (.seq (.seq (.reg [⟨(some 151), none, .mv (.t 12)⟩, ⟨(some 152), none, .bin .eql (.t 151) (.c (.v (.int .i64 0)))⟩]) (.drop [12, 151]))
                           (.cond (.t 152) (.seq (.seq (.reg [⟨(some 153), none, .load (some 3) (.t 11)⟩, ⟨none, none, .store 3 (.t 8) (.t 153)⟩, ⟨(some 9), none, .mv (.c (.v (.int .i64 6)))⟩]) (.drop [10, 153]))
                             .ret)
                            .skip))
                          (.seq (.reg [⟨(some 154), none, .fad 1 (.t 4)⟩, ⟨(some 155), none, .load none (.t 154)⟩, ⟨(some 156), none, .fad 1 (.t 11)⟩, ⟨none, none, .store 1 (.t 156) (.t 155)⟩]) (.drop [12, 156])))
theorem g_fuglemanref14_behind_7 {C : CT} {lf : Nat} {ks : List It} {s : St} : type_of% (@Sym.go_as C lf ks s _ _ c_fuglemanref14_behind_7.eq_1) := Sym.go_as c_fuglemanref14_behind_7.eq_1
def c_fuglemanref14_behind_8 : AC :=
 (.seq (.seq (.seq (.reg [⟨(some 160), none, .fad 3 (.t 4)⟩, ⟨(some 161), none, .load none (.t 160)⟩, ⟨(some 162), none, .mv (.t 12)⟩, ⟨(some 163), none, .call (.c (.fn 71 [])) [(.t 161), (.t 162)]⟩, ⟨(some 164), none, .un .not (.t 163)⟩]) (.drop [14, 163]))
                             (.cond (.t 164) (.seq (.seq (.reg [⟨(some 165), none, .load (some 3) (.t 11)⟩, ⟨none, none, .store 3 (.t 8) (.t 165)⟩, ⟨(some 9), none, .mv (.c (.v (.int .i64 6)))⟩]) (.drop [10, 165]))
                               .ret)
                              .skip))
                            (.seq (.seq (.seq (.reg [⟨(some 166), none, .mv (.t 13)⟩, ⟨(some 167), none, .bin .eql (.t 166) (.c (.v (.int .i64 8)))⟩]) (.drop [13, 166]))
                              (.cond (.t 167) (.seq (.seq (.reg [⟨(some 168), none, .load (some 3) (.t 11)⟩, ⟨none, none, .store 3 (.t 8) (.t 168)⟩, ⟨(some 9), none, .mv (.c (.v (.int .i64 8)))⟩]) (.drop [10, 168]))
                                .ret)
                               .skip))
                             (.seq (.seq (.reg [⟨(some 169), none, .fad 1 (.t 11)⟩, ⟨none, none, .store 1 (.t 169) (.c (.v (.int .i64 0)))⟩]) (.drop [13, 169]))
                              (.seq (.reg [⟨(some 170), none, .fad 2 (.t 7)⟩, ⟨(some 171), none, .load none (.t 170)⟩, ⟨(some 172), none, .fad 3 (.t 4)⟩, ⟨(some 173), none, .load none (.t 172)⟩, ⟨(some 174), none, .cvi .u8 (.t 173)⟩, ⟨(some 175), none, .mv (.t 12)⟩, ⟨(some 176), none, .cvi .u8 (.t 175)⟩, ⟨(some 177), none, .row 1 2 [(.v (.int .u8 0))] [(0, 1, (.t 174)), (1, 1, (.t 176))]⟩, ⟨(some 178), none, .cvbs (.t 177)⟩, ⟨(some 179), none, .bin .add (.t 171) (.t 178)⟩, ⟨(some 180), none, .fad 2 (.t 11)⟩, ⟨none, none, .store 1 (.t 180) (.t 179)⟩]) (.drop [12, 180])))))
theorem g_fuglemanref14_behind_8 {C : CT} {lf : Nat} {ks : List It} {s : St} : type_of% (@Sym.go_as C lf ks s _ _ c_fuglemanref14_behind_8.eq_1) := Sym.go_as c_fuglemanref14_behind_8.eq_1
def c_fuglemanref14_behind_9 : AC :=
 (.seq (.seq (.seq (.reg [⟨(some 184), none, .mv (.t 13)⟩, ⟨(some 185), none, .bin .eql (.t 184) (.c (.v (.int .i64 0)))⟩]) (.drop [14, 184]))
                               (.cond (.t 185) (.seq (.seq (.reg [⟨(some 186), none, .load (some 3) (.t 11)⟩, ⟨none, none, .store 3 (.t 8) (.t 186)⟩, ⟨(some 9), none, .mv (.c (.v (.int .i64 3)))⟩]) (.drop [10, 186]))
                                 .ret)
                                .skip))
                              (.seq (.seq (.reg [⟨(some 187), none, .fad 2 (.t 7)⟩, ⟨(some 188), none, .load none (.t 187)⟩, ⟨(some 189), none, .mv (.t 13)⟩, ⟨(some 190), none, .bin .mul (.c (.v (.int .i64 2))) (.t 189)⟩, ⟨(some 191), none, .bin .sub (.t 190) (.c (.v (.int .i64 2)))⟩, ⟨(some 192), none, .slstr (.t 188) (some (.t 191)) none⟩, ⟨(some 14), none, .mv (.t 192)⟩]) (.drop [15, 192]))
                               (.seq (.seq (.seq (.reg [⟨(some 193), none, .mv (.t 12)⟩, ⟨(some 194), none, .mv (.t 14)⟩, ⟨(some 195), none, .ixstr (.t 194) (.c (.v (.int .i64 1)))⟩, ⟨(some 196), none, .cvi .i64 (.t 195)⟩, ⟨(some 197), none, .bin .neq (.t 193) (.t 196)⟩]) (.drop [15, 196]))
                                 (.cond (.t 197) (.seq (.seq (.reg [⟨(some 198), none, .load (some 3) (.t 11)⟩, ⟨none, none, .store 3 (.t 8) (.t 198)⟩, ⟨(some 9), none, .mv (.c (.v (.int .i64 6)))⟩]) (.drop [10, 198]))
                                   .ret)
                                  .skip))
                                (.seq (.seq (.seq (.reg [⟨(some 199), none, .mv (.t 14)⟩, ⟨(some 200), none, .ixstr (.t 199) (.c (.v (.int .i64 0)))⟩, ⟨(some 201), none, .bin .geq (.t 200) (.c (.v (.int .u8 19)))⟩]) (.drop [14, 200]))
                                  (.cond (.t 201) (.seq (.reg [⟨(some 202), none, .fad 1 (.t 11)⟩, ⟨none, none, .store 1 (.t 202) (.c (.v (.int .i64 1)))⟩]) (.drop [14, 202]))
                                   .skip))
                                 (.seq (.reg [⟨(some 203), none, .fad 2 (.t 7)⟩, ⟨(some 204), none, .load none (.t 203)⟩, ⟨(some 205), none, .mv (.t 13)⟩, ⟨(some 206), none, .bin .mul (.c (.v (.int .i64 2))) (.t 205)⟩, ⟨(some 207), none, .bin .sub (.t 206) (.c (.v (.int .i64 2)))⟩, ⟨(some 208), none, .slstr (.t 204) none (some (.t 207))⟩, ⟨(some 209), none, .fad 2 (.t 11)⟩, ⟨none, none, .store 1 (.t 209) (.t 208)⟩]) (.drop [12, 209]))))))
theorem g_fuglemanref14_behind_9 {C : CT} {lf : Nat} {ks : List It} {s : St} : type_of% (@Sym.go_as C lf ks s _ _ c_fuglemanref14_behind_9.eq_1) := Sym.go_as c_fuglemanref14_behind_9.eq_1
def c_fuglemanref14_behind_10 : AC :=
 (.seq (.seq (.reg [⟨(some 211), none, .mv (.t 12)⟩, ⟨(some 212), none, .bin .neq (.t 211) (.c (.v (.int .i64 1)))⟩, ⟨(some 210), none, .mv (.t 212)⟩]) (.drop [211, 212]))
                              (.cond (.t 210) (.seq (.seq (.reg [⟨(some 213), none, .load (some 3) (.t 11)⟩, ⟨none, none, .store 3 (.t 8) (.t 213)⟩, ⟨(some 9), none, .mv (.c (.v (.int .i64 6)))⟩]) (.drop [10, 213]))
                                .ret)
                               .skip))
theorem g_fuglemanref14_behind_10 {C : CT} {lf : Nat} {ks : List It} {s : St} : type_of% (@Sym.go_as C lf ks s _ _ c_fuglemanref14_behind_10.eq_1) := Sym.go_as c_fuglemanref14_behind_10.eq_1
def c_fuglemanref14_behind_11 : AC :=
 (.seq (.seq (.reg [⟨(some 182), none, .mv (.t 10)⟩, ⟨(some 183), none, .bin .eql (.t 182) (.c (.v (.int .i64 33)))⟩, ⟨(some 181), none, .mv (.t 183)⟩]) (.drop [182, 183]))
                            (.cond (.t 181) c_fuglemanref14_behind_9
                             c_fuglemanref14_behind_10))
theorem g_fuglemanref14_behind_11 {C : CT} {lf : Nat} {ks : List It} {s : St} : type_of% (@Sym.go_as C lf ks s _ _ c_fuglemanref14_behind_11.eq_1) := Sym.go_as c_fuglemanref14_behind_11.eq_1
def c_fuglemanref14_behind_12 : AC :=
 (.seq (.seq (.reg [⟨(some 158), none, .mv (.t 10)⟩, ⟨(some 159), none, .bin .eql (.t 158) (.c (.v (.int .i64 32)))⟩, ⟨(some 157), none, .mv (.t 159)⟩]) (.drop [158, 159]))
                          (.cond (.t 157) c_fuglemanref14_behind_8
                           c_fuglemanref14_behind_11))
theorem g_fuglemanref14_behind_12 {C : CT} {lf : Nat} {ks : List It} {s : St} : type_of% (@Sym.go_as C lf ks s _ _ c_fuglemanref14_behind_12.eq_1) := Sym.go_as c_fuglemanref14_behind_12.eq_1
def c_fuglemanref14_behind_13 : AC :=
 (.seq (.seq (.reg [⟨(some 149), none, .mv (.t 10)⟩, ⟨(some 150), none, .bin .eql (.t 149) (.c (.v (.int .i64 31)))⟩, ⟨(some 148), none, .mv (.t 150)⟩]) (.drop [149, 150]))
                        (.cond (.t 148) c_fuglemanref14_behind_7
                         c_fuglemanref14_behind_12))
theorem g_fuglemanref14_behind_13 {C : CT} {lf : Nat} {ks : List It} {s : St} : type_of% (@Sym.go_as C lf ks s _ _ c_fuglemanref14_behind_13.eq_1) := Sym.go_as c_fuglemanref14_behind_13.eq_1
def c_fuglemanref14_behind_14 : AC :=
 (.seq (.seq (.reg [⟨(some 132), none, .mv (.t 10)⟩, ⟨(some 133), none, .bin .geq (.t 132) (.c (.v (.int .i64 28)))⟩, ⟨(some 134), none, .mv (.t 133)⟩, ⟨(some 135), (some (134, true)), .mv (.t 10)⟩, ⟨(some 136), (some (134, true)), .bin .leq (.t 135) (.c (.v (.int .i64 30)))⟩, ⟨(some 137), none, .pick (.t 134) (.t 136) (.c (.v (.bool false)))⟩, ⟨(some 131), none, .mv (.t 137)⟩]) (.drop [132, 137]))
                      (.cond (.t 131) c_fuglemanref14_behind_6
                       c_fuglemanref14_behind_13))
theorem g_fuglemanref14_behind_14 {C : CT} {lf : Nat} {ks : List It} {s : St} : type_of% (@Sym.go_as C lf ks s _ _ c_fuglemanref14_behind_14.eq_1) := Sym.go_as c_fuglemanref14_behind_14.eq_1
def c_fuglemanref14_behind_15 : AC :=
 (.seq (.seq (.reg [⟨(some 107), none, .mv (.t 10)⟩, ⟨(some 108), none, .bin .geq (.t 107) (.c (.v (.int .i64 25)))⟩, ⟨(some 109), none, .mv (.t 108)⟩, ⟨(some 110), (some (109, true)), .mv (.t 10)⟩, ⟨(some 111), (some (109, true)), .bin .leq (.t 110) (.c (.v (.int .i64 27)))⟩, ⟨(some 112), none, .pick (.t 109) (.t 111) (.c (.v (.bool false)))⟩, ⟨(some 106), none, .mv (.t 112)⟩]) (.drop [107, 112]))
                    (.cond (.t 106) c_fuglemanref14_behind_5
                     c_fuglemanref14_behind_14))
theorem g_fuglemanref14_behind_15 {C : CT} {lf : Nat} {ks : List It} {s : St} : type_of% (@Sym.go_as C lf ks s _ _ c_fuglemanref14_behind_15.eq_1) := Sym.go_as c_fuglemanref14_behind_15.eq_1
def c_fuglemanref14_behind_16 : AC :=
 (.seq (.seq (.reg [⟨(some 86), none, .mv (.t 10)⟩, ⟨(some 87), none, .bin .geq (.t 86) (.c (.v (.int .i64 7)))⟩, ⟨(some 88), none, .mv (.t 87)⟩, ⟨(some 89), (some (88, true)), .mv (.t 10)⟩, ⟨(some 90), (some (88, true)), .bin .leq (.t 89) (.c (.v (.int .i64 24)))⟩, ⟨(some 91), none, .pick (.t 88) (.t 90) (.c (.v (.bool false)))⟩, ⟨(some 85), none, .mv (.t 91)⟩]) (.drop [86, 91]))
                  (.cond (.t 85) c_fuglemanref14_behind_4
                   c_fuglemanref14_behind_15))
theorem g_fuglemanref14_behind_16 {C : CT} {lf : Nat} {ks : List It} {s : St} : type_of% (@Sym.go_as C lf ks s _ _ c_fuglemanref14_behind_16.eq_1) := Sym.go_as c_fuglemanref14_behind_16.eq_1
def c_fuglemanref14_behind_17 : AC :=
 (.seq (.seq (.reg [⟨(some 79), none, .mv (.t 10)⟩, ⟨(some 80), none, .bin .eql (.t 79) (.c (.v (.int .i64 13)))⟩, ⟨(some 78), none, .mv (.t 80)⟩]) (.drop [79, 80]))
                (.cond (.t 78) c_fuglemanref14_behind_3
                 c_fuglemanref14_behind_16))
theorem g_fuglemanref14_behind_17 {C : CT} {lf : Nat} {ks : List It} {s : St} : type_of% (@Sym.go_as C lf ks s _ _ c_fuglemanref14_behind_17.eq_1) := Sym.go_as c_fuglemanref14_behind_17.eq_1
def c_fuglemanref14_behind_18 : AC :=
 (.seq (.seq (.reg [⟨(some 64), none, .mv (.t 10)⟩, ⟨(some 65), none, .bin .eql (.t 64) (.c (.v (.int .i64 5)))⟩, ⟨(some 66), none, .mv (.t 65)⟩, ⟨(some 67), (some (66, false)), .mv (.t 10)⟩, ⟨(some 68), (some (66, false)), .bin .eql (.t 67) (.c (.v (.int .i64 6)))⟩, ⟨(some 69), none, .pick (.t 66) (.c (.v (.bool true))) (.t 68)⟩, ⟨(some 63), none, .mv (.t 69)⟩]) (.drop [64, 69]))
              (.cond (.t 63) c_fuglemanref14_behind_2
               c_fuglemanref14_behind_17))
theorem g_fuglemanref14_behind_18 {C : CT} {lf : Nat} {ks : List It} {s : St} : type_of% (@Sym.go_as C lf ks s _ _ c_fuglemanref14_behind_18.eq_1) := Sym.go_as c_fuglemanref14_behind_18.eq_1
def c_fuglemanref14_behind_19 : AC :=
 (.seq (.seq (.reg [⟨(some 42), none, .mv (.t 10)⟩, ⟨(some 43), none, .bin .eql (.t 42) (.c (.v (.int .i64 3)))⟩, ⟨(some 44), none, .mv (.t 43)⟩, ⟨(some 45), (some (44, false)), .mv (.t 10)⟩, ⟨(some 46), (some (44, false)), .bin .eql (.t 45) (.c (.v (.int .i64 4)))⟩, ⟨(some 47), none, .pick (.t 44) (.c (.v (.bool true))) (.t 46)⟩, ⟨(some 41), none, .mv (.t 47)⟩]) (.drop [42, 47]))
            (.cond (.t 41) c_fuglemanref14_behind_1
             c_fuglemanref14_behind_18))
theorem g_fuglemanref14_behind_19 {C : CT} {lf : Nat} {ks : List It} {s : St} : type_of% (@Sym.go_as C lf ks s _ _ c_fuglemanref14_behind_19.eq_1) := Sym.go_as c_fuglemanref14_behind_19.eq_1
def c_fuglemanref14_behind_20 : AC :=
 (.seq (.seq (.reg [⟨(some 31), none, .mv (.t 10)⟩, ⟨(some 32), none, .bin .eql (.t 31) (.c (.v (.int .i64 2)))⟩, ⟨(some 30), none, .mv (.t 32)⟩]) (.drop [31, 32]))
          (.cond (.t 30) c_fuglemanref14_behind_0
           c_fuglemanref14_behind_19))
theorem g_fuglemanref14_behind_20 {C : CT} {lf : Nat} {ks : List It} {s : St} : type_of% (@Sym.go_as C lf ks s _ _ c_fuglemanref14_behind_20.eq_1) := Sym.go_as c_fuglemanref14_behind_20.eq_1
theorem gs_fuglemanref14_behind : type_of% (And.intro (And.intro (And.intro (And.intro (@g_fuglemanref14_behind_0) (@g_fuglemanref14_behind_1)) (And.intro (@g_fuglemanref14_behind_2) (And.intro (@g_fuglemanref14_behind_3) (@g_fuglemanref14_behind_4)))) (And.intro (And.intro (@g_fuglemanref14_behind_5) (@g_fuglemanref14_behind_6)) (And.intro (@g_fuglemanref14_behind_7) (And.intro (@g_fuglemanref14_behind_8) (@g_fuglemanref14_behind_9))))) (And.intro (And.intro (And.intro (@g_fuglemanref14_behind_10) (@g_fuglemanref14_behind_11)) (And.intro (@g_fuglemanref14_behind_12) (And.intro (@g_fuglemanref14_behind_13) (@g_fuglemanref14_behind_14)))) (And.intro (And.intro (@g_fuglemanref14_behind_15) (And.intro (@g_fuglemanref14_behind_16) (@g_fuglemanref14_behind_17))) (And.intro (@g_fuglemanref14_behind_18) (And.intro (@g_fuglemanref14_behind_19) (@g_fuglemanref14_behind_20)))))) := (And.intro (And.intro (And.intro (And.intro (@g_fuglemanref14_behind_0) (@g_fuglemanref14_behind_1)) (And.intro (@g_fuglemanref14_behind_2) (And.intro (@g_fuglemanref14_behind_3) (@g_fuglemanref14_behind_4)))) (And.intro (And.intro (@g_fuglemanref14_behind_5) (@g_fuglemanref14_behind_6)) (And.intro (@g_fuglemanref14_behind_7) (And.intro (@g_fuglemanref14_behind_8) (@g_fuglemanref14_behind_9))))) (And.intro (And.intro (And.intro (@g_fuglemanref14_behind_10) (@g_fuglemanref14_behind_11)) (And.intro (@g_fuglemanref14_behind_12) (And.intro (@g_fuglemanref14_behind_13) (@g_fuglemanref14_behind_14)))) (And.intro (And.intro (@g_fuglemanref14_behind_15) (And.intro (@g_fuglemanref14_behind_16) (@g_fuglemanref14_behind_17))) (And.intro (@g_fuglemanref14_behind_18) (And.intro (@g_fuglemanref14_behind_19) (@g_fuglemanref14_behind_20))))))
def b_fuglemanref14_behind : AC :=
 (.seq (.seq (.reg [⟨(some 4), none, .box (.t 0)⟩, ⟨(some 7), none, .box (.t 3)⟩, ⟨(some 8), none, .alloc [(.v (.bool false)), (.v (.int .i64 0)), (.v (.string ⟨#[]⟩))]⟩, ⟨(some 9), none, .mv (.c (.v (.int .i64 0)))⟩]) (.drop [9, 9]))
 (.seq (.seq (.reg [⟨(some 15), none, .fad 0 (.t 4)⟩, ⟨(some 16), none, .load none (.t 15)⟩, ⟨(some 10), none, .mv (.t 16)⟩]) (.drop [11, 16]))
  (.seq (.seq (.reg [⟨(some 17), none, .load (some 3) (.t 7)⟩, ⟨(some 11), none, .alloc [(.v (.bool false)), (.v (.int .i64 0)), (.v (.string ⟨#[]⟩))]⟩, ⟨none, none, .store 3 (.t 11) (.t 17)⟩]) (.drop [12, 17]))
   (.seq (.seq (.reg [⟨(some 18), none, .fad 1 (.t 7)⟩, ⟨(some 19), none, .load none (.t 18)⟩, ⟨(some 12), none, .mv (.t 19)⟩]) (.drop [13, 19]))
    (.seq (.seq (.reg [⟨(some 20), none, .fad 2 (.t 7)⟩, ⟨(some 21), none, .load none (.t 20)⟩, ⟨(some 22), none, .lens (.t 21)⟩, ⟨(some 23), none, .bin .quo (.t 22) (.c (.v (.int .i64 2)))⟩, ⟨(some 13), none, .mv (.t 23)⟩]) (.drop [14, 23]))
     (.seq (.block 0 (.seq (.seq (.reg [⟨(some 25), none, .mv (.t 10)⟩, ⟨(some 26), none, .bin .eql (.t 25) (.c (.v (.int .i64 1)))⟩, ⟨(some 24), none, .mv (.t 26)⟩]) (.drop [25, 26]))
        (.cond (.t 24) (.seq (.reg [⟨(some 27), none, .fad 1 (.t 4)⟩, ⟨(some 28), none, .load none (.t 27)⟩, ⟨(some 29), none, .fad 1 (.t 11)⟩, ⟨none, none, .store 1 (.t 29) (.t 28)⟩]) (.drop [12, 29]))
         c_fuglemanref14_behind_20)))
      (.seq (.seq (.reg [⟨(some 214), none, .load (some 3) (.t 11)⟩, ⟨none, none, .store 3 (.t 8) (.t 214)⟩, ⟨(some 9), none, .mv (.c (.v (.int .i64 0)))⟩]) (.drop [10, 214]))
       .ret)))))))
def a_fuglemanref14_behind : AFn := ⟨4, b_fuglemanref14_behind, [.cell 8 (some 3), .t 9], false, false⟩
theorem a_fuglemanref14_behind_ok : compF Try.prog Try.f56 [[9, 9], [11, 16], [12, 17], [13, 19], [14, 23], [25, 26], [12, 29], [31, 32], [12, 35], [10, 37], [12, 40], [42, 47], [12, 60], [10, 62], [64, 69], [12, 75], [10, 77], [79, 80], [12, 82], [10, 84], [86, 91], [12, 100], [10, 102], [12, 103], [12, 105], [107, 112], [13, 121], [10, 123], [12, 128], [10, 130], [132, 137], [14, 142], [10, 144], [12, 145], [10, 147], [149, 150], [12, 151], [10, 153], [12, 156], [158, 159], [14, 163], [10, 165], [13, 166], [10, 168], [13, 169], [12, 180], [182, 183], [14, 184], [10, 186], [15, 192], [15, 196], [10, 198], [14, 200], [14, 202], [12, 209], [211, 212], [10, 213], [10, 214]] false false hv = some a_fuglemanref14_behind := by kernel_rfl

/-! fugleman/fuglemanref14.join: 57 -/
def b_fuglemanref14_join : AC :=
 (.seq (.seq (.reg [⟨(some 2), none, .box (.t 0)⟩, ⟨(some 3), none, .box (.t 1)⟩, ⟨(some 4), none, .alloc [(.v (.bool false)), (.v (.int .i64 0)), (.v (.string ⟨#[]⟩))]⟩, ⟨(some 5), none, .mv (.c (.v (.bool false)))⟩]) (.drop [5, 5]))
 (.seq (.seq (.seq (.reg [⟨(some 6), none, .fad 0 (.t 2)⟩, ⟨(some 7), none, .load none (.t 6)⟩, ⟨(some 8), none, .un .not (.t 7)⟩]) (.drop [5, 7]))
   (.cond (.t 8) (.seq (.seq (.reg [⟨(some 9), none, .load (some 3) (.t 3)⟩, ⟨none, none, .store 3 (.t 4) (.t 9)⟩, ⟨(some 5), none, .mv (.c (.v (.bool true)))⟩]) (.drop [6, 9]))
     .ret)
    .skip))
  (.seq (.seq (.seq (.reg [⟨(some 10), none, .fad 1 (.t 2)⟩, ⟨(some 11), none, .load none (.t 10)⟩, ⟨(some 12), none, .fad 1 (.t 3)⟩, ⟨(some 13), none, .load none (.t 12)⟩, ⟨(some 14), none, .bin .neq (.t 11) (.t 13)⟩]) (.drop [5, 13]))
    (.cond (.t 14) (.seq (.reg [⟨(some 15), none, .fad 1 (.t 2)⟩, ⟨none, none, .store 1 (.t 15) (.c (.v (.int .i64 0)))⟩]) (.drop [5, 15]))
     .skip))
   (.seq (.seq (.regs 6 [⟨(some 16), none, .load (some 3) (.t 2)⟩, ⟨(some 17), none, .fad 2 (.t 2)⟩, ⟨(some 18), none, .load none (.t 17)⟩, ⟨(some 19), none, .fad 2 (.t 3)⟩, ⟨(some 20), none, .load none (.t 19)⟩, ⟨(some 21), none, .bin .eql (.t 18) (.t 20)⟩, ⟨none, none, .store 3 (.t 4) (.t 16)⟩, ⟨(some 5), none, .mv (.t 21)⟩]) (.drop [6, 21]))
    .ret))))
def a_fuglemanref14_join : AFn := ⟨2, b_fuglemanref14_join, [.cell 4 (some 3), .t 5], false, false⟩
theorem a_fuglemanref14_join_ok : compF Try.prog Try.f57 [[5, 5], [5, 7], [6, 9], [5, 13], [5, 15], [6, 21]] false false hv = some a_fuglemanref14_join := by kernel_rfl

/-! fugleman/fuglemanref14.All: 42 -/
def l_fuglemanref14_All_1 : AC :=
 (.seq (.seq (.seq (.reg [⟨(some 107), none, .mv (.t 6)⟩, ⟨(some 108), none, .mv (.t 5)⟩, ⟨(some 109), none, .ixs 3 (.t 107) (.t 108)⟩, ⟨(some 110), none, .fad 0 (.t 109)⟩, ⟨(some 111), none, .load none (.t 110)⟩, ⟨(some 112), none, .mv (.t 111)⟩, ⟨(some 113), (some (112, true)), .mv (.t 6)⟩, ⟨(some 114), (some (112, true)), .mv (.t 5)⟩, ⟨(some 115), (some (112, true)), .ixs 3 (.t 113) (.t 114)⟩, ⟨(some 116), (some (112, true)), .fad 2 (.t 115)⟩, ⟨(some 117), (some (112, true)), .load none (.t 116)⟩, ⟨(some 118), (some (112, true)), .bin .neq (.t 117) (.c (.v (.string ⟨#[]⟩)))⟩, ⟨(some 119), none, .pick (.t 112) (.t 118) (.c (.v (.bool false)))⟩]) (.drop [7, 118]))
  (.cond (.t 119) (.seq (.seq (.reg [⟨(some 120), none, .mv (.t 5)⟩, ⟨(some 2), none, .mv (.c (.v (.slice none 0 0)))⟩, ⟨(some 3), none, .mv (.c (.v (.int .i64 3)))⟩, ⟨(some 4), none, .mv (.t 120)⟩]) (.drop [5, 120]))
    .ret)
   .skip))
 (.seq (.seq (.reg [⟨(some 121), none, .mv (.t 6)⟩, ⟨(some 2), none, .mv (.t 121)⟩, ⟨(some 3), none, .mv (.c (.v (.int .i64 0)))⟩, ⟨(some 4), none, .mv (.c (.v (.int .i64 0)))⟩]) (.drop [5, 121]))
  .ret))
def c_fuglemanref14_All_0 : AC :=
 (.seq (.regm [(.o, ⟨(some 66), none, .mv (.t 6)⟩), (.o, ⟨(some 67), none, .mv (.t 7)⟩), (.o, ⟨(some 68), none, .bin .add (.t 67) (.c (.v (.int .i64 1)))⟩), (.o, ⟨(some 69), none, .mv (.t 6)⟩), (.o, ⟨(some 70), none, .mv (.t 7)⟩), (.o, ⟨(some 71), none, .bin .add (.t 70) (.c (.v (.int .i64 1)))⟩), (.o, ⟨(some 72), none, .ixs 3 (.t 69) (.t 71)⟩), (.o, ⟨(some 73), none, .load (some 3) (.t 72)⟩), (.o, ⟨(some 74), none, .load (some 3) (.t 9)⟩), (.m, ⟨(some 75), none, .call (.c (.fn 57 [])) [(.t 73), (.t 74)]⟩), (.o, ⟨(some 65), none, .mv (.t 75)⟩), (.o, ⟨(some 76), none, .ext 0 (.t 65)⟩), (.o, ⟨(some 77), none, .ext 1 (.t 65)⟩), (.o, ⟨(some 78), none, .ixs 3 (.t 66) (.t 68)⟩), (.o, ⟨none, none, .store 3 (.t 78) (.t 76)⟩), (.o, ⟨(some 11), none, .mv (.t 77)⟩)]) (.drop [12, 78]))
theorem g_fuglemanref14_All_0 {C : CT} {lf : Nat} {ks : List It} {s : St} : type_of% (@Sym.go_as C lf ks s _ _ c_fuglemanref14_All_0.eq_1) := Sym.go_as c_fuglemanref14_All_0.eq_1
def c_fuglemanref14_All_1 : AC :=
 (.seq (.regm [(.o, ⟨(some 91), none, .mv (.t 6)⟩), (.o, ⟨(some 92), none, .fad 3 (.t 8)⟩), (.o, ⟨(some 93), none, .load none (.t 92)⟩), (.o, ⟨(some 94), none, .mv (.t 6)⟩), (.o, ⟨(some 95), none, .fad 3 (.t 8)⟩), (.o, ⟨(some 96), none, .load none (.t 95)⟩), (.o, ⟨(some 97), none, .ixs 3 (.t 94) (.t 96)⟩), (.o, ⟨(some 98), none, .load (some 3) (.t 97)⟩), (.o, ⟨(some 99), none, .load (some 3) (.t 9)⟩), (.m, ⟨(some 100), none, .call (.c (.fn 57 [])) [(.t 98), (.t 99)]⟩), (.o, ⟨(some 90), none, .mv (.t 100)⟩), (.o, ⟨(some 101), none, .ext 0 (.t 90)⟩), (.o, ⟨(some 102), none, .ext 1 (.t 90)⟩), (.o, ⟨(some 103), none, .ixs 3 (.t 91) (.t 93)⟩), (.o, ⟨none, none, .store 3 (.t 103) (.t 101)⟩), (.o, ⟨(some 11), none, .mv (.t 102)⟩)]) (.drop [12, 103]))
theorem g_fuglemanref14_All_1 {C : CT} {lf : Nat} {ks : List It} {s : St} : type_of% (@Sym.go_as C lf ks s _ _ c_fuglemanref14_All_1.eq_1) := Sym.go_as c_fuglemanref14_All_1.eq_1
def l_fuglemanref14_All_0 : AC :=
 (.seq (.seq (.seq (.reg [⟨(some 23), none, .mv (.t 7)⟩, ⟨(some 24), none, .mv (.t 5)⟩, ⟨(some 25), none, .bin .lss (.t 23) (.t 24)⟩]) (.drop [8, 24]))
  (.cond (.t 25) .skip
   (.exit 0)))
 (.seq (.block 1 (.seq (.seq (.reg [⟨(some 28), none, .mv (.t 0)⟩, ⟨(some 29), none, .mv (.t 7)⟩, ⟨(some 30), none, .ixs 5 (.t 28) (.t 29)⟩, ⟨(some 31), none, .load (some 5) (.t 30)⟩, ⟨(some 8), none, .alloc [(.v (.int .i64 0)), (.v (.int .i64 0)), (.v (.int .i64 0)), (.v (.int .i64 0)), (.v (.int .i64 0))]⟩, ⟨none, none, .store 5 (.t 8) (.t 31)⟩]) (.drop [9, 31]))
    (.seq (.seq (.seq (.reg [⟨(some 32), none, .load (some 5) (.t 8)⟩, ⟨(some 33), none, .call (.c (.fn 55 [])) [(.t 32)]⟩, ⟨(some 34), none, .un .not (.t 33)⟩]) (.drop [9, 33]))
      (.cond (.t 34) (.seq (.seq (.reg [⟨(some 35), none, .mv (.t 7)⟩, ⟨(some 2), none, .mv (.c (.v (.slice none 0 0)))⟩, ⟨(some 3), none, .mv (.c (.v (.int .i64 3)))⟩, ⟨(some 4), none, .mv (.t 35)⟩]) (.drop [5, 35]))
        .ret)
       .skip))
     (.seq (.seq (.seq (.reg [⟨(some 36), none, .mv (.t 6)⟩, ⟨(some 37), none, .mv (.t 7)⟩, ⟨(some 38), none, .ixs 3 (.t 36) (.t 37)⟩, ⟨(some 39), none, .fad 0 (.t 38)⟩, ⟨(some 40), none, .load none (.t 39)⟩, ⟨(some 41), none, .un .not (.t 40)⟩]) (.drop [9, 40]))
       (.cond (.t 41) (.exit 1)
        .skip))
      (.seq (.seq (.regx (.op .o ⟨(some 43), none, .load (some 5) (.t 8)⟩
          (.op .o ⟨(some 44), none, .mv (.t 7)⟩
           (.op .o ⟨(some 45), none, .mv (.t 5)⟩
            (.op .o ⟨(some 46), none, .mv (.t 6)⟩
             (.op .o ⟨(some 47), none, .mv (.t 7)⟩
              (.op .o ⟨(some 48), none, .ixs 3 (.t 46) (.t 47)⟩
               (.op .o ⟨(some 49), none, .load (some 3) (.t 48)⟩
                (.alt (.op .m ⟨(some 50), none, .call (.c (.fn 56 [])) [(.t 43), (.t 44), (.t 45), (.t 49)]⟩
                  (.op .o ⟨(some 42), none, .mv (.t 50)⟩
                   (.op .o ⟨(some 51), none, .ext 0 (.t 42)⟩
                    (.op .o ⟨(some 52), none, .ext 1 (.t 42)⟩
                     (.op .o ⟨(some 9), none, .alloc [(.v (.bool false)), (.v (.int .i64 0)), (.v (.string ⟨#[]⟩))]⟩
                      (.op .o ⟨none, none, .store 3 (.t 9) (.t 51)⟩
                       (.op .o ⟨(some 10), none, .mv (.t 52)⟩
                        .nil)))))))
                 (.op .o ⟨(some 9), none, .alloc [(.v (.bool false)), (.v (.int .i64 0)), (.v (.string ⟨#[]⟩))]⟩
                  (.op .m ⟨(some 50), none, .call (.c (.fn 56 [])) [(.t 43), (.t 44), (.t 45), (.t 49)]⟩
                   (.op .o ⟨(some 42), none, .mv (.t 50)⟩
                    (.op .o ⟨(some 51), none, .ext 0 (.t 42)⟩
                     (.op .o ⟨(some 52), none, .ext 1 (.t 42)⟩
                      (.op .o ⟨none, none, .store 3 (.t 9) (.t 51)⟩
                       (.op .o ⟨(some 10), none, .mv (.t 52)⟩
                        .nil)))))))))))))))) (.drop [11, 52]))
       (.seq (.seq (.seq (.reg [⟨(some 53), none, .mv (.t 10)⟩, ⟨(some 54), none, .bin .neq (.t 53) (.c (.v (.int .i64 0)))⟩]) (.drop [11, 53]))
         (.cond (.t 54) (.seq (.seq (.reg [⟨(some 55), none, .mv (.t 10)⟩, ⟨(some 56), none, .mv (.t 7)⟩, ⟨(some 2), none, .mv (.c (.v (.slice none 0 0)))⟩, ⟨(some 3), none, .mv (.t 55)⟩, ⟨(some 4), none, .mv (.t 56)⟩]) (.drop [5, 56]))
           .ret)
          .skip))
        (.seq (.seq (.reg [⟨(some 11), none, .mv (.c (.v (.bool true)))⟩]) (.drop []))
         (.seq (.seq (.seq (.reg [⟨(some 57), none, .fad 0 (.t 8)⟩, ⟨(some 58), none, .load none (.t 57)⟩, ⟨(some 59), none, .bin .neq (.t 58) (.c (.v (.int .i64 25)))⟩, ⟨(some 60), none, .mv (.t 59)⟩, ⟨(some 61), (some (60, true)), .fad 0 (.t 8)⟩, ⟨(some 62), (some (60, true)), .load none (.t 61)⟩, ⟨(some 63), (some (60, true)), .bin .neq (.t 62) (.c (.v (.int .i64 28)))⟩, ⟨(some 64), none, .pick (.t 60) (.t 63) (.c (.v (.bool false)))⟩]) (.drop [12, 63]))
           (.cond (.t 64) c_fuglemanref14_All_0
            .skip))
          (.seq (.seq (.seq (.reg [⟨(some 79), none, .mv (.t 11)⟩, ⟨(some 80), none, .mv (.t 79)⟩, ⟨(some 81), (some (80, true)), .fad 0 (.t 8)⟩, ⟨(some 82), (some (80, true)), .load none (.t 81)⟩, ⟨(some 83), (some (80, true)), .bin .geq (.t 82) (.c (.v (.int .i64 25)))⟩, ⟨(some 84), none, .pick (.t 80) (.t 83) (.c (.v (.bool false)))⟩, ⟨(some 85), none, .mv (.t 84)⟩, ⟨(some 86), (some (85, true)), .fad 0 (.t 8)⟩, ⟨(some 87), (some (85, true)), .load none (.t 86)⟩, ⟨(some 88), (some (85, true)), .bin .leq (.t 87) (.c (.v (.int .i64 27)))⟩, ⟨(some 89), none, .pick (.t 85) (.t 88) (.c (.v (.bool false)))⟩]) (.drop [12, 88]))
            (.cond (.t 89) c_fuglemanref14_All_1
             .skip))
           (.seq (.seq (.reg [⟨(some 104), none, .mv (.t 11)⟩, ⟨(some 105), none, .un .not (.t 104)⟩]) (.drop [8, 104]))
            (.cond (.t 105) (.seq (.seq (.reg [⟨(some 106), none, .mv (.t 7)⟩, ⟨(some 2), none, .mv (.c (.v (.slice none 0 0)))⟩, ⟨(some 3), none, .mv (.c (.v (.int .i64 7)))⟩, ⟨(some 4), none, .mv (.t 106)⟩]) (.drop [5, 106]))
              .ret)
             .skip)))))))))))
  (.seq (.reg [⟨(some 26), none, .mv (.t 7)⟩, ⟨(some 27), none, .bin .add (.t 26) (.c (.v (.int .i64 1)))⟩, ⟨(some 7), none, .mv (.t 27)⟩]) (.drop [8, 27]))))
theorem gs_fuglemanref14_All : type_of% (And.intro (@g_fuglemanref14_All_0) (@g_fuglemanref14_All_1)) := (And.intro (@g_fuglemanref14_All_0) (@g_fuglemanref14_All_1))
def b_fuglemanref14_All : AC :=
 (.seq (.seq (.reg [⟨(some 2), none, .mv (.c (.v (.slice none 0 0)))⟩, ⟨(some 3), none, .mv (.c (.v (.int .i64 0)))⟩, ⟨(some 4), none, .mv (.c (.v (.int .i64 0)))⟩]) (.drop [1, 4]))
 (.seq (.seq (.seq (.reg [⟨(some 12), none, .mv (.t 0)⟩, ⟨(some 13), none, .len (.t 12)⟩, ⟨(some 14), none, .bin .gtr (.t 13) (.c (.v (.int .i64 200)))⟩]) (.drop [1, 13]))
   (.cond (.t 14) (.seq (.seq (.reg [⟨(some 2), none, .mv (.c (.v (.slice none 0 0)))⟩, ⟨(some 3), none, .mv (.c (.v (.int .i64 2)))⟩, ⟨(some 4), none, .mv (.c (.v (.int .i64 200)))⟩]) (.drop []))
     .ret)
    .skip))
  (.seq (.seq (.reg [⟨(some 15), none, .mv (.t 0)⟩, ⟨(some 16), none, .len (.t 15)⟩, ⟨(some 5), none, .mv (.t 16)⟩]) (.drop [6, 16]))
   (.seq (.seq (.reg [⟨(some 17), none, .mv (.t 5)⟩, ⟨(some 18), none, .bin .add (.t 17) (.c (.v (.int .i64 1)))⟩, ⟨(some 19), none, .mks 3 32 [(.v (.bool false)), (.v (.int .i64 0)), (.v (.string ⟨#[]⟩))] (.t 18) (.t 18)⟩, ⟨(some 6), none, .mv (.t 19)⟩]) (.drop [7, 19]))
    (.seq (.seq (.reg [⟨(some 20), none, .mv (.t 6)⟩, ⟨(some 21), none, .ixs 3 (.t 20) (.c (.v (.int .i64 0)))⟩, ⟨(some 22), none, .fad 0 (.t 21)⟩, ⟨none, none, .store 1 (.t 22) (.c (.v (.bool true)))⟩]) (.drop [7, 22]))
     (.seq (.seq (.seq (.reg [⟨(some 7), none, .mv (.c (.v (.int .i64 0)))⟩]) (.drop []))
       (.block 0 (.loop [0, 5, 6, 7] l_fuglemanref14_All_0)))
      l_fuglemanref14_All_1))))))
def a_fuglemanref14_All : AFn := ⟨1, b_fuglemanref14_All, [.t 2, .t 3, .t 4], false, false⟩
theorem a_fuglemanref14_All_ok : compF Try.prog Try.f42 [[1, 4], [1, 13], [], [6, 16], [7, 19], [7, 22], [], [0, 5, 6, 7], [8, 24], [9, 31], [9, 33], [5, 35], [9, 40], [11, 52], [11, 53], [5, 56], [], [12, 63], [12, 78], [12, 88], [12, 103], [8, 104], [5, 106], [8, 27], [7, 118], [5, 120], [5, 121]] false false hv = some a_fuglemanref14_All := by kernel_rfl

/-! fugleman/fuglemanref20.station: 25 -/
def l_fuglemanref20_station_3 : AC :=
 (.seq (.seq (.reg [⟨(some 4), none, .mv (.c (.v (.int .i64 0)))⟩]) (.drop []))
 .ret)
def l_fuglemanref20_station_2 : AC :=
 (.seq (.seq (.seq (.reg [⟨(some 77), none, .mv (.t 9)⟩, ⟨(some 78), none, .fad 5 (.t 5)⟩, ⟨(some 79), none, .load none (.t 78)⟩, ⟨(some 80), none, .len (.t 79)⟩, ⟨(some 81), none, .bin .lss (.t 77) (.t 80)⟩]) (.drop [10, 80]))
  (.cond (.t 81) .skip
   (.exit 2)))
 (.seq (.block 3 (.seq (.seq (.regx (.op .o ⟨(some 85), none, .fad 6 (.t 2)⟩
       (.op .o ⟨(some 86), none, .load none (.t 85)⟩
        (.op .o ⟨(some 87), none, .fad 5 (.t 5)⟩
         (.op .o ⟨(some 88), none, .load none (.t 87)⟩
          (.op .o ⟨(some 89), none, .mv (.t 9)⟩
           (.op .o ⟨(some 90), none, .ixs 2 (.t 88) (.t 89)⟩
            (.op .o ⟨(some 91), none, .fad 0 (.t 90)⟩
             (.op .o ⟨(some 92), none, .load none (.t 91)⟩
              (.alt (.op .m ⟨(some 93), none, .call (.c (.fn 34 [])) [(.t 86), (.t 92)]⟩
                (.op .o ⟨(some 84), none, .mv (.t 93)⟩
                 (.op .o ⟨(some 94), none, .ext 0 (.t 84)⟩
                  (.op .o ⟨(some 95), none, .ext 1 (.t 84)⟩
                   (.op .o ⟨(some 10), none, .alloc [(.v (.int .i64 0)), (.v (.int .i64 0)), (.v (.int .i64 0)), (.v (.bool false))]⟩
                    (.op .o ⟨none, none, .store 4 (.t 10) (.t 94)⟩
                     (.op .o ⟨(some 11), none, .mv (.t 95)⟩
                      .nil)))))))
               (.op .o ⟨(some 10), none, .alloc [(.v (.int .i64 0)), (.v (.int .i64 0)), (.v (.int .i64 0)), (.v (.bool false))]⟩
                (.op .m ⟨(some 93), none, .call (.c (.fn 34 [])) [(.t 86), (.t 92)]⟩
                 (.op .o ⟨(some 84), none, .mv (.t 93)⟩
                  (.op .o ⟨(some 94), none, .ext 0 (.t 84)⟩
                   (.op .o ⟨(some 95), none, .ext 1 (.t 84)⟩
                    (.op .o ⟨none, none, .store 4 (.t 10) (.t 94)⟩
                     (.op .o ⟨(some 11), none, .mv (.t 95)⟩
                      .nil))))))))))))))))) (.drop [11, 95]))
    (.seq (.seq (.reg [⟨(some 96), none, .fad 1 (.t 10)⟩, ⟨(some 97), none, .load none (.t 96)⟩, ⟨(some 98), none, .fad 0 (.t 5)⟩, ⟨(some 99), none, .load none (.t 98)⟩, ⟨(some 100), none, .bin .neq (.t 97) (.t 99)⟩]) (.drop [10, 99]))
     (.cond (.t 100) (.seq (.seq (.reg [⟨(some 4), none, .mv (.c (.v (.int .i64 5)))⟩]) (.drop []))
       .ret)
      .skip))))
  (.seq (.reg [⟨(some 82), none, .mv (.t 9)⟩, ⟨(some 83), none, .bin .add (.t 82) (.c (.v (.int .i64 1)))⟩, ⟨(some 9), none, .mv (.t 83)⟩]) (.drop [10, 83]))))
def l_fuglemanref20_station_1 : AC :=
 (.seq (.seq (.reg [⟨(some 44), none, .fad 2 (.t 5)⟩, ⟨(some 45), none, .load none (.t 44)⟩, ⟨(some 46), none, .fad 4 (.t 5)⟩, ⟨(some 47), none, .load none (.t 46)⟩, ⟨(some 48), none, .fad 6 (.t 2)⟩, ⟨(some 49), none, .load none (.t 48)⟩, ⟨(some 50), none, .call (.c (.fn 41 [])) [(.t 45), (.t 47), (.t 49), (.c (.v (.bool true)))]⟩, ⟨(some 43), none, .mv (.t 50)⟩, ⟨(some 51), none, .ext 0 (.t 43)⟩, ⟨(some 52), none, .ext 1 (.t 43)⟩, ⟨(some 7), none, .mv (.t 51)⟩, ⟨(some 8), none, .mv (.t 52)⟩]) (.drop [8, 52]))
 (.seq (.seq (.seq (.reg [⟨(some 53), none, .mv (.t 7)⟩, ⟨(some 54), none, .bin .neq (.t 53) (.c (.v (.int .i64 0)))⟩]) (.drop [8, 53]))
   (.cond (.t 54) (.seq (.seq (.reg [⟨(some 55), none, .mv (.t 7)⟩, ⟨(some 4), none, .mv (.t 55)⟩]) (.drop [5, 55]))
     .ret)
    .skip))
  (.seq (.seq (.reg [⟨(some 57), none, .fad 3 (.t 5)⟩, ⟨(some 58), none, .load none (.t 57)⟩, ⟨(some 59), none, .call (.c (.fn 42 [])) [(.t 58)]⟩, ⟨(some 56), none, .mv (.t 59)⟩, ⟨(some 60), none, .ext 0 (.t 56)⟩, ⟨(some 61), none, .ext 1 (.t 56)⟩, ⟨(some 62), none, .ext 2 (.t 56)⟩, ⟨(some 7), none, .mv (.t 61)⟩]) (.drop [8, 62]))
   (.seq (.seq (.seq (.reg [⟨(some 63), none, .mv (.t 7)⟩, ⟨(some 64), none, .bin .neq (.t 63) (.c (.v (.int .i64 0)))⟩]) (.drop [8, 63]))
     (.cond (.t 64) (.seq (.seq (.reg [⟨(some 65), none, .mv (.t 7)⟩, ⟨(some 4), none, .mv (.t 65)⟩]) (.drop [5, 65]))
       .ret)
      .skip))
    (.seq (.seq (.reg [⟨(some 67), none, .fad 5 (.t 5)⟩, ⟨(some 68), none, .load none (.t 67)⟩, ⟨(some 69), none, .fad 6 (.t 2)⟩, ⟨(some 70), none, .load none (.t 69)⟩, ⟨(some 71), none, .call (.c (.fn 41 [])) [(.c (.v (.int .i64 0))), (.t 68), (.t 70), (.c (.v (.bool false)))]⟩, ⟨(some 66), none, .mv (.t 71)⟩, ⟨(some 72), none, .ext 0 (.t 66)⟩, ⟨(some 73), none, .ext 1 (.t 66)⟩, ⟨(some 7), none, .mv (.t 72)⟩]) (.drop [8, 73]))
     (.seq (.seq (.seq (.reg [⟨(some 74), none, .mv (.t 7)⟩, ⟨(some 75), none, .bin .neq (.t 74) (.c (.v (.int .i64 0)))⟩]) (.drop [8, 74]))
       (.cond (.t 75) (.seq (.seq (.reg [⟨(some 76), none, .mv (.t 7)⟩, ⟨(some 4), none, .mv (.t 76)⟩]) (.drop [5, 76]))
         .ret)
        .skip))
      (.seq (.seq (.seq (.reg [⟨(some 9), none, .mv (.c (.v (.int .i64 0)))⟩]) (.drop []))
        (.block 2 (.loop [2, 5, 9] l_fuglemanref20_station_2)))
       l_fuglemanref20_station_3)))))))
def l_fuglemanref20_station_0 : AC :=
 (.seq (.seq (.seq (.reg [⟨(some 29), none, .mv (.t 6)⟩, ⟨(some 30), none, .mv (.t 1)⟩, ⟨(some 31), none, .bin .lss (.t 29) (.t 30)⟩]) (.drop [7, 30]))
  (.cond (.t 31) .skip
   (.exit 0)))
 (.seq (.block 1 (.seq (.seq (.regq [⟨(some 34), none, .fad 7 (.t 2)⟩, ⟨(some 35), none, .load none (.t 34)⟩, ⟨(some 36), none, .mv (.t 6)⟩, ⟨(some 37), none, .ixs 6 (.t 35) (.t 36)⟩, ⟨(some 38), none, .fad 0 (.t 37)⟩, ⟨(some 39), none, .load none (.t 38)⟩, ⟨(some 40), none, .fad 0 (.t 5)⟩, ⟨(some 41), none, .load none (.t 40)⟩, ⟨(some 42), none, .bin .eql (.t 39) (.t 41)⟩]) (.drop [7, 41]))
    (.cond (.t 42) (.seq (.seq (.reg [⟨(some 4), none, .mv (.c (.v (.int .i64 14)))⟩]) (.drop []))
      .ret)
     .skip)))
  (.seq (.reg [⟨(some 32), none, .mv (.t 6)⟩, ⟨(some 33), none, .bin .add (.t 32) (.c (.v (.int .i64 1)))⟩, ⟨(some 6), none, .mv (.t 33)⟩]) (.drop [7, 33]))))
def b_fuglemanref20_station : AC :=
 (.seq (.seq (.reg [⟨(some 2), none, .box (.t 0)⟩, ⟨(some 4), none, .mv (.c (.v (.int .i64 0)))⟩]) (.drop [3, 4]))
 (.seq (.seq (.reg [⟨(some 12), none, .fad 7 (.t 2)⟩, ⟨(some 13), none, .load none (.t 12)⟩, ⟨(some 14), none, .mv (.t 1)⟩, ⟨(some 15), none, .ixs 6 (.t 13) (.t 14)⟩, ⟨(some 16), none, .load (some 6) (.t 15)⟩, ⟨(some 5), none, .alloc [(.v (.int .i64 0)), (.v (.int .i64 0)), (.v (.int .i64 0)), (.v (.slice none 0 0)), (.v (.slice none 0 0)), (.v (.slice none 0 0))]⟩, ⟨none, none, .store 6 (.t 5) (.t 16)⟩]) (.drop [6, 16]))
  (.seq (.seq (.seq (.reg [⟨(some 17), none, .fad 0 (.t 5)⟩, ⟨(some 18), none, .load none (.t 17)⟩, ⟨(some 19), none, .fad 5 (.t 2)⟩, ⟨(some 20), none, .load none (.t 19)⟩, ⟨(some 21), none, .call (.c (.fn 23 [])) [(.t 18), (.c (.v (.int .i64 0))), (.t 20)]⟩, ⟨(some 22), none, .un .not (.t 21)⟩, ⟨(some 23), none, .mv (.t 22)⟩, ⟨(some 24), (some (23, false)), .fad 1 (.t 5)⟩, ⟨(some 25), (some (23, false)), .load none (.t 24)⟩, ⟨(some 26), (some (23, false)), .call (.c (.fn 23 [])) [(.t 25), (.c (.v (.int .i64 1))), (.c (.v (.int .i64 1000)))]⟩, ⟨(some 27), (some (23, false)), .un .not (.t 26)⟩, ⟨(some 28), none, .pick (.t 23) (.c (.v (.bool true))) (.t 27)⟩]) (.drop [6, 27]))
    (.cond (.t 28) (.seq (.seq (.reg [⟨(some 4), none, .mv (.c (.v (.int .i64 3)))⟩]) (.drop []))
      .ret)
     .skip))
   (.seq (.seq (.seq (.reg [⟨(some 6), none, .mv (.c (.v (.int .i64 0)))⟩]) (.drop []))
     (.block 0 (.loop [1, 2, 5, 6] l_fuglemanref20_station_0)))
    l_fuglemanref20_station_1))))
def a_fuglemanref20_station : AFn := ⟨2, b_fuglemanref20_station, [.t 4], false, false⟩
theorem a_fuglemanref20_station_ok : compF Try.prog Try.f25 [[3, 4], [6, 16], [6, 27], [], [], [1, 2, 5, 6], [7, 30], [7, 41], [], [7, 33], [8, 52], [8, 53], [5, 55], [8, 62], [8, 63], [5, 65], [8, 73], [8, 74], [5, 76], [], [2, 5, 9], [10, 80], [11, 95], [10, 99], [], [10, 83], []] false false hv = some a_fuglemanref20_station := by kernel_rfl

/-! fugleman/fuglemanref20.Check: 9 -/
def l_fuglemanref20_Check_1 : AC :=
 (.seq (.seq (.reg [⟨(some 2), none, .mv (.c (.v (.int .i64 0)))⟩, ⟨(some 3), none, .mv (.c (.v (.int .i64 0)))⟩]) (.drop []))
 .ret)
def l_fuglemanref20_Check_0 : AC :=
 (.seq (.seq (.seq (.reg [⟨(some 58), none, .mv (.t 6)⟩, ⟨(some 59), none, .fad 7 (.t 1)⟩, ⟨(some 60), none, .load none (.t 59)⟩, ⟨(some 61), none, .len (.t 60)⟩, ⟨(some 62), none, .bin .lss (.t 58) (.t 61)⟩]) (.drop [7, 61]))
  (.cond (.t 62) .skip
   (.exit 0)))
 (.seq (.block 1 (.seq (.seq (.reg [⟨(some 65), none, .load (some 8) (.t 1)⟩, ⟨(some 66), none, .mv (.t 6)⟩, ⟨(some 67), none, .call (.c (.fn 25 [])) [(.t 65), (.t 66)]⟩, ⟨(some 7), none, .mv (.t 67)⟩]) (.drop [8, 67]))
    (.seq (.seq (.reg [⟨(some 68), none, .mv (.t 7)⟩, ⟨(some 69), none, .bin .neq (.t 68) (.c (.v (.int .i64 0)))⟩]) (.drop [8, 68]))
     (.cond (.t 69) (.seq (.seq (.reg [⟨(some 70), none, .mv (.t 7)⟩, ⟨(some 71), none, .mv (.t 6)⟩, ⟨(some 72), none, .bin .add (.c (.v (.int .i64 100))) (.t 71)⟩, ⟨(some 2), none, .mv (.t 70)⟩, ⟨(some 3), none, .mv (.t 72)⟩]) (.drop [4, 72]))
       .ret)
      .skip))))
  (.seq (.reg [⟨(some 63), none, .mv (.t 6)⟩, ⟨(some 64), none, .bin .add (.t 63) (.c (.v (.int .i64 1)))⟩, ⟨(some 6), none, .mv (.t 64)⟩]) (.drop [7, 64]))))
def b_fuglemanref20_Check : AC :=
 (.seq (.seq (.reg [⟨(some 1), none, .box (.t 0)⟩, ⟨(some 2), none, .mv (.c (.v (.int .i64 0)))⟩, ⟨(some 3), none, .mv (.c (.v (.int .i64 0)))⟩]) (.drop [2, 3]))
 (.seq (.seq (.seq (.reg [⟨(some 8), none, .fad 0 (.t 1)⟩, ⟨(some 9), none, .load none (.t 8)⟩, ⟨(some 10), none, .call (.c (.fn 23 [])) [(.t 9), (.c (.v (.int .i64 4))), (.c (.v (.int .i64 50)))]⟩, ⟨(some 11), none, .un .not (.t 10)⟩, ⟨(some 12), none, .mv (.t 11)⟩, ⟨(some 13), (some (12, false)), .fad 1 (.t 1)⟩, ⟨(some 14), (some (12, false)), .load none (.t 13)⟩, ⟨(some 15), (some (12, false)), .call (.c (.fn 23 [])) [(.t 14), (.c (.v (.int .i64 1))), (.c (.v (.int .i64 10000)))]⟩, ⟨(some 16), (some (12, false)), .un .not (.t 15)⟩, ⟨(some 17), none, .pick (.t 12) (.c (.v (.bool true))) (.t 16)⟩, ⟨(some 18), none, .mv (.t 17)⟩, ⟨(some 19), (some (18, false)), .fad 2 (.t 1)⟩, ⟨(some 20), (some (18, false)), .load none (.t 19)⟩, ⟨(some 21), (some (18, false)), .call (.c (.fn 23 [])) [(.t 20), (.c (.v (.int .i64 1))), (.c (.v (.int .i64 50)))]⟩, ⟨(some 22), (some (18, false)), .un .not (.t 21)⟩, ⟨(some 23), none, .pick (.t 18) (.c (.v (.bool true))) (.t 22)⟩, ⟨(some 24), none, .mv (.t 23)⟩, ⟨(some 25), (some (24, false)), .fad 3 (.t 1)⟩, ⟨(some 26), (some (24, false)), .load none (.t 25)⟩, ⟨(some 27), (some (24, false)), .call (.c (.fn 23 [])) [(.t 26), (.c (.v (.int .i64 0))), (.c (.v (.int .i64 3)))]⟩, ⟨(some 28), (some (24, false)), .un .not (.t 27)⟩, ⟨(some 29), none, .pick (.t 24) (.c (.v (.bool true))) (.t 28)⟩, ⟨(some 30), none, .mv (.t 29)⟩, ⟨(some 31), (some (30, false)), .fad 4 (.t 1)⟩, ⟨(some 32), (some (30, false)), .load none (.t 31)⟩, ⟨(some 33), (some (30, false)), .call (.c (.fn 23 [])) [(.t 32), (.c (.v (.int .i64 1))), (.c (.v (.int .i64 65535)))]⟩, ⟨(some 34), (some (30, false)), .un .not (.t 33)⟩, ⟨(some 35), none, .pick (.t 30) (.c (.v (.bool true))) (.t 34)⟩, ⟨(some 36), none, .mv (.t 35)⟩, ⟨(some 37), (some (36, false)), .fad 5 (.t 1)⟩, ⟨(some 38), (some (36, false)), .load none (.t 37)⟩, ⟨(some 39), (some (36, false)), .call (.c (.fn 23 [])) [(.t 38), (.c (.v (.int .i64 0))), (.c (.v (.int .i64 31)))]⟩, ⟨(some 40), (some (36, false)), .un .not (.t 39)⟩, ⟨(some 41), none, .pick (.t 36) (.c (.v (.bool true))) (.t 40)⟩]) (.drop [2, 40]))
   (.cond (.t 41) (.seq (.seq (.reg [⟨(some 2), none, .mv (.c (.v (.int .i64 3)))⟩, ⟨(some 3), none, .mv (.c (.v (.int .i64 0)))⟩]) (.drop []))
     .ret)
    .skip))
  (.seq (.seq (.reg [⟨(some 43), none, .fad 6 (.t 1)⟩, ⟨(some 44), none, .load none (.t 43)⟩, ⟨(some 45), none, .call (.c (.fn 24 [])) [(.t 44)]⟩, ⟨(some 42), none, .mv (.t 45)⟩, ⟨(some 46), none, .ext 0 (.t 42)⟩, ⟨(some 47), none, .ext 1 (.t 42)⟩, ⟨(some 4), none, .mv (.t 46)⟩, ⟨(some 5), none, .mv (.t 47)⟩]) (.drop [6, 47]))
   (.seq (.seq (.seq (.reg [⟨(some 48), none, .mv (.t 4)⟩, ⟨(some 49), none, .bin .neq (.t 48) (.c (.v (.int .i64 0)))⟩]) (.drop [6, 48]))
     (.cond (.t 49) (.seq (.seq (.reg [⟨(some 50), none, .mv (.t 4)⟩, ⟨(some 51), none, .mv (.t 5)⟩, ⟨(some 52), none, .bin .add (.c (.v (.int .i64 1))) (.t 51)⟩, ⟨(some 2), none, .mv (.t 50)⟩, ⟨(some 3), none, .mv (.t 52)⟩]) (.drop [4, 52]))
       .ret)
      .skip))
    (.seq (.seq (.seq (.reg [⟨(some 53), none, .fad 7 (.t 1)⟩, ⟨(some 54), none, .load none (.t 53)⟩, ⟨(some 55), none, .len (.t 54)⟩, ⟨(some 56), none, .call (.c (.fn 23 [])) [(.t 55), (.c (.v (.int .i64 1))), (.c (.v (.int .i64 32)))]⟩, ⟨(some 57), none, .un .not (.t 56)⟩]) (.drop [2, 56]))
      (.cond (.t 57) (.seq (.seq (.reg [⟨(some 2), none, .mv (.c (.v (.int .i64 2)))⟩, ⟨(some 3), none, .mv (.c (.v (.int .i64 100)))⟩]) (.drop []))
        .ret)
       .skip))
     (.seq (.seq (.seq (.reg [⟨(some 6), none, .mv (.c (.v (.int .i64 0)))⟩]) (.drop []))
       (.block 0 (.loop [1, 6] l_fuglemanref20_Check_0)))
      l_fuglemanref20_Check_1))))))
def a_fuglemanref20_Check : AFn := ⟨1, b_fuglemanref20_Check, [.t 2, .t 3], false, false⟩
theorem a_fuglemanref20_Check_ok : compF Try.prog Try.f9 [[2, 3], [2, 40], [], [6, 47], [6, 48], [4, 52], [2, 56], [], [], [1, 6], [7, 61], [8, 67], [8, 68], [4, 72], [7, 64], []] false false hv = some a_fuglemanref20_Check := by kernel_rfl

/-! fugleman/fuglemanlaw20.ConfigChecks: 3 -/
def b_fuglemanlaw20_ConfigChecks : AC :=
 (.seq (.seq (.reg [⟨(some 1), none, .box (.t 0)⟩, ⟨(some 2), none, .mv (.c (.v (.bool false)))⟩]) (.drop [2, 2]))
 (.seq (.seq (.seq (.reg [⟨(some 7), none, .call (.c (.fn 6 [])) []⟩, ⟨(some 8), none, .un .not (.t 7)⟩]) (.drop [2, 7]))
   (.cond (.t 8) (.seq (.seq (.reg [⟨(some 2), none, .mv (.c (.v (.bool false)))⟩]) (.drop []))
     .ret)
    .skip))
  (.seq (.seq (.seq (.reg [⟨(some 9), none, .load (some 8) (.t 1)⟩, ⟨(some 10), none, .call (.c (.fn 7 [])) [(.t 9)]⟩, ⟨(some 11), none, .un .not (.t 10)⟩]) (.drop [2, 10]))
    (.cond (.t 11) (.seq (.seq (.reg [⟨(some 2), none, .mv (.c (.v (.bool true)))⟩]) (.drop []))
      .ret)
     .skip))
   (.seq (.seq (.reg [⟨(some 13), none, .load (some 8) (.t 1)⟩, ⟨(some 14), none, .call (.c (.fn 8 [])) [(.t 13)]⟩, ⟨(some 12), none, .mv (.t 14)⟩, ⟨(some 15), none, .ext 0 (.t 12)⟩, ⟨(some 16), none, .ext 1 (.t 12)⟩, ⟨(some 3), none, .mv (.t 15)⟩, ⟨(some 4), none, .mv (.t 16)⟩]) (.drop [5, 16]))
    (.seq (.seq (.reg [⟨(some 18), none, .load (some 8) (.t 1)⟩, ⟨(some 19), none, .call (.c (.fn 9 [])) [(.t 18)]⟩, ⟨(some 17), none, .mv (.t 19)⟩, ⟨(some 20), none, .ext 0 (.t 17)⟩, ⟨(some 21), none, .ext 1 (.t 17)⟩, ⟨(some 5), none, .mv (.t 20)⟩, ⟨(some 6), none, .mv (.t 21)⟩]) (.drop [7, 21]))
     (.seq (.seq (.reg [⟨(some 22), none, .mv (.t 3)⟩, ⟨(some 23), none, .mv (.t 5)⟩, ⟨(some 24), none, .bin .eql (.t 22) (.t 23)⟩, ⟨(some 25), none, .mv (.t 24)⟩, ⟨(some 26), (some (25, true)), .mv (.t 4)⟩, ⟨(some 27), (some (25, true)), .mv (.t 6)⟩, ⟨(some 28), (some (25, true)), .bin .eql (.t 26) (.t 27)⟩, ⟨(some 29), none, .pick (.t 25) (.t 28) (.c (.v (.bool false)))⟩, ⟨(some 2), none, .mv (.t 29)⟩]) (.drop [3, 29]))
      .ret))))))
def a_fuglemanlaw20_ConfigChecks : AFn := ⟨1, b_fuglemanlaw20_ConfigChecks, [.t 2], false, false⟩
theorem a_fuglemanlaw20_ConfigChecks_ok : compF Try.prog Try.f3 [[2, 2], [2, 7], [], [2, 10], [], [5, 16], [7, 21], [3, 29]] false false hv = some a_fuglemanlaw20_ConfigChecks := by kernel_rfl

/-! fugleman/config.Addrs$1: 28 -/
def b_config_Addrs_1 : AC :=
 (.seq (.seq (.reg [⟨(some 1), none, .box (.t 0)⟩, ⟨(some 2), none, .mv (.c (.v (.bool false)))⟩]) (.drop [0, 2]))
 (.seq (.seq (.reg [⟨(some 2), none, .mv (.c (.v (.bool true)))⟩]) (.drop []))
  .ret))
def a_config_Addrs_1 : AFn := ⟨1, b_config_Addrs_1, [.t 2], false, false⟩
theorem a_config_Addrs_1_ok : compF Try.prog Try.f28 [[0, 2], []] false false hv = some a_config_Addrs_1 := by kernel_rfl

/-! fugleman/config.place$1: 44 -/
def b_config_place_1 : AC :=
 (.seq (.seq (.reg [⟨(some 2), none, .box (.t 0)⟩, ⟨(some 3), none, .mv (.c (.v (.bool false)))⟩]) (.drop [3, 3]))
 (.seq (.seq (.reg [⟨(some 4), none, .fad 0 (.t 2)⟩, ⟨(some 5), none, .load none (.t 4)⟩, ⟨(some 6), none, .load none (.t 1)⟩, ⟨(some 7), none, .bin .eql (.t 5) (.t 6)⟩, ⟨(some 3), none, .mv (.t 7)⟩]) (.drop [4, 7]))
  .ret))
def a_config_place_1 : AFn := ⟨2, b_config_place_1, [.t 3], false, false⟩
theorem a_config_place_1_ok : compF Try.prog Try.f44 [[3, 3], [4, 7]] false false hv = some a_config_place_1 := by kernel_rfl

/-! fugleman/blocks.place$1: 50 -/
def b_blocks_place_1 : AC :=
 (.seq (.seq (.reg [⟨(some 2), none, .box (.t 0)⟩, ⟨(some 3), none, .mv (.c (.v (.bool false)))⟩]) (.drop [3, 3]))
 (.seq (.seq (.reg [⟨(some 4), none, .fad 0 (.t 2)⟩, ⟨(some 5), none, .load none (.t 4)⟩, ⟨(some 6), none, .load none (.t 1)⟩, ⟨(some 7), none, .bin .eql (.t 5) (.t 6)⟩, ⟨(some 3), none, .mv (.t 7)⟩]) (.drop [4, 7]))
  .ret))
def a_blocks_place_1 : AFn := ⟨2, b_blocks_place_1, [.t 3], false, false⟩
theorem a_blocks_place_1_ok : compF Try.prog Try.f50 [[3, 3], [4, 7]] false false hv = some a_blocks_place_1 := by kernel_rfl

/-! fugleman/config.owns$1: 54 -/
def b_config_owns_1 : AC :=
 (.seq (.seq (.reg [⟨(some 3), none, .box (.t 0)⟩, ⟨(some 4), none, .mv (.c (.v (.bool false)))⟩]) (.drop [4, 4]))
 (.seq (.seq (.reg [⟨(some 8), none, .fad 6 (.t 1)⟩, ⟨(some 9), none, .load none (.t 8)⟩, ⟨(some 10), none, .fad 0 (.t 3)⟩, ⟨(some 11), none, .load none (.t 10)⟩, ⟨(some 12), none, .call (.c (.fn 33 [])) [(.t 9), (.t 11)]⟩, ⟨(some 7), none, .mv (.t 12)⟩, ⟨(some 13), none, .ext 0 (.t 7)⟩, ⟨(some 14), none, .ext 1 (.t 7)⟩, ⟨(some 5), none, .alloc [(.v (.int .i64 0)), (.v (.int .i64 0)), (.v (.int .i64 0)), (.v (.bool false))]⟩, ⟨none, none, .store 4 (.t 5) (.t 13)⟩, ⟨(some 6), none, .mv (.t 14)⟩]) (.drop [6, 14]))
  (.seq (.seq (.reg [⟨(some 15), none, .fad 1 (.t 5)⟩, ⟨(some 16), none, .load none (.t 15)⟩, ⟨(some 17), none, .fad 0 (.t 2)⟩, ⟨(some 18), none, .load none (.t 17)⟩, ⟨(some 19), none, .bin .neq (.t 16) (.t 18)⟩, ⟨(some 4), none, .mv (.t 19)⟩]) (.drop [5, 19]))
   .ret)))
def a_config_owns_1 : AFn := ⟨3, b_config_owns_1, [.t 4], false, false⟩
theorem a_config_owns_1_ok : compF Try.prog Try.f54 [[4, 4], [6, 14], [5, 19]] false false hv = some a_config_owns_1 := by kernel_rfl

/-! fugleman/image.spot$1: 73 -/
def b_image_spot_1 : AC :=
 (.seq (.seq (.reg [⟨(some 2), none, .box (.t 0)⟩, ⟨(some 3), none, .mv (.c (.v (.bool false)))⟩]) (.drop [3, 3]))
 (.seq (.seq (.reg [⟨(some 4), none, .fad 0 (.t 2)⟩, ⟨(some 5), none, .load none (.t 4)⟩, ⟨(some 6), none, .fad 0 (.t 1)⟩, ⟨(some 7), none, .load none (.t 6)⟩, ⟨(some 8), none, .bin .eql (.t 5) (.t 7)⟩, ⟨(some 3), none, .mv (.t 8)⟩]) (.drop [4, 8]))
  .ret))
def a_image_spot_1 : AFn := ⟨2, b_image_spot_1, [.t 3], false, false⟩
theorem a_image_spot_1_ok : compF Try.prog Try.f73 [[3, 3], [4, 8]] false false hv = some a_image_spot_1 := by kernel_rfl

def tab : Nat → Option AFn
  | 21 => some a_config_in
  | 19 => some a_config_numbers
  | 48 => some a_blocks_Parts
  | 35 => some a_blocks_right
  | 49 => some a_api_Block
  | 36 => some a_blocks_place
  | 20 => some a_blocks_Check
  | 43 => some a_api_Station
  | 26 => some a_config_place
  | 52 => some a_image_mask
  | 47 => some a_api_Spot_47
  | 31 => some a_api_Spot_31
  | 33 => some a_blocks_Find
  | 59 => some a_image_spot
  | 51 => some a_image_lay
  | 37 => some a_image_Lay
  | 91 => some a_il_ops
  | 74 => some a_il_of
  | 95 => some a_iec_kinds
  | 92 => some a_iec_of
  | 93 => some a_iec_Wrap
  | 75 => some a_iec_Is
  | 77 => some a_iec_Size
  | 76 => some a_il_stands
  | 78 => some a_il_within
  | 79 => some a_il_keeps
  | 60 => some a_il_Right
  | 61 => some a_verify_jumps
  | 80 => some a_verify_ahead_with
  | 81 => some a_verify_must
  | 87 => some a_iec_May
  | 82 => some a_verify_logic
  | 83 => some a_verify_ahead_ret
  | 94 => some a_verify_bracket_94
  | 84 => some a_verify_ahead_push
  | 86 => some a_verify_made
  | 85 => some a_verify_ahead_pop
  | 62 => some a_verify_ahead_behind
  | 63 => some a_verify_on
  | 88 => some a_verify_bracket_88
  | 64 => some a_verify_table_lead
  | 53 => some a_verify_all
  | 38 => some a_verify_Check
  | 39 => some a_image_Reach
  | 40 => some a_config_owns
  | 22 => some a_config_station
  | 8 => some a_config_Check
  | 10 => some a_config_Find
  | 72 => some a_members_is
  | 58 => some a_members_one
  | 45 => some a_members_With
  | 27 => some a_config_set
  | 13 => some a_config_Addrs
  | 6 => some a_fuglemanlaw20_awake
  | 7 => some a_fuglemanlaw20_Small
  | 23 => some a_fuglemanref20_in
  | 24 => some a_fuglemanref16_Check
  | 34 => some a_fuglemanref16_Find
  | 41 => some a_fuglemanref19_Lay
  | 65 => some a_fuglemanref12_reads
  | 69 => some a_fuglemanref11_Size
  | 90 => some a_fuglemanref11_many
  | 89 => some a_fuglemanref11_least
  | 66 => some a_fuglemanref11_Is
  | 67 => some a_fuglemanref12_writes
  | 68 => some a_fuglemanref11_There
  | 55 => some a_fuglemanref12_Right
  | 71 => some a_fuglemanref11_May
  | 70 => some a_fuglemanref14_logic
  | 56 => some a_fuglemanref14_behind
  | 57 => some a_fuglemanref14_join
  | 42 => some a_fuglemanref14_All
  | 25 => some a_fuglemanref20_station
  | 9 => some a_fuglemanref20_Check
  | 3 => some a_fuglemanlaw20_ConfigChecks
  | 28 => some a_config_Addrs_1
  | 44 => some a_config_place_1
  | 50 => some a_blocks_place_1
  | 54 => some a_config_owns_1
  | 73 => some a_image_spot_1
  | _ => none
def T : Tb := ⟨tab, fun _ _ _ _ => none⟩
theorem tableOK : TableOK Try.prog T := by
  refine ⟨fun f fn h => ?_, fun _ _ _ _ _ h => nomatch (show (none : Option Res) = some _ from h)⟩
  change tab f = some fn at h
  unfold tab at h
  split at h
  · cases h; exact ⟨_, _, _, _, _, Try.func21, a_config_in_ok⟩
  · cases h; exact ⟨_, _, _, _, _, Try.func19, a_config_numbers_ok⟩
  · cases h; exact ⟨_, _, _, _, _, Try.func48, a_blocks_Parts_ok⟩
  · cases h; exact ⟨_, _, _, _, _, Try.func35, a_blocks_right_ok⟩
  · cases h; exact ⟨_, _, _, _, _, Try.func49, a_api_Block_ok⟩
  · cases h; exact ⟨_, _, _, _, _, Try.func36, a_blocks_place_ok⟩
  · cases h; exact ⟨_, _, _, _, _, Try.func20, a_blocks_Check_ok⟩
  · cases h; exact ⟨_, _, _, _, _, Try.func43, a_api_Station_ok⟩
  · cases h; exact ⟨_, _, _, _, _, Try.func26, a_config_place_ok⟩
  · cases h; exact ⟨_, _, _, _, _, Try.func52, a_image_mask_ok⟩
  · cases h; exact ⟨_, _, _, _, _, Try.func47, a_api_Spot_47_ok⟩
  · cases h; exact ⟨_, _, _, _, _, Try.func31, a_api_Spot_31_ok⟩
  · cases h; exact ⟨_, _, _, _, _, Try.func33, a_blocks_Find_ok⟩
  · cases h; exact ⟨_, _, _, _, _, Try.func59, a_image_spot_ok⟩
  · cases h; exact ⟨_, _, _, _, _, Try.func51, a_image_lay_ok⟩
  · cases h; exact ⟨_, _, _, _, _, Try.func37, a_image_Lay_ok⟩
  · cases h; exact ⟨_, _, _, _, _, Try.func91, a_il_ops_ok⟩
  · cases h; exact ⟨_, _, _, _, _, Try.func74, a_il_of_ok⟩
  · cases h; exact ⟨_, _, _, _, _, Try.func95, a_iec_kinds_ok⟩
  · cases h; exact ⟨_, _, _, _, _, Try.func92, a_iec_of_ok⟩
  · cases h; exact ⟨_, _, _, _, _, Try.func93, a_iec_Wrap_ok⟩
  · cases h; exact ⟨_, _, _, _, _, Try.func75, a_iec_Is_ok⟩
  · cases h; exact ⟨_, _, _, _, _, Try.func77, a_iec_Size_ok⟩
  · cases h; exact ⟨_, _, _, _, _, Try.func76, a_il_stands_ok⟩
  · cases h; exact ⟨_, _, _, _, _, Try.func78, a_il_within_ok⟩
  · cases h; exact ⟨_, _, _, _, _, Try.func79, a_il_keeps_ok⟩
  · cases h; exact ⟨_, _, _, _, _, Try.func60, a_il_Right_ok⟩
  · cases h; exact ⟨_, _, _, _, _, Try.func61, a_verify_jumps_ok⟩
  · cases h; exact ⟨_, _, _, _, _, Try.func80, a_verify_ahead_with_ok⟩
  · cases h; exact ⟨_, _, _, _, _, Try.func81, a_verify_must_ok⟩
  · cases h; exact ⟨_, _, _, _, _, Try.func87, a_iec_May_ok⟩
  · cases h; exact ⟨_, _, _, _, _, Try.func82, a_verify_logic_ok⟩
  · cases h; exact ⟨_, _, _, _, _, Try.func83, a_verify_ahead_ret_ok⟩
  · cases h; exact ⟨_, _, _, _, _, Try.func94, a_verify_bracket_94_ok⟩
  · cases h; exact ⟨_, _, _, _, _, Try.func84, a_verify_ahead_push_ok⟩
  · cases h; exact ⟨_, _, _, _, _, Try.func86, a_verify_made_ok⟩
  · cases h; exact ⟨_, _, _, _, _, Try.func85, a_verify_ahead_pop_ok⟩
  · cases h; exact ⟨_, _, _, _, _, Try.func62, a_verify_ahead_behind_ok⟩
  · cases h; exact ⟨_, _, _, _, _, Try.func63, a_verify_on_ok⟩
  · cases h; exact ⟨_, _, _, _, _, Try.func88, a_verify_bracket_88_ok⟩
  · cases h; exact ⟨_, _, _, _, _, Try.func64, a_verify_table_lead_ok⟩
  · cases h; exact ⟨_, _, _, _, _, Try.func53, a_verify_all_ok⟩
  · cases h; exact ⟨_, _, _, _, _, Try.func38, a_verify_Check_ok⟩
  · cases h; exact ⟨_, _, _, _, _, Try.func39, a_image_Reach_ok⟩
  · cases h; exact ⟨_, _, _, _, _, Try.func40, a_config_owns_ok⟩
  · cases h; exact ⟨_, _, _, _, _, Try.func22, a_config_station_ok⟩
  · cases h; exact ⟨_, _, _, _, _, Try.func8, a_config_Check_ok⟩
  · cases h; exact ⟨_, _, _, _, _, Try.func10, a_config_Find_ok⟩
  · cases h; exact ⟨_, _, _, _, _, Try.func72, a_members_is_ok⟩
  · cases h; exact ⟨_, _, _, _, _, Try.func58, a_members_one_ok⟩
  · cases h; exact ⟨_, _, _, _, _, Try.func45, a_members_With_ok⟩
  · cases h; exact ⟨_, _, _, _, _, Try.func27, a_config_set_ok⟩
  · cases h; exact ⟨_, _, _, _, _, Try.func13, a_config_Addrs_ok⟩
  · cases h; exact ⟨_, _, _, _, _, Try.func6, a_fuglemanlaw20_awake_ok⟩
  · cases h; exact ⟨_, _, _, _, _, Try.func7, a_fuglemanlaw20_Small_ok⟩
  · cases h; exact ⟨_, _, _, _, _, Try.func23, a_fuglemanref20_in_ok⟩
  · cases h; exact ⟨_, _, _, _, _, Try.func24, a_fuglemanref16_Check_ok⟩
  · cases h; exact ⟨_, _, _, _, _, Try.func34, a_fuglemanref16_Find_ok⟩
  · cases h; exact ⟨_, _, _, _, _, Try.func41, a_fuglemanref19_Lay_ok⟩
  · cases h; exact ⟨_, _, _, _, _, Try.func65, a_fuglemanref12_reads_ok⟩
  · cases h; exact ⟨_, _, _, _, _, Try.func69, a_fuglemanref11_Size_ok⟩
  · cases h; exact ⟨_, _, _, _, _, Try.func90, a_fuglemanref11_many_ok⟩
  · cases h; exact ⟨_, _, _, _, _, Try.func89, a_fuglemanref11_least_ok⟩
  · cases h; exact ⟨_, _, _, _, _, Try.func66, a_fuglemanref11_Is_ok⟩
  · cases h; exact ⟨_, _, _, _, _, Try.func67, a_fuglemanref12_writes_ok⟩
  · cases h; exact ⟨_, _, _, _, _, Try.func68, a_fuglemanref11_There_ok⟩
  · cases h; exact ⟨_, _, _, _, _, Try.func55, a_fuglemanref12_Right_ok⟩
  · cases h; exact ⟨_, _, _, _, _, Try.func71, a_fuglemanref11_May_ok⟩
  · cases h; exact ⟨_, _, _, _, _, Try.func70, a_fuglemanref14_logic_ok⟩
  · cases h; exact ⟨_, _, _, _, _, Try.func56, a_fuglemanref14_behind_ok⟩
  · cases h; exact ⟨_, _, _, _, _, Try.func57, a_fuglemanref14_join_ok⟩
  · cases h; exact ⟨_, _, _, _, _, Try.func42, a_fuglemanref14_All_ok⟩
  · cases h; exact ⟨_, _, _, _, _, Try.func25, a_fuglemanref20_station_ok⟩
  · cases h; exact ⟨_, _, _, _, _, Try.func9, a_fuglemanref20_Check_ok⟩
  · cases h; exact ⟨_, _, _, _, _, Try.func3, a_fuglemanlaw20_ConfigChecks_ok⟩
  · cases h; exact ⟨_, _, _, _, _, Try.func28, a_config_Addrs_1_ok⟩
  · cases h; exact ⟨_, _, _, _, _, Try.func44, a_config_place_1_ok⟩
  · cases h; exact ⟨_, _, _, _, _, Try.func50, a_blocks_place_1_ok⟩
  · cases h; exact ⟨_, _, _, _, _, Try.func54, a_config_owns_1_ok⟩
  · cases h; exact ⟨_, _, _, _, _, Try.func73, a_image_spot_1_ok⟩
  · cases h
theorem mixed : Try.prog.follows .mixedOrders = true := by kernel_rfl
theorem calls (k : Nat) : CallsOK Try.prog (acall T k) := acall_ok mixed tableOK k
end Go.Proofs.Ytcfokbhmchcgbaa.Tab

/- What the laws are given. Written by a program for this claim. -/
namespace Go.Proofs.Ytcfokbhmchcgbaa.Args
open Go Go.Proofs.Ytcfokbhmchcgbaa.Sym
set_option linter.unusedVariables false
/-- api.Block = fugleman/api.Block -/
structure S63 where
  f0 : Int
  f1 : Int
  f2 : Int
  f3 : Bool
def S63.av (v : S63) : List AV := [.v (.int .i64 v.f0), .v (.int .i64 v.f1), .v (.int .i64 v.f2), .v (.bool v.f3)]
structure S63.In (v : S63) : Prop where
  f0 : (-9223372036854775808 ≤ v.f0 ∧ v.f0 ≤ 9223372036854775807)
  f1 : (-9223372036854775808 ≤ v.f1 ∧ v.f1 ≤ 9223372036854775807)
  f2 : (-9223372036854775808 ≤ v.f2 ∧ v.f2 ≤ 9223372036854775807)
  f3 : True
theorem rd63 : Rd Try.prog 63 4 S63.av S63.In := rd_struct (rdF_cons 3 0 (rd_imp (rd_int Try.underlying3) fun v h => rng_i64 h) (by kernel_rfl) (rdF_cons 3 1 (rd_imp (rd_int Try.underlying3) fun v h => rng_i64 h) (by kernel_rfl) (rdF_cons 3 2 (rd_imp (rd_int Try.underlying3) fun v h => rng_i64 h) (by kernel_rfl) (rdF_one 4 3 (rd_bool Try.underlying4) (by kernel_rfl))))) Try.underlying63 rfl (fun v => ⟨v.1, v.2.1, v.2.2.1, v.2.2.2⟩) (fun _ => rfl) (fun _ => rfl) (fun v h => ⟨h.1, h.2.1, h.2.2.1, h.2.2.2⟩) (by kernel_rfl)
/-- api.Instr = fugleman/api.Instr -/
structure S54 where
  f0 : Int
  f1 : Int
  f2 : Int
  f3 : Int
  f4 : Int
def S54.av (v : S54) : List AV := [.v (.int .i64 v.f0), .v (.int .i64 v.f1), .v (.int .i64 v.f2), .v (.int .i64 v.f3), .v (.int .i64 v.f4)]
structure S54.In (v : S54) : Prop where
  f0 : (-9223372036854775808 ≤ v.f0 ∧ v.f0 ≤ 9223372036854775807)
  f1 : (-9223372036854775808 ≤ v.f1 ∧ v.f1 ≤ 9223372036854775807)
  f2 : (-9223372036854775808 ≤ v.f2 ∧ v.f2 ≤ 9223372036854775807)
  f3 : (-9223372036854775808 ≤ v.f3 ∧ v.f3 ≤ 9223372036854775807)
  f4 : (-9223372036854775808 ≤ v.f4 ∧ v.f4 ≤ 9223372036854775807)
theorem rd54 : Rd Try.prog 54 5 S54.av S54.In := rd_struct (rdF_cons 3 0 (rd_imp (rd_int Try.underlying3) fun v h => rng_i64 h) (by kernel_rfl) (rdF_cons 3 1 (rd_imp (rd_int Try.underlying3) fun v h => rng_i64 h) (by kernel_rfl) (rdF_cons 3 2 (rd_imp (rd_int Try.underlying3) fun v h => rng_i64 h) (by kernel_rfl) (rdF_cons 3 3 (rd_imp (rd_int Try.underlying3) fun v h => rng_i64 h) (by kernel_rfl) (rdF_one 2 4 (rd_imp (rd_int Try.underlying2) fun v h => rng_i64 h) (by kernel_rfl)))))) Try.underlying54 rfl (fun v => ⟨v.1, v.2.1, v.2.2.1, v.2.2.2.1, v.2.2.2.2⟩) (fun _ => rfl) (fun _ => rfl) (fun v h => ⟨h.1, h.2.1, h.2.2.1, h.2.2.2.1, h.2.2.2.2⟩) (by kernel_rfl)
/-- api.Spot = fugleman/api.Spot -/
structure S56 where
  f0 : Int
  f1 : Int
def S56.av (v : S56) : List AV := [.v (.int .i64 v.f0), .v (.int .i64 v.f1)]
structure S56.In (v : S56) : Prop where
  f0 : (-9223372036854775808 ≤ v.f0 ∧ v.f0 ≤ 9223372036854775807)
  f1 : (-9223372036854775808 ≤ v.f1 ∧ v.f1 ≤ 9223372036854775807)
theorem rd56 : Rd Try.prog 56 2 S56.av S56.In := rd_struct (rdF_cons 3 0 (rd_imp (rd_int Try.underlying3) fun v h => rng_i64 h) (by kernel_rfl) (rdF_one 3 1 (rd_imp (rd_int Try.underlying3) fun v h => rng_i64 h) (by kernel_rfl))) Try.underlying56 rfl (fun v => ⟨v.1, v.2⟩) (fun _ => rfl) (fun _ => rfl) (fun v h => ⟨h.1, h.2⟩) (by kernel_rfl)
/-- api.Station = fugleman/api.Station -/
structure S37 where
  f0 : Int
  f1 : Int
  f2 : Int
  f3 : List (S54)
  f4 : List (S56)
  f5 : List (S56)
def S37.av (v : S37) : List AV := [.v (.int .i64 v.f0), .v (.int .i64 v.f1), .v (.int .i64 v.f2), .shr v.f3.length false (v.f3.flatMap S54.av), .shr v.f4.length false (v.f4.flatMap S56.av), .shr v.f5.length false (v.f5.flatMap S56.av)]
structure S37.In (v : S37) : Prop where
  f0 : (-9223372036854775808 ≤ v.f0 ∧ v.f0 ≤ 9223372036854775807)
  f1 : (-9223372036854775808 ≤ v.f1 ∧ v.f1 ≤ 9223372036854775807)
  f2 : (-9223372036854775808 ≤ v.f2 ∧ v.f2 ≤ 9223372036854775807)
  f3 : (v.f3.length ≤ 140737488351232 ∧ ∀ (i0 : Nat) x0, v.f3[i0]? = some x0 → S54.In x0)
  f4 : (v.f4.length ≤ 140737488351232 ∧ ∀ (i0 : Nat) x0, v.f4[i0]? = some x0 → S56.In x0)
  f5 : (v.f5.length ≤ 140737488351232 ∧ ∀ (i0 : Nat) x0, v.f5[i0]? = some x0 → S56.In x0)
theorem rd37 : Rd Try.prog 37 6 S37.av S37.In := rd_struct (rdF_cons 3 0 (rd_imp (rd_int Try.underlying3) fun v h => rng_i64 h) (by kernel_rfl) (rdF_cons 3 1 (rd_imp (rd_int Try.underlying3) fun v h => rng_i64 h) (by kernel_rfl) (rdF_cons 3 2 (rd_imp (rd_int Try.underlying3) fun v h => rng_i64 h) (by kernel_rfl) (rdF_cons 34 3 (rd_slice Try.underlying34 rd54 (by kernel_rfl) (by kernel_rfl)) (by kernel_rfl) (rdF_cons 35 4 (rd_slice Try.underlying35 rd56 (by kernel_rfl) (by kernel_rfl)) (by kernel_rfl) (rdF_one 35 5 (rd_slice Try.underlying35 rd56 (by kernel_rfl) (by kernel_rfl)) (by kernel_rfl))))))) Try.underlying37 rfl (fun v => ⟨v.1, v.2.1, v.2.2.1, v.2.2.2.1, v.2.2.2.2.1, v.2.2.2.2.2⟩) (fun _ => rfl) (fun _ => rfl) (fun v h => ⟨h.1, h.2.1, h.2.2.1, h.2.2.2.1, h.2.2.2.2.1, h.2.2.2.2.2⟩) (by kernel_rfl)
/-- api.Cluster = fugleman/api.Cluster -/
structure S25 where
  f0 : Int
  f1 : Int
  f2 : Int
  f3 : Int
  f4 : Int
  f5 : Int
  f6 : List (S63)
  f7 : List (S37)
def S25.av (v : S25) : List AV := [.v (.int .i64 v.f0), .v (.int .i64 v.f1), .v (.int .i64 v.f2), .v (.int .i64 v.f3), .v (.int .i64 v.f4), .v (.int .i64 v.f5), .shr v.f6.length false (v.f6.flatMap S63.av), .shr v.f7.length false (v.f7.flatMap S37.av)]
structure S25.In (v : S25) : Prop where
  f0 : (-9223372036854775808 ≤ v.f0 ∧ v.f0 ≤ 9223372036854775807)
  f1 : (-9223372036854775808 ≤ v.f1 ∧ v.f1 ≤ 9223372036854775807)
  f2 : (-9223372036854775808 ≤ v.f2 ∧ v.f2 ≤ 9223372036854775807)
  f3 : (-9223372036854775808 ≤ v.f3 ∧ v.f3 ≤ 9223372036854775807)
  f4 : (-9223372036854775808 ≤ v.f4 ∧ v.f4 ≤ 9223372036854775807)
  f5 : (-9223372036854775808 ≤ v.f5 ∧ v.f5 ≤ 9223372036854775807)
  f6 : (v.f6.length ≤ 140737488351232 ∧ ∀ (i0 : Nat) x0, v.f6[i0]? = some x0 → S63.In x0)
  f7 : (v.f7.length ≤ 140737488351232 ∧ ∀ (i0 : Nat) x0, v.f7[i0]? = some x0 → S37.In x0)
theorem rd25 : Rd Try.prog 25 8 S25.av S25.In := rd_struct (rdF_cons 3 0 (rd_imp (rd_int Try.underlying3) fun v h => rng_i64 h) (by kernel_rfl) (rdF_cons 3 1 (rd_imp (rd_int Try.underlying3) fun v h => rng_i64 h) (by kernel_rfl) (rdF_cons 3 2 (rd_imp (rd_int Try.underlying3) fun v h => rng_i64 h) (by kernel_rfl) (rdF_cons 3 3 (rd_imp (rd_int Try.underlying3) fun v h => rng_i64 h) (by kernel_rfl) (rdF_cons 3 4 (rd_imp (rd_int Try.underlying3) fun v h => rng_i64 h) (by kernel_rfl) (rdF_cons 3 5 (rd_imp (rd_int Try.underlying3) fun v h => rng_i64 h) (by kernel_rfl) (rdF_cons 22 6 (rd_slice Try.underlying22 rd63 (by kernel_rfl) (by kernel_rfl)) (by kernel_rfl) (rdF_one 23 7 (rd_slice Try.underlying23 rd37 (by kernel_rfl) (by kernel_rfl)) (by kernel_rfl))))))))) Try.underlying25 rfl (fun v => ⟨v.1, v.2.1, v.2.2.1, v.2.2.2.1, v.2.2.2.2.1, v.2.2.2.2.2.1, v.2.2.2.2.2.2.1, v.2.2.2.2.2.2.2⟩) (fun _ => rfl) (fun _ => rfl) (fun v h => ⟨h.1, h.2.1, h.2.2.1, h.2.2.2.1, h.2.2.2.2.1, h.2.2.2.2.2.1, h.2.2.2.2.2.2.1, h.2.2.2.2.2.2.2⟩) (by kernel_rfl)
theorem rConfigChecks0 : Rd Try.prog 25 8 S25.av (fun v : S25 => S25.In v) := rd25
end Go.Proofs.Ytcfokbhmchcgbaa.Args

/- Rows of structs; the first of those that have a number. -/
namespace Go.Proofs.Ytcfokbhmchcgbaa.Cfg
open Go Go.Proofs.Ytcfokbhmchcgbaa.Sym Go.Proofs.Ytcfokbhmchcgbaa.Tab Go.Proofs.Ytcfokbhmchcgbaa.Args
set_option linter.unusedVariables false
set_option linter.unusedSimpArgs false
set_option maxHeartbeats 4000000
set_option maxRecDepth 20000
abbrev Sta := S37
abbrev Blk := S63
abbrev Spt := S56
abbrev Ins := S54
abbrev Clu := S25
theorem chunk {α : Type} (f : α → List AV) (w : Nat) (hw : ∀ x, (f x).length = w) : ∀ (L : List α) (i : Nat) (h : i < L.length), ((L.flatMap f).drop (i * w)).take w = f L[i]
  | [], i, h => by simp at h
  | x :: L, 0, h => by
    rw [Nat.zero_mul, List.drop_zero, List.flatMap_cons, List.take_append_of_le_length (by rw [hw]; exact Nat.le_refl _), ← hw x, List.take_length]
    rfl
  | x :: L, i + 1, h => by
    have hl : (f x).length ≤ (i + 1) * w := by rw [hw, Nat.add_mul]; omega
    rw [List.flatMap_cons, List.drop_append, List.drop_of_length_le hl, List.nil_append, show (i + 1) * w - (f x).length = i * w by rw [hw, Nat.add_mul]; omega]
    exact chunk f w hw L i (by simpa using h)
theorem chunk_at {α : Type} (f : α → List AV) (w : Nat) (hw : ∀ x, (f x).length = w) (L : List α) (i : Nat) (h : i < L.length) (j : Nat) (hj : j < w) : (L.flatMap f)[i * w + j]? = (f L[i])[j]? := by
  rw [← chunk f w hw L i h, List.getElem?_take_of_lt hj, List.getElem?_drop]
theorem chunk_len {α : Type} (f : α → List AV) (w : Nat) (hw : ∀ x, (f x).length = w) (L : List α) : (L.flatMap f).length = L.length * w := by
  induction L with
  | nil => simp
  | cons x L ih => rw [List.flatMap_cons, List.length_append, ih, hw, List.length_cons, Nat.add_mul]; omega
/-- The first of those that have a number, -1: there is none. -/
def idx {α : Type} (key : α → Int) (x : Int) (L : List α) : Nat → Nat → Int
  | 0, _ => -1
  | m + 1, i => if h : i < L.length then (if key L[i] = x then i else idx key x L m (i + 1)) else -1
abbrev xo (x : Int) : Sym.Obj := ⟨true, false, true, [.v (.int .i64 x)]⟩
theorem sta_len (x : Sta) : x.av.length = 6 := rfl
theorem blk_len (x : Blk) : x.av.length = 4 := rfl
theorem spt_len (x : Spt) : x.av.length = 2 := rfl
theorem ins_len (x : Ins) : x.av.length = 5 := rfl
/-! Sta -/
theorem clo_Sta (k : Nat) (y : Sta) (x : Int) : acall T (k + 1) 44 1 [.agg y.av, .ptr 0 0] [xo x] = some ⟨.v (.bool (y.f0 == x)), [xo x], 1⟩ := by
  rw [acall_go (body := b_config_place_1) rfl rfl (Nat.le_refl 1)]
  simp -implicitDefEqProofs only [eqs, eqd, eqe, lh_some, ↓reduceIte, reduceCtorEq, Nat.reduceEqDiff, Nat.reduceAdd, Nat.reduceSub, Nat.reduceMul, Nat.reduceLT, Nat.reduceLeDiff, Nat.reduceBEq, Nat.reduceBNe, Nat.reduceGT, Int.reduceEq, Int.reduceLT, Int.reduceLE, Int.reduceToNat, Int.reduceAdd, Int.reduceSub, Int.reduceMul, Int.reduceNeg, Int.reduceBEq, Int.reduceBNe, b_config_place_1, S37.av, xo]
def ist_Sta (L : List Sta) (x : Int) (i d : Nat) : St := ⟨[(0, .shr L.length false (L.flatMap S37.av)), (1, .fn 44 [.ptr 0 0]), (7, .v (.int .i64 L.length)), (8, .v (.int .i64 i))], [xo x], d, [0]⟩
noncomputable abbrev ifin_Sta (k lf : Nat) (s : St) (N : Nat) : Option Res := FnR [.t 4] false false (Lh (acall T (k + 1)) lf (some s) [0, 1, 7, 8] l_api_Station_0 N [.b 0, .c l_api_Station_1])
theorem idx_one_Sta (k lf : Nat) (L : List Sta) (hL : L.length ≤ 250) (x : Int) (i : Nat) (hi : i < L.length) (d : Nat) (hd : d ≤ 1) (N : Nat) : ifin_Sta k lf (ist_Sta L x i d) (N + 1) = if L[i].f0 = x then some ⟨.v (.int .i64 i), [xo x], 1⟩ else ifin_Sta k lf (ist_Sta L x (i + 1) 1) N := by
  have c1 : (i : Int) < L.length := by omega
  have c0 : (0 : Int) ≤ i := by omega
  have w1 : IntKind.i64.wrap ((i : Int) + 1) = i + 1 := w64 (by omega) (by omega)
  have h5 := chunk S37.av 6 sta_len L i hi
  have l5 : i * 6 + 6 ≤ L.length * 6 := by omega
  have hl := chunk_len S37.av 6 sta_len L
  have hc := clo_Sta k L[i] x
  have hdd : d = 0 ∨ d = 1 := by omega
  unfold ifin_Sta ist_Sta
  rw [lh_as l_api_Station_0.eq_1]
  generalize L[i] = y at *
  generalize L.flatMap S37.av = cs at *
  generalize L.length = n at *
  by_cases e : y.f0 = x
  · have e' : (y.f0 == x) = true := by simpa using e
    rw [e'] at hc
    rw [if_pos e]
    simp only [S37.av, xo] at hc
    rcases hdd with rfl | rfl
    · simp -implicitDefEqProofs only [eqs, eqd, eqe, ↓reduceIte, reduceCtorEq, Nat.reduceEqDiff, Nat.reduceAdd, Nat.reduceSub, Nat.reduceMul, Nat.reduceLT, Nat.reduceLeDiff, Nat.reduceBEq, Nat.reduceBNe, Nat.reduceGT, Int.reduceEq, Int.reduceLT, Int.reduceLE, Int.reduceToNat, Int.reduceAdd, Int.reduceSub, Int.reduceMul, Int.reduceNeg, Int.reduceBEq, Int.reduceBNe, nx_nil, S37.av, xo, c0, c1, w1, h5, l5, hl, hc, Int.toNat_natCast, Int.natCast_add]
    · simp -implicitDefEqProofs only [eqs, eqd, eqe, ↓reduceIte, reduceCtorEq, Nat.reduceEqDiff, Nat.reduceAdd, Nat.reduceSub, Nat.reduceMul, Nat.reduceLT, Nat.reduceLeDiff, Nat.reduceBEq, Nat.reduceBNe, Nat.reduceGT, Int.reduceEq, Int.reduceLT, Int.reduceLE, Int.reduceToNat, Int.reduceAdd, Int.reduceSub, Int.reduceMul, Int.reduceNeg, Int.reduceBEq, Int.reduceBNe, nx_nil, S37.av, xo, c0, c1, w1, h5, l5, hl, hc, Int.toNat_natCast, Int.natCast_add]
  · have e' : (y.f0 == x) = false := by simpa using e
    rw [e'] at hc
    rw [if_neg e]
    simp only [S37.av, xo] at hc
    rcases hdd with rfl | rfl
    · simp -implicitDefEqProofs only [eqs, eqd, eqe, ↓reduceIte, reduceCtorEq, Nat.reduceEqDiff, Nat.reduceAdd, Nat.reduceSub, Nat.reduceMul, Nat.reduceLT, Nat.reduceLeDiff, Nat.reduceBEq, Nat.reduceBNe, Nat.reduceGT, Int.reduceEq, Int.reduceLT, Int.reduceLE, Int.reduceToNat, Int.reduceAdd, Int.reduceSub, Int.reduceMul, Int.reduceNeg, Int.reduceBEq, Int.reduceBNe, nx_nil, S37.av, xo, c0, c1, w1, h5, l5, hl, hc, Int.toNat_natCast, Int.natCast_add]
    · simp -implicitDefEqProofs only [eqs, eqd, eqe, ↓reduceIte, reduceCtorEq, Nat.reduceEqDiff, Nat.reduceAdd, Nat.reduceSub, Nat.reduceMul, Nat.reduceLT, Nat.reduceLeDiff, Nat.reduceBEq, Nat.reduceBNe, Nat.reduceGT, Int.reduceEq, Int.reduceLT, Int.reduceLE, Int.reduceToNat, Int.reduceAdd, Int.reduceSub, Int.reduceMul, Int.reduceNeg, Int.reduceBEq, Int.reduceBNe, nx_nil, S37.av, xo, c0, c1, w1, h5, l5, hl, hc, Int.toNat_natCast, Int.natCast_add]
theorem idx_end_Sta (k lf : Nat) (L : List Sta) (x : Int) (d : Nat) (hd : d ≤ 1) (N : Nat) : ifin_Sta k lf (ist_Sta L x L.length d) N = some ⟨.v (.int .i64 (-1)), [xo x], d⟩ := by
  have c1 : ¬ (L.length : Int) < L.length := by omega
  have hdd : d = 0 ∨ d = 1 := by omega
  unfold ifin_Sta ist_Sta
  rw [lh_as l_api_Station_0.eq_1]
  generalize L.flatMap S37.av = cs at *
  rcases hdd with rfl | rfl
  · simp -implicitDefEqProofs only [eqs, eqd, eqe, ↓reduceIte, reduceCtorEq, Nat.reduceEqDiff, Nat.reduceAdd, Nat.reduceSub, Nat.reduceMul, Nat.reduceLT, Nat.reduceLeDiff, Nat.reduceBEq, Nat.reduceBNe, Nat.reduceGT, Int.reduceEq, Int.reduceLT, Int.reduceLE, Int.reduceToNat, Int.reduceAdd, Int.reduceSub, Int.reduceMul, Int.reduceNeg, Int.reduceBEq, Int.reduceBNe, nx_nil, l_api_Station_1, xo, c1]
  · simp -implicitDefEqProofs only [eqs, eqd, eqe, ↓reduceIte, reduceCtorEq, Nat.reduceEqDiff, Nat.reduceAdd, Nat.reduceSub, Nat.reduceMul, Nat.reduceLT, Nat.reduceLeDiff, Nat.reduceBEq, Nat.reduceBNe, Nat.reduceGT, Int.reduceEq, Int.reduceLT, Int.reduceLE, Int.reduceToNat, Int.reduceAdd, Int.reduceSub, Int.reduceMul, Int.reduceNeg, Int.reduceBEq, Int.reduceBNe, nx_nil, l_api_Station_1, xo, c1]
theorem idx_run_Sta (k lf : Nat) (L : List Sta) (hL : L.length ≤ 250) (x : Int) : ∀ (m i d N : Nat), i + m = L.length → m ≤ N → d ≤ 1 → ∃ d', d' ≤ 1 ∧ ifin_Sta k lf (ist_Sta L x i d) N = some ⟨.v (.int .i64 (idx (fun y => y.f0) x L m i)), [xo x], d'⟩
  | 0, i, d, N, hi, hN, hd => by
    obtain rfl : i = L.length := by omega
    exact ⟨d, hd, idx_end_Sta k lf L x d hd N⟩
  | m + 1, i, d, N, hi, hN, hd => by
    obtain ⟨N, rfl⟩ : ∃ M, N = M + 1 := ⟨N - 1, by omega⟩
    have h : i < L.length := by omega
    rw [idx_one_Sta k lf L hL x i h d hd N, idx, dif_pos h]
    by_cases e : L[i].f0 = x
    · rw [if_pos e, if_pos e]
      exact ⟨1, Nat.le_refl _, rfl⟩
    · rw [if_neg e, if_neg e]
      exact idx_run_Sta k lf L hL x m (i + 1) 1 N (by omega) (by omega) (Nat.le_refl _)
theorem idx_Sta (k : Nat) (hk : 250 ≤ k) (L : List Sta) (hL : L.length ≤ 250) (x : Int) : ∃ d, d ≤ 1 ∧ acall T (k + 2) 43 1 [.shr L.length false (L.flatMap S37.av), .fn 44 [.ptr 0 0]] [xo x] = some ⟨.v (.int .i64 (idx (fun y => y.f0) x L L.length 0)), [xo x], d⟩ := by
  obtain ⟨d, h1, h2⟩ := idx_run_Sta k (k + 1) L hL x L.length 0 0 k (by omega) (by omega) (by omega)
  refine ⟨d, h1, ?_⟩
  rw [acall_go (body := b_api_Station) rfl rfl (Nat.le_refl 1), ← h2]
  clear h2
  have lp : ∀ (ks : List It) (s : St), Lp (acall T (k + 1)) (k + 1) [0, 1, 7, 8] l_api_Station_0 (k + 1) ks s = Lh (acall T (k + 1)) (k + 1) (canon [0, 1, 7, 8] s) [0, 1, 7, 8] l_api_Station_0 k ks := fun ks s => lp_succ (n := k)
  unfold ifin_Sta ist_Sta
  generalize L.flatMap S37.av = cs at *
  generalize L.length = n at *
  simp -implicitDefEqProofs only [eqs, eqd, eqe, ↓reduceIte, reduceCtorEq, Nat.reduceEqDiff, Nat.reduceAdd, Nat.reduceSub, Nat.reduceMul, Nat.reduceLT, Nat.reduceLeDiff, Nat.reduceBEq, Nat.reduceBNe, Nat.reduceGT, Int.reduceEq, Int.reduceLT, Int.reduceLE, Int.reduceToNat, Int.reduceAdd, Int.reduceSub, Int.reduceMul, Int.reduceNeg, Int.reduceBEq, Int.reduceBNe, b_api_Station, xo, lp, Int.natCast_zero]
/-! Blk -/
theorem clo_Blk (k : Nat) (y : Blk) (x : Int) : acall T (k + 1) 50 1 [.agg y.av, .ptr 0 0] [xo x] = some ⟨.v (.bool (y.f0 == x)), [xo x], 1⟩ := by
  rw [acall_go (body := b_blocks_place_1) rfl rfl (Nat.le_refl 1)]
  simp -implicitDefEqProofs only [eqs, eqd, eqe, lh_some, ↓reduceIte, reduceCtorEq, Nat.reduceEqDiff, Nat.reduceAdd, Nat.reduceSub, Nat.reduceMul, Nat.reduceLT, Nat.reduceLeDiff, Nat.reduceBEq, Nat.reduceBNe, Nat.reduceGT, Int.reduceEq, Int.reduceLT, Int.reduceLE, Int.reduceToNat, Int.reduceAdd, Int.reduceSub, Int.reduceMul, Int.reduceNeg, Int.reduceBEq, Int.reduceBNe, b_blocks_place_1, S63.av, xo]
def ist_Blk (L : List Blk) (x : Int) (i d : Nat) : St := ⟨[(0, .shr L.length false (L.flatMap S63.av)), (1, .fn 50 [.ptr 0 0]), (7, .v (.int .i64 L.length)), (8, .v (.int .i64 i))], [xo x], d, [0]⟩
noncomputable abbrev ifin_Blk (k lf : Nat) (s : St) (N : Nat) : Option Res := FnR [.t 4] false false (Lh (acall T (k + 1)) lf (some s) [0, 1, 7, 8] l_api_Block_0 N [.b 0, .c l_api_Block_1])
theorem idx_one_Blk (k lf : Nat) (L : List Blk) (hL : L.length ≤ 250) (x : Int) (i : Nat) (hi : i < L.length) (d : Nat) (hd : d ≤ 1) (N : Nat) : ifin_Blk k lf (ist_Blk L x i d) (N + 1) = if L[i].f0 = x then some ⟨.v (.int .i64 i), [xo x], 1⟩ else ifin_Blk k lf (ist_Blk L x (i + 1) 1) N := by
  have c1 : (i : Int) < L.length := by omega
  have c0 : (0 : Int) ≤ i := by omega
  have w1 : IntKind.i64.wrap ((i : Int) + 1) = i + 1 := w64 (by omega) (by omega)
  have h5 := chunk S63.av 4 blk_len L i hi
  have l5 : i * 4 + 4 ≤ L.length * 4 := by omega
  have hl := chunk_len S63.av 4 blk_len L
  have hc := clo_Blk k L[i] x
  have hdd : d = 0 ∨ d = 1 := by omega
  unfold ifin_Blk ist_Blk
  rw [lh_as l_api_Block_0.eq_1]
  generalize L[i] = y at *
  generalize L.flatMap S63.av = cs at *
  generalize L.length = n at *
  by_cases e : y.f0 = x
  · have e' : (y.f0 == x) = true := by simpa using e
    rw [e'] at hc
    rw [if_pos e]
    simp only [S63.av, xo] at hc
    rcases hdd with rfl | rfl
    · simp -implicitDefEqProofs only [eqs, eqd, eqe, ↓reduceIte, reduceCtorEq, Nat.reduceEqDiff, Nat.reduceAdd, Nat.reduceSub, Nat.reduceMul, Nat.reduceLT, Nat.reduceLeDiff, Nat.reduceBEq, Nat.reduceBNe, Nat.reduceGT, Int.reduceEq, Int.reduceLT, Int.reduceLE, Int.reduceToNat, Int.reduceAdd, Int.reduceSub, Int.reduceMul, Int.reduceNeg, Int.reduceBEq, Int.reduceBNe, nx_nil, S63.av, xo, c0, c1, w1, h5, l5, hl, hc, Int.toNat_natCast, Int.natCast_add]
    · simp -implicitDefEqProofs only [eqs, eqd, eqe, ↓reduceIte, reduceCtorEq, Nat.reduceEqDiff, Nat.reduceAdd, Nat.reduceSub, Nat.reduceMul, Nat.reduceLT, Nat.reduceLeDiff, Nat.reduceBEq, Nat.reduceBNe, Nat.reduceGT, Int.reduceEq, Int.reduceLT, Int.reduceLE, Int.reduceToNat, Int.reduceAdd, Int.reduceSub, Int.reduceMul, Int.reduceNeg, Int.reduceBEq, Int.reduceBNe, nx_nil, S63.av, xo, c0, c1, w1, h5, l5, hl, hc, Int.toNat_natCast, Int.natCast_add]
  · have e' : (y.f0 == x) = false := by simpa using e
    rw [e'] at hc
    rw [if_neg e]
    simp only [S63.av, xo] at hc
    rcases hdd with rfl | rfl
    · simp -implicitDefEqProofs only [eqs, eqd, eqe, ↓reduceIte, reduceCtorEq, Nat.reduceEqDiff, Nat.reduceAdd, Nat.reduceSub, Nat.reduceMul, Nat.reduceLT, Nat.reduceLeDiff, Nat.reduceBEq, Nat.reduceBNe, Nat.reduceGT, Int.reduceEq, Int.reduceLT, Int.reduceLE, Int.reduceToNat, Int.reduceAdd, Int.reduceSub, Int.reduceMul, Int.reduceNeg, Int.reduceBEq, Int.reduceBNe, nx_nil, S63.av, xo, c0, c1, w1, h5, l5, hl, hc, Int.toNat_natCast, Int.natCast_add]
    · simp -implicitDefEqProofs only [eqs, eqd, eqe, ↓reduceIte, reduceCtorEq, Nat.reduceEqDiff, Nat.reduceAdd, Nat.reduceSub, Nat.reduceMul, Nat.reduceLT, Nat.reduceLeDiff, Nat.reduceBEq, Nat.reduceBNe, Nat.reduceGT, Int.reduceEq, Int.reduceLT, Int.reduceLE, Int.reduceToNat, Int.reduceAdd, Int.reduceSub, Int.reduceMul, Int.reduceNeg, Int.reduceBEq, Int.reduceBNe, nx_nil, S63.av, xo, c0, c1, w1, h5, l5, hl, hc, Int.toNat_natCast, Int.natCast_add]
theorem idx_end_Blk (k lf : Nat) (L : List Blk) (x : Int) (d : Nat) (hd : d ≤ 1) (N : Nat) : ifin_Blk k lf (ist_Blk L x L.length d) N = some ⟨.v (.int .i64 (-1)), [xo x], d⟩ := by
  have c1 : ¬ (L.length : Int) < L.length := by omega
  have hdd : d = 0 ∨ d = 1 := by omega
  unfold ifin_Blk ist_Blk
  rw [lh_as l_api_Block_0.eq_1]
  generalize L.flatMap S63.av = cs at *
  rcases hdd with rfl | rfl
  · simp -implicitDefEqProofs only [eqs, eqd, eqe, ↓reduceIte, reduceCtorEq, Nat.reduceEqDiff, Nat.reduceAdd, Nat.reduceSub, Nat.reduceMul, Nat.reduceLT, Nat.reduceLeDiff, Nat.reduceBEq, Nat.reduceBNe, Nat.reduceGT, Int.reduceEq, Int.reduceLT, Int.reduceLE, Int.reduceToNat, Int.reduceAdd, Int.reduceSub, Int.reduceMul, Int.reduceNeg, Int.reduceBEq, Int.reduceBNe, nx_nil, l_api_Block_1, xo, c1]
  · simp -implicitDefEqProofs only [eqs, eqd, eqe, ↓reduceIte, reduceCtorEq, Nat.reduceEqDiff, Nat.reduceAdd, Nat.reduceSub, Nat.reduceMul, Nat.reduceLT, Nat.reduceLeDiff, Nat.reduceBEq, Nat.reduceBNe, Nat.reduceGT, Int.reduceEq, Int.reduceLT, Int.reduceLE, Int.reduceToNat, Int.reduceAdd, Int.reduceSub, Int.reduceMul, Int.reduceNeg, Int.reduceBEq, Int.reduceBNe, nx_nil, l_api_Block_1, xo, c1]
theorem idx_run_Blk (k lf : Nat) (L : List Blk) (hL : L.length ≤ 250) (x : Int) : ∀ (m i d N : Nat), i + m = L.length → m ≤ N → d ≤ 1 → ∃ d', d' ≤ 1 ∧ ifin_Blk k lf (ist_Blk L x i d) N = some ⟨.v (.int .i64 (idx (fun y => y.f0) x L m i)), [xo x], d'⟩
  | 0, i, d, N, hi, hN, hd => by
    obtain rfl : i = L.length := by omega
    exact ⟨d, hd, idx_end_Blk k lf L x d hd N⟩
  | m + 1, i, d, N, hi, hN, hd => by
    obtain ⟨N, rfl⟩ : ∃ M, N = M + 1 := ⟨N - 1, by omega⟩
    have h : i < L.length := by omega
    rw [idx_one_Blk k lf L hL x i h d hd N, idx, dif_pos h]
    by_cases e : L[i].f0 = x
    · rw [if_pos e, if_pos e]
      exact ⟨1, Nat.le_refl _, rfl⟩
    · rw [if_neg e, if_neg e]
      exact idx_run_Blk k lf L hL x m (i + 1) 1 N (by omega) (by omega) (Nat.le_refl _)
theorem idx_Blk (k : Nat) (hk : 250 ≤ k) (L : List Blk) (hL : L.length ≤ 250) (x : Int) : ∃ d, d ≤ 1 ∧ acall T (k + 2) 49 1 [.shr L.length false (L.flatMap S63.av), .fn 50 [.ptr 0 0]] [xo x] = some ⟨.v (.int .i64 (idx (fun y => y.f0) x L L.length 0)), [xo x], d⟩ := by
  obtain ⟨d, h1, h2⟩ := idx_run_Blk k (k + 1) L hL x L.length 0 0 k (by omega) (by omega) (by omega)
  refine ⟨d, h1, ?_⟩
  rw [acall_go (body := b_api_Block) rfl rfl (Nat.le_refl 1), ← h2]
  clear h2
  have lp : ∀ (ks : List It) (s : St), Lp (acall T (k + 1)) (k + 1) [0, 1, 7, 8] l_api_Block_0 (k + 1) ks s = Lh (acall T (k + 1)) (k + 1) (canon [0, 1, 7, 8] s) [0, 1, 7, 8] l_api_Block_0 k ks := fun ks s => lp_succ (n := k)
  unfold ifin_Blk ist_Blk
  generalize L.flatMap S63.av = cs at *
  generalize L.length = n at *
  simp -implicitDefEqProofs only [eqs, eqd, eqe, ↓reduceIte, reduceCtorEq, Nat.reduceEqDiff, Nat.reduceAdd, Nat.reduceSub, Nat.reduceMul, Nat.reduceLT, Nat.reduceLeDiff, Nat.reduceBEq, Nat.reduceBNe, Nat.reduceGT, Int.reduceEq, Int.reduceLT, Int.reduceLE, Int.reduceToNat, Int.reduceAdd, Int.reduceSub, Int.reduceMul, Int.reduceNeg, Int.reduceBEq, Int.reduceBNe, b_api_Block, xo, lp, Int.natCast_zero]
/-! Spt -/
end Go.Proofs.Ytcfokbhmchcgbaa.Cfg

/- Find, of stations and of blocks; the document's. -/
namespace Go.Proofs.Ytcfokbhmchcgbaa.Cfg
open Go Go.Proofs.Ytcfokbhmchcgbaa.Sym Go.Proofs.Ytcfokbhmchcgbaa.Tab Go.Proofs.Ytcfokbhmchcgbaa.Args
set_option linter.unusedVariables false
set_option linter.unusedSimpArgs false
set_option maxHeartbeats 4000000
set_option maxRecDepth 20000
/-- The first one itself. -/
def fnd {α : Type} (key : α → Int) (x : Int) (L : List α) : Nat → Nat → Option α
  | 0, _ => none
  | m + 1, i => if h : i < L.length then (if key L[i] = x then some L[i] else fnd key x L m (i + 1)) else none
theorem idx_fnd {α : Type} (key : α → Int) (x : Int) (L : List α) : ∀ m i, i + m = L.length → (idx key x L m i = -1 ∧ fnd key x L m i = none) ∨ ∃ (j : Nat) (h : j < L.length), idx key x L m i = j ∧ fnd key x L m i = some L[j]
  | 0, i, hi => Or.inl ⟨rfl, rfl⟩
  | m + 1, i, hi => by
    rw [idx, fnd, dif_pos (by omega), dif_pos (by omega)]
    split
    · exact Or.inr ⟨i, by omega, rfl, rfl⟩
    · exact idx_fnd key x L m (i + 1) (by omega)
def blkO : Option Blk → List AV
  | none => [.v (.int .i64 0), .v (.int .i64 0), .v (.int .i64 0), .v (.bool false)]
  | some b => b.av
theorem place_a (k : Nat) (hk : 250 ≤ k) (c : Clu) (hL : c.f7.length ≤ 250) (x : Int) : acall T (k + 3) 26 0 [.agg c.av, .v (.int .i64 x)] [] = some ⟨.v (.int .i64 (idx (fun y => y.f0) x c.f7 c.f7.length 0)), [], 1⟩ := by
  obtain ⟨d, h1, h2⟩ := idx_Sta k hk c.f7 hL x
  rw [acall_go (body := b_config_place) rfl rfl (Nat.zero_le _)]
  have hdd : d = 0 ∨ d = 1 := by omega
  simp only [xo] at h2
  rcases hdd with rfl | rfl
  · simp -implicitDefEqProofs only [eqs, eqd, eqe, lh_some, ↓reduceIte, reduceCtorEq, Nat.reduceEqDiff, Nat.reduceAdd, Nat.reduceSub, Nat.reduceMul, Nat.reduceLT, Nat.reduceLeDiff, Nat.reduceBEq, Nat.reduceBNe, Nat.reduceGT, Int.reduceEq, Int.reduceLT, Int.reduceLE, Int.reduceToNat, Int.reduceAdd, Int.reduceSub, Int.reduceMul, Int.reduceNeg, Int.reduceBEq, Int.reduceBNe, b_config_place, S25.av, h2]
  · simp -implicitDefEqProofs only [eqs, eqd, eqe, lh_some, ↓reduceIte, reduceCtorEq, Nat.reduceEqDiff, Nat.reduceAdd, Nat.reduceSub, Nat.reduceMul, Nat.reduceLT, Nat.reduceLeDiff, Nat.reduceBEq, Nat.reduceBNe, Nat.reduceGT, Int.reduceEq, Int.reduceLT, Int.reduceLE, Int.reduceToNat, Int.reduceAdd, Int.reduceSub, Int.reduceMul, Int.reduceNeg, Int.reduceBEq, Int.reduceBNe, b_config_place, S25.av, h2]
theorem bplace_a (k : Nat) (hk : 250 ≤ k) (L : List Blk) (hL : L.length ≤ 250) (x : Int) : acall T (k + 3) 36 0 [.shr L.length false (L.flatMap S63.av), .v (.int .i64 x)] [] = some ⟨.v (.int .i64 (idx (fun y => y.f0) x L L.length 0)), [], 1⟩ := by
  obtain ⟨d, h1, h2⟩ := idx_Blk k hk L hL x
  rw [acall_go (body := b_blocks_place) rfl rfl (Nat.zero_le _)]
  have hdd : d = 0 ∨ d = 1 := by omega
  simp only [xo] at h2
  rcases hdd with rfl | rfl
  · simp -implicitDefEqProofs only [eqs, eqd, eqe, lh_some, ↓reduceIte, reduceCtorEq, Nat.reduceEqDiff, Nat.reduceAdd, Nat.reduceSub, Nat.reduceMul, Nat.reduceLT, Nat.reduceLeDiff, Nat.reduceBEq, Nat.reduceBNe, Nat.reduceGT, Int.reduceEq, Int.reduceLT, Int.reduceLE, Int.reduceToNat, Int.reduceAdd, Int.reduceSub, Int.reduceMul, Int.reduceNeg, Int.reduceBEq, Int.reduceBNe, b_blocks_place, h2]
  · simp -implicitDefEqProofs only [eqs, eqd, eqe, lh_some, ↓reduceIte, reduceCtorEq, Nat.reduceEqDiff, Nat.reduceAdd, Nat.reduceSub, Nat.reduceMul, Nat.reduceLT, Nat.reduceLeDiff, Nat.reduceBEq, Nat.reduceBNe, Nat.reduceGT, Int.reduceEq, Int.reduceLT, Int.reduceLE, Int.reduceToNat, Int.reduceAdd, Int.reduceSub, Int.reduceMul, Int.reduceNeg, Int.reduceBEq, Int.reduceBNe, b_blocks_place, h2]
theorem bfind_a (k : Nat) (hk : 250 ≤ k) (L : List Blk) (hL : L.length ≤ 250) (x : Int) : acall T (k + 4) 33 0 [.shr L.length false (L.flatMap S63.av), .v (.int .i64 x)] [] = some ⟨.tup [.agg (blkO (fnd (fun y => y.f0) x L L.length 0)), .v (.bool (fnd (fun y => y.f0) x L L.length 0).isSome)], [], 1⟩ := by
  have h := bplace_a k hk L hL x
  rw [acall_go (body := b_blocks_Find) rfl rfl (Nat.zero_le _)]
  rcases idx_fnd (fun y : Blk => y.f0) x L L.length 0 (by omega) with ⟨e1, e2⟩ | ⟨j, hj, e1, e2⟩
  · rw [e1] at h
    rw [e2]
    simp -implicitDefEqProofs only [eqs, eqd, eqe, lh_some, ↓reduceIte, reduceCtorEq, Nat.reduceEqDiff, Nat.reduceAdd, Nat.reduceSub, Nat.reduceMul, Nat.reduceLT, Nat.reduceLeDiff, Nat.reduceBEq, Nat.reduceBNe, Nat.reduceGT, Int.reduceEq, Int.reduceLT, Int.reduceLE, Int.reduceToNat, Int.reduceAdd, Int.reduceSub, Int.reduceMul, Int.reduceNeg, Int.reduceBEq, Int.reduceBNe, b_blocks_Find, h, blkO, Option.isSome_none]
  · rw [e1] at h
    rw [e2]
    have c1 : ¬ (j : Int) < 0 := by omega
    have c2 : (j : Int) < L.length := by omega
    have c0 : (0 : Int) ≤ j := by omega
    have h5 := chunk S63.av 4 blk_len L j hj
    have l5 : j * 4 + 4 ≤ L.length * 4 := by omega
    have hl := chunk_len S63.av 4 blk_len L
    generalize L[j] = y at *
    generalize L.flatMap S63.av = cs at *
    generalize L.length = n at *
    simp -implicitDefEqProofs only [eqs, eqd, eqe, lh_some, ↓reduceIte, reduceCtorEq, Nat.reduceEqDiff, Nat.reduceAdd, Nat.reduceSub, Nat.reduceMul, Nat.reduceLT, Nat.reduceLeDiff, Nat.reduceBEq, Nat.reduceBNe, Nat.reduceGT, Int.reduceEq, Int.reduceLT, Int.reduceLE, Int.reduceToNat, Int.reduceAdd, Int.reduceSub, Int.reduceMul, Int.reduceNeg, Int.reduceBEq, Int.reduceBNe, b_blocks_Find, S63.av, h, c0, c1, c2, h5, l5, hl, blkO, Option.isSome_some, Int.toNat_natCast]
/-! the document's -/
def rbst (L : List Blk) (x : Int) (i : Nat) : St := ⟨[(0, .shr L.length false (L.flatMap S63.av)), (1, .v (.int .i64 x)), (4, .ptr 0 0), (6, .v (.int .i64 i))], [⟨true, true, true, blkO none⟩], 1, []⟩
noncomputable abbrev rbfin (C : CT) (lf : Nat) (s : St) (N : Nat) : Option Res := FnR [.cell 4 (some 4), .t 5] false false (Lh C lf (some s) [0, 1, 4, 6] l_fuglemanref16_Find_0 N [.b 0, .c l_fuglemanref16_Find_1])
theorem rbfind_one (C : CT) (lf : Nat) (L : List Blk) (hL : L.length ≤ 250) (x : Int) (i : Nat) (hi : i < L.length) (N : Nat) : rbfin C lf (rbst L x i) (N + 1) = if L[i].f0 = x then some ⟨.tup [.agg (blkO (some L[i])), .v (.bool true)], [], 1⟩ else rbfin C lf (rbst L x (i + 1)) N := by
  have c1 : (i : Int) < L.length := by omega
  have c0 : (0 : Int) ≤ i := by omega
  have w1 : IntKind.i64.wrap ((i : Int) + 1) = i + 1 := w64 (by omega) (by omega)
  have h5 := chunk S63.av 4 blk_len L i hi
  have h0 : (L.flatMap S63.av)[i * 4]? = (L[i].av)[0]? := chunk_at S63.av 4 blk_len L i hi 0 (by decide)
  have l5 : i * 4 + 4 ≤ L.length * 4 := by omega
  have hl := chunk_len S63.av 4 blk_len L
  unfold rbfin rbst
  rw [lh_as l_fuglemanref16_Find_0.eq_1]
  generalize L[i] = y at *
  generalize L.flatMap S63.av = cs at *
  generalize L.length = n at *
  simp only [S63.av, List.getElem?_cons_zero] at h0
  by_cases e : y.f0 = x
  · have e' : (y.f0 == x) = true := by simpa using e
    rw [if_pos e]
    simp -implicitDefEqProofs only [eqs, eqd, eqe, ↓reduceIte, reduceCtorEq, Nat.reduceEqDiff, Nat.reduceAdd, Nat.reduceSub, Nat.reduceMul, Nat.reduceLT, Nat.reduceLeDiff, Nat.reduceBEq, Nat.reduceBNe, Nat.reduceGT, Int.reduceEq, Int.reduceLT, Int.reduceLE, Int.reduceToNat, Int.reduceAdd, Int.reduceSub, Int.reduceMul, Int.reduceNeg, Int.reduceBEq, Int.reduceBNe, g_fuglemanref16_Find_0, S63.av, blkO, c0, c1, w1, h5, h0, l5, hl, e', Int.toNat_natCast, Int.natCast_add]
  · have e' : (y.f0 == x) = false := by simpa using e
    rw [if_neg e]
    simp -implicitDefEqProofs only [eqs, eqd, eqe, ↓reduceIte, reduceCtorEq, Nat.reduceEqDiff, Nat.reduceAdd, Nat.reduceSub, Nat.reduceMul, Nat.reduceLT, Nat.reduceLeDiff, Nat.reduceBEq, Nat.reduceBNe, Nat.reduceGT, Int.reduceEq, Int.reduceLT, Int.reduceLE, Int.reduceToNat, Int.reduceAdd, Int.reduceSub, Int.reduceMul, Int.reduceNeg, Int.reduceBEq, Int.reduceBNe, g_fuglemanref16_Find_0, S63.av, blkO, c0, c1, w1, h5, h0, l5, hl, e', Int.toNat_natCast, Int.natCast_add]
theorem rbfind_end (C : CT) (lf : Nat) (L : List Blk) (x : Int) (N : Nat) : rbfin C lf (rbst L x L.length) N = some ⟨.tup [.agg (blkO none), .v (.bool false)], [], 1⟩ := by
  have c1 : ¬ (L.length : Int) < L.length := by omega
  unfold rbfin rbst
  rw [lh_as l_fuglemanref16_Find_0.eq_1]
  simp -implicitDefEqProofs only [eqs, eqd, eqe, ↓reduceIte, reduceCtorEq, Nat.reduceEqDiff, Nat.reduceAdd, Nat.reduceSub, Nat.reduceMul, Nat.reduceLT, Nat.reduceLeDiff, Nat.reduceBEq, Nat.reduceBNe, Nat.reduceGT, Int.reduceEq, Int.reduceLT, Int.reduceLE, Int.reduceToNat, Int.reduceAdd, Int.reduceSub, Int.reduceMul, Int.reduceNeg, Int.reduceBEq, Int.reduceBNe, g_fuglemanref16_Find_0, l_fuglemanref16_Find_1, blkO, c1]
theorem rbfind_run (C : CT) (lf : Nat) (L : List Blk) (hL : L.length ≤ 250) (x : Int) : ∀ (m i N : Nat), i + m = L.length → m ≤ N → rbfin C lf (rbst L x i) N = some ⟨.tup [.agg (blkO (fnd (fun y => y.f0) x L m i)), .v (.bool (fnd (fun y => y.f0) x L m i).isSome)], [], 1⟩
  | 0, i, N, hi, hN => by
    obtain rfl : i = L.length := by omega
    exact rbfind_end C lf L x N
  | m + 1, i, N, hi, hN => by
    obtain ⟨N, rfl⟩ : ∃ M, N = M + 1 := ⟨N - 1, by omega⟩
    have h : i < L.length := by omega
    rw [rbfind_one C lf L hL x i h N, fnd, dif_pos h]
    by_cases e : L[i].f0 = x
    · rw [if_pos e, if_pos e]
      rfl
    · rw [if_neg e, if_neg e]
      exact rbfind_run C lf L hL x m (i + 1) N (by omega) (by omega)
theorem rbfind_a (k : Nat) (hk : 250 ≤ k) (L : List Blk) (hL : L.length ≤ 250) (x : Int) : acall T (k + 2) 34 0 [.shr L.length false (L.flatMap S63.av), .v (.int .i64 x)] [] = some ⟨.tup [.agg (blkO (fnd (fun y => y.f0) x L L.length 0)), .v (.bool (fnd (fun y => y.f0) x L L.length 0).isSome)], [], 1⟩ := by
  have key := rbfind_run (acall T (k + 1)) (k + 1) L hL x L.length 0 k (by omega) (by omega)
  rw [acall_go (body := b_fuglemanref16_Find) rfl rfl (Nat.zero_le _), ← key]
  clear key
  have lp : ∀ (ks : List It) (s : St), Lp (acall T (k + 1)) (k + 1) [0, 1, 4, 6] l_fuglemanref16_Find_0 (k + 1) ks s = Lh (acall T (k + 1)) (k + 1) (canon [0, 1, 4, 6] s) [0, 1, 4, 6] l_fuglemanref16_Find_0 k ks := fun ks s => lp_succ (n := k)
  unfold rbfin rbst
  generalize L.flatMap S63.av = cs at *
  generalize L.length = n at *
  simp -implicitDefEqProofs only [eqs, eqd, eqe, ↓reduceIte, reduceCtorEq, Nat.reduceEqDiff, Nat.reduceAdd, Nat.reduceSub, Nat.reduceMul, Nat.reduceLT, Nat.reduceLeDiff, Nat.reduceBEq, Nat.reduceBNe, Nat.reduceGT, Int.reduceEq, Int.reduceLT, Int.reduceLE, Int.reduceToNat, Int.reduceAdd, Int.reduceSub, Int.reduceMul, Int.reduceNeg, Int.reduceBEq, Int.reduceBNe, b_fuglemanref16_Find, g_fuglemanref16_Find_0, blkO, lp, Int.natCast_zero]
end Go.Proofs.Ytcfokbhmchcgbaa.Cfg

/- Numbers; Check of blocks, of both. -/
namespace Go.Proofs.Ytcfokbhmchcgbaa.Cfg
open Go Go.Proofs.Ytcfokbhmchcgbaa.Sym Go.Proofs.Ytcfokbhmchcgbaa.Tab Go.Proofs.Ytcfokbhmchcgbaa.Args
set_option linter.unusedVariables false
set_option linter.unusedSimpArgs false
set_option maxHeartbeats 4000000
set_option maxRecDepth 20000
def inn (x l h : Int) : Bool := decide (l ≤ x) && decide (x ≤ h)
theorem in_a (k : Nat) (x l h : Int) : acall T (k + 1) 21 0 [.v (.int .i64 x), .v (.int .i64 l), .v (.int .i64 h)] [] = some ⟨.v (.bool (inn x l h)), [], 0⟩ := by
  rw [acall_go (body := b_config_in) rfl rfl (Nat.zero_le _)]
  unfold inn
  by_cases c : l ≤ x
  · by_cases d : x ≤ h
    · simp -implicitDefEqProofs only [eqs, eqd, eqe, lh_some, ↓reduceIte, reduceCtorEq, Nat.reduceEqDiff, Nat.reduceAdd, Nat.reduceSub, Nat.reduceMul, Nat.reduceLT, Nat.reduceLeDiff, Nat.reduceBEq, Nat.reduceBNe, Nat.reduceGT, Int.reduceEq, Int.reduceLT, Int.reduceLE, Int.reduceToNat, Int.reduceAdd, Int.reduceSub, Int.reduceMul, Int.reduceNeg, Int.reduceBEq, Int.reduceBNe, b_config_in, c, d]
    · simp -implicitDefEqProofs only [eqs, eqd, eqe, lh_some, ↓reduceIte, reduceCtorEq, Nat.reduceEqDiff, Nat.reduceAdd, Nat.reduceSub, Nat.reduceMul, Nat.reduceLT, Nat.reduceLeDiff, Nat.reduceBEq, Nat.reduceBNe, Nat.reduceGT, Int.reduceEq, Int.reduceLT, Int.reduceLE, Int.reduceToNat, Int.reduceAdd, Int.reduceSub, Int.reduceMul, Int.reduceNeg, Int.reduceBEq, Int.reduceBNe, b_config_in, c, d]
  · simp -implicitDefEqProofs only [eqs, eqd, eqe, lh_some, ↓reduceIte, reduceCtorEq, Nat.reduceEqDiff, Nat.reduceAdd, Nat.reduceSub, Nat.reduceMul, Nat.reduceLT, Nat.reduceLeDiff, Nat.reduceBEq, Nat.reduceBNe, Nat.reduceGT, Int.reduceEq, Int.reduceLT, Int.reduceLE, Int.reduceToNat, Int.reduceAdd, Int.reduceSub, Int.reduceMul, Int.reduceNeg, Int.reduceBEq, Int.reduceBNe, b_config_in, c]
theorem rin_a (k : Nat) (x l h : Int) : acall T (k + 1) 23 0 [.v (.int .i64 x), .v (.int .i64 l), .v (.int .i64 h)] [] = some ⟨.v (.bool (inn x l h)), [], 0⟩ := by
  rw [acall_go (body := b_fuglemanref20_in) rfl rfl (Nat.zero_le _)]
  unfold inn
  by_cases c : l ≤ x
  · by_cases d : x ≤ h
    · simp -implicitDefEqProofs only [eqs, eqd, eqe, lh_some, ↓reduceIte, reduceCtorEq, Nat.reduceEqDiff, Nat.reduceAdd, Nat.reduceSub, Nat.reduceMul, Nat.reduceLT, Nat.reduceLeDiff, Nat.reduceBEq, Nat.reduceBNe, Nat.reduceGT, Int.reduceEq, Int.reduceLT, Int.reduceLE, Int.reduceToNat, Int.reduceAdd, Int.reduceSub, Int.reduceMul, Int.reduceNeg, Int.reduceBEq, Int.reduceBNe, b_fuglemanref20_in, c, d]
    · simp -implicitDefEqProofs only [eqs, eqd, eqe, lh_some, ↓reduceIte, reduceCtorEq, Nat.reduceEqDiff, Nat.reduceAdd, Nat.reduceSub, Nat.reduceMul, Nat.reduceLT, Nat.reduceLeDiff, Nat.reduceBEq, Nat.reduceBNe, Nat.reduceGT, Int.reduceEq, Int.reduceLT, Int.reduceLE, Int.reduceToNat, Int.reduceAdd, Int.reduceSub, Int.reduceMul, Int.reduceNeg, Int.reduceBEq, Int.reduceBNe, b_fuglemanref20_in, c, d]
  · simp -implicitDefEqProofs only [eqs, eqd, eqe, lh_some, ↓reduceIte, reduceCtorEq, Nat.reduceEqDiff, Nat.reduceAdd, Nat.reduceSub, Nat.reduceMul, Nat.reduceLT, Nat.reduceLeDiff, Nat.reduceBEq, Nat.reduceBNe, Nat.reduceGT, Int.reduceEq, Int.reduceLT, Int.reduceLE, Int.reduceToNat, Int.reduceAdd, Int.reduceSub, Int.reduceMul, Int.reduceNeg, Int.reduceBEq, Int.reduceBNe, b_fuglemanref20_in, c]
def num (c : Clu) : Bool := inn c.f0 4 50 && (inn c.f1 1 10000 && (inn c.f2 1 50 && (inn c.f3 0 3 && (inn c.f4 1 65535 && inn c.f5 0 31))))
theorem numbers_a (k : Nat) (c : Clu) : acall T (k + 2) 19 0 [.agg c.av] [] = some ⟨.v (.bool (num c)), [], 1⟩ := by
  rw [acall_go (body := b_config_numbers) rfl rfl (Nat.zero_le _)]
  unfold num
  have h0 := in_a k c.f0 4 50
  have h1 := in_a k c.f1 1 10000
  have h2 := in_a k c.f2 1 50
  have h3 := in_a k c.f3 0 3
  have h4 := in_a k c.f4 1 65535
  have h5 := in_a k c.f5 0 31
  generalize inn c.f0 4 50 = b0 at *
  generalize inn c.f1 1 10000 = b1 at *
  generalize inn c.f2 1 50 = b2 at *
  generalize inn c.f3 0 3 = b3 at *
  generalize inn c.f4 1 65535 = b4 at *
  generalize inn c.f5 0 31 = b5 at *
  cases b0
  · simp -implicitDefEqProofs only [eqs, eqd, eqe, lh_some, ↓reduceIte, reduceCtorEq, Nat.reduceEqDiff, Nat.reduceAdd, Nat.reduceSub, Nat.reduceMul, Nat.reduceLT, Nat.reduceLeDiff, Nat.reduceBEq, Nat.reduceBNe, Nat.reduceGT, Int.reduceEq, Int.reduceLT, Int.reduceLE, Int.reduceToNat, Int.reduceAdd, Int.reduceSub, Int.reduceMul, Int.reduceNeg, Int.reduceBEq, Int.reduceBNe, b_config_numbers, S25.av, h0]
  cases b1
  · simp -implicitDefEqProofs only [eqs, eqd, eqe, lh_some, ↓reduceIte, reduceCtorEq, Nat.reduceEqDiff, Nat.reduceAdd, Nat.reduceSub, Nat.reduceMul, Nat.reduceLT, Nat.reduceLeDiff, Nat.reduceBEq, Nat.reduceBNe, Nat.reduceGT, Int.reduceEq, Int.reduceLT, Int.reduceLE, Int.reduceToNat, Int.reduceAdd, Int.reduceSub, Int.reduceMul, Int.reduceNeg, Int.reduceBEq, Int.reduceBNe, b_config_numbers, S25.av, h0, h1]
  cases b2
  · simp -implicitDefEqProofs only [eqs, eqd, eqe, lh_some, ↓reduceIte, reduceCtorEq, Nat.reduceEqDiff, Nat.reduceAdd, Nat.reduceSub, Nat.reduceMul, Nat.reduceLT, Nat.reduceLeDiff, Nat.reduceBEq, Nat.reduceBNe, Nat.reduceGT, Int.reduceEq, Int.reduceLT, Int.reduceLE, Int.reduceToNat, Int.reduceAdd, Int.reduceSub, Int.reduceMul, Int.reduceNeg, Int.reduceBEq, Int.reduceBNe, b_config_numbers, S25.av, h0, h1, h2]
  cases b3
  · simp -implicitDefEqProofs only [eqs, eqd, eqe, lh_some, ↓reduceIte, reduceCtorEq, Nat.reduceEqDiff, Nat.reduceAdd, Nat.reduceSub, Nat.reduceMul, Nat.reduceLT, Nat.reduceLeDiff, Nat.reduceBEq, Nat.reduceBNe, Nat.reduceGT, Int.reduceEq, Int.reduceLT, Int.reduceLE, Int.reduceToNat, Int.reduceAdd, Int.reduceSub, Int.reduceMul, Int.reduceNeg, Int.reduceBEq, Int.reduceBNe, b_config_numbers, S25.av, h0, h1, h2, h3]
  cases b4
  · simp -implicitDefEqProofs only [eqs, eqd, eqe, lh_some, ↓reduceIte, reduceCtorEq, Nat.reduceEqDiff, Nat.reduceAdd, Nat.reduceSub, Nat.reduceMul, Nat.reduceLT, Nat.reduceLeDiff, Nat.reduceBEq, Nat.reduceBNe, Nat.reduceGT, Int.reduceEq, Int.reduceLT, Int.reduceLE, Int.reduceToNat, Int.reduceAdd, Int.reduceSub, Int.reduceMul, Int.reduceNeg, Int.reduceBEq, Int.reduceBNe, b_config_numbers, S25.av, h0, h1, h2, h3, h4]
  simp -implicitDefEqProofs only [eqs, eqd, eqe, lh_some, ↓reduceIte, reduceCtorEq, Nat.reduceEqDiff, Nat.reduceAdd, Nat.reduceSub, Nat.reduceMul, Nat.reduceLT, Nat.reduceLeDiff, Nat.reduceBEq, Nat.reduceBNe, Nat.reduceGT, Int.reduceEq, Int.reduceLT, Int.reduceLE, Int.reduceToNat, Int.reduceAdd, Int.reduceSub, Int.reduceMul, Int.reduceNeg, Int.reduceBEq, Int.reduceBNe, b_config_numbers, S25.av, h0, h1, h2, h3, h4, h5]
def pts (s : Int) : Int := if s < 1 ∨ 64 < s then 0 else (s + 15).tdiv 16
theorem parts_a (k : Nat) (s : Int) : acall T (k + 1) 48 0 [.v (.int .i64 s)] [] = some ⟨.v (.int .i64 (pts s)), [], 0⟩ := by
  rw [acall_go (body := b_blocks_Parts) rfl rfl (Nat.zero_le _)]
  unfold pts
  by_cases c : s < 1
  · rw [if_pos (Or.inl c)]
    simp -implicitDefEqProofs only [eqs, eqd, eqe, lh_some, ↓reduceIte, reduceCtorEq, Nat.reduceEqDiff, Nat.reduceAdd, Nat.reduceSub, Nat.reduceMul, Nat.reduceLT, Nat.reduceLeDiff, Nat.reduceBEq, Nat.reduceBNe, Nat.reduceGT, Int.reduceEq, Int.reduceLT, Int.reduceLE, Int.reduceToNat, Int.reduceAdd, Int.reduceSub, Int.reduceMul, Int.reduceNeg, Int.reduceBEq, Int.reduceBNe, b_blocks_Parts, c]
  by_cases d : 64 < s
  · rw [if_pos (Or.inr d)]
    simp -implicitDefEqProofs only [eqs, eqd, eqe, lh_some, ↓reduceIte, reduceCtorEq, Nat.reduceEqDiff, Nat.reduceAdd, Nat.reduceSub, Nat.reduceMul, Nat.reduceLT, Nat.reduceLeDiff, Nat.reduceBEq, Nat.reduceBNe, Nat.reduceGT, Int.reduceEq, Int.reduceLT, Int.reduceLE, Int.reduceToNat, Int.reduceAdd, Int.reduceSub, Int.reduceMul, Int.reduceNeg, Int.reduceBEq, Int.reduceBNe, b_blocks_Parts, c, d]
  rw [if_neg (by omega)]
  have w1 : IntKind.i64.wrap (s + 16) = s + 16 := w64 (by omega) (by omega)
  have w2 : IntKind.i64.wrap (s + 16 - 1) = s + 15 := by rw [w64 (by omega) (by omega)]; omega
  have w3 : IntKind.i64.wrap ((s + 15).tdiv 16) = (s + 15).tdiv 16 := by
    rw [Int.tdiv_eq_ediv_of_nonneg (by omega)]
    exact w64 (by omega) (by omega)
  simp -implicitDefEqProofs only [eqs, eqd, eqe, lh_some, ↓reduceIte, reduceCtorEq, Nat.reduceEqDiff, Nat.reduceAdd, Nat.reduceSub, Nat.reduceMul, Nat.reduceLT, Nat.reduceLeDiff, Nat.reduceBEq, Nat.reduceBNe, Nat.reduceGT, Int.reduceEq, Int.reduceLT, Int.reduceLE, Int.reduceToNat, Int.reduceAdd, Int.reduceSub, Int.reduceMul, Int.reduceNeg, Int.reduceBEq, Int.reduceBNe, b_blocks_Parts, c, d, w1, w2, w3]
def rgt (b : Blk) : Bool := decide (0 ≤ b.f0) && (decide (b.f0 < 16) && (decide (0 ≤ b.f1) && (decide (b.f1 < 32) && decide (0 < pts b.f2))))
theorem right_a (k : Nat) (b : Blk) : acall T (k + 2) 35 0 [.agg b.av] [] = some ⟨.v (.bool (rgt b)), [], 1⟩ := by
  rw [acall_go (body := b_blocks_right) rfl rfl (Nat.zero_le _)]
  unfold rgt
  have hp := parts_a k b.f2
  generalize pts b.f2 = p at *
  by_cases d0 : 0 ≤ b.f0
  · by_cases d1 : b.f0 < 16
    · by_cases d2 : 0 ≤ b.f1
      · by_cases d3 : b.f1 < 32
        · by_cases d4 : 0 < p
          · simp -implicitDefEqProofs only [eqs, eqd, eqe, lh_some, ↓reduceIte, reduceCtorEq, Nat.reduceEqDiff, Nat.reduceAdd, Nat.reduceSub, Nat.reduceMul, Nat.reduceLT, Nat.reduceLeDiff, Nat.reduceBEq, Nat.reduceBNe, Nat.reduceGT, Int.reduceEq, Int.reduceLT, Int.reduceLE, Int.reduceToNat, Int.reduceAdd, Int.reduceSub, Int.reduceMul, Int.reduceNeg, Int.reduceBEq, Int.reduceBNe, b_blocks_right, S63.av, hp, d0, d1, d2, d3, d4]
          · simp -implicitDefEqProofs only [eqs, eqd, eqe, lh_some, ↓reduceIte, reduceCtorEq, Nat.reduceEqDiff, Nat.reduceAdd, Nat.reduceSub, Nat.reduceMul, Nat.reduceLT, Nat.reduceLeDiff, Nat.reduceBEq, Nat.reduceBNe, Nat.reduceGT, Int.reduceEq, Int.reduceLT, Int.reduceLE, Int.reduceToNat, Int.reduceAdd, Int.reduceSub, Int.reduceMul, Int.reduceNeg, Int.reduceBEq, Int.reduceBNe, b_blocks_right, S63.av, hp, d0, d1, d2, d3, d4]
        · simp -implicitDefEqProofs only [eqs, eqd, eqe, lh_some, ↓reduceIte, reduceCtorEq, Nat.reduceEqDiff, Nat.reduceAdd, Nat.reduceSub, Nat.reduceMul, Nat.reduceLT, Nat.reduceLeDiff, Nat.reduceBEq, Nat.reduceBNe, Nat.reduceGT, Int.reduceEq, Int.reduceLT, Int.reduceLE, Int.reduceToNat, Int.reduceAdd, Int.reduceSub, Int.reduceMul, Int.reduceNeg, Int.reduceBEq, Int.reduceBNe, b_blocks_right, S63.av, hp, d0, d1, d2, d3]
      · simp -implicitDefEqProofs only [eqs, eqd, eqe, lh_some, ↓reduceIte, reduceCtorEq, Nat.reduceEqDiff, Nat.reduceAdd, Nat.reduceSub, Nat.reduceMul, Nat.reduceLT, Nat.reduceLeDiff, Nat.reduceBEq, Nat.reduceBNe, Nat.reduceGT, Int.reduceEq, Int.reduceLT, Int.reduceLE, Int.reduceToNat, Int.reduceAdd, Int.reduceSub, Int.reduceMul, Int.reduceNeg, Int.reduceBEq, Int.reduceBNe, b_blocks_right, S63.av, hp, d0, d1, d2]
    · simp -implicitDefEqProofs only [eqs, eqd, eqe, lh_some, ↓reduceIte, reduceCtorEq, Nat.reduceEqDiff, Nat.reduceAdd, Nat.reduceSub, Nat.reduceMul, Nat.reduceLT, Nat.reduceLeDiff, Nat.reduceBEq, Nat.reduceBNe, Nat.reduceGT, Int.reduceEq, Int.reduceLT, Int.reduceLE, Int.reduceToNat, Int.reduceAdd, Int.reduceSub, Int.reduceMul, Int.reduceNeg, Int.reduceBEq, Int.reduceBNe, b_blocks_right, S63.av, hp, d0, d1]
  · simp -implicitDefEqProofs only [eqs, eqd, eqe, lh_some, ↓reduceIte, reduceCtorEq, Nat.reduceEqDiff, Nat.reduceAdd, Nat.reduceSub, Nat.reduceMul, Nat.reduceLT, Nat.reduceLeDiff, Nat.reduceBEq, Nat.reduceBNe, Nat.reduceGT, Int.reduceEq, Int.reduceLT, Int.reduceLE, Int.reduceToNat, Int.reduceAdd, Int.reduceSub, Int.reduceMul, Int.reduceNeg, Int.reduceBEq, Int.reduceBNe, b_blocks_right, S63.av, hp, d0]
theorem pts_pos (s : Int) : 0 < pts s ↔ 1 ≤ s ∧ s ≤ 64 := by
  unfold pts
  by_cases c : s < 1 ∨ 64 < s
  · rw [if_pos c]; omega
  · rw [if_neg c, Int.tdiv_eq_ediv_of_nonneg (by omega)]; omega
/-- Is one of so many ahead, from one on, of that number? -/
def dupI {α : Type} (key : α → Int) (x : Int) (L : List α) : Nat → Nat → Bool
  | 0, _ => false
  | m + 1, k => if h : k < L.length then (if key L[k] = x then true else dupI key x L m (k + 1)) else false
theorem idx_dup {α : Type} (key : α → Int) (x : Int) (L : List α) (i : Nat) (hi : i < L.length) (hx : key L[i] = x) : ∀ m k, k + m = L.length → k ≤ i → (idx key x L m k < i ↔ dupI key x L (i - k) k = true) ∧ 0 ≤ idx key x L m k
  | 0, k, hk, hki => by omega
  | m + 1, k, hk, hki => by
    rw [idx, dif_pos (by omega)]
    by_cases e : k = i
    · subst e
      rw [if_pos hx, Nat.sub_self, dupI]
      refine ⟨⟨fun h => by omega, fun h => by cases h⟩, by omega⟩
    · obtain ⟨j, hj⟩ : ∃ j, i - k = j + 1 := ⟨i - k - 1, by omega⟩
      rw [hj, dupI, dif_pos (by omega)]
      by_cases c : key L[k] = x
      · rw [if_pos c, if_pos c]
        exact ⟨⟨fun _ => rfl, fun _ => by omega⟩, by omega⟩
      · rw [if_neg c, if_neg c]
        have := idx_dup key x L i hi hx m (k + 1) (by omega) (by omega)
        rw [show i - (k + 1) = j by omega] at this
        exact this
/-- From one on. -/
def bch (L : List Blk) : Nat → Nat → Int × Int
  | 0, _ => (0, 0)
  | m + 1, i => if h : i < L.length then (if rgt L[i] = false then (3, i) else if dupI (fun y => y.f0) L[i].f0 L i 0 = true then (14, i) else bch L m (i + 1)) else (0, 0)
def rE (r : Int × Int) : AV := .tup [.v (.int .i64 r.1), .v (.int .i64 r.2)]
def bcst (L : List Blk) (i d : Nat) : St := ⟨[(0, .shr L.length false (L.flatMap S63.av)), (9, .shr L.length false (L.flatMap S63.av)), (10, .v (.int .i64 L.length)), (11, .v (.int .i64 i))], [], d, []⟩
noncomputable abbrev bcfin (C : CT) (lf : Nat) (s : St) (N : Nat) : Option Res := FnR [.t 2, .t 3] false false (Lh C lf (some s) [0, 9, 10, 11] l_blocks_Check_0 N [.b 0, .c l_blocks_Check_1])
theorem bc_one (k : Nat) (hk : 250 ≤ k) (lf : Nat) (L : List Blk) (hL : L.length ≤ 250) (i : Nat) (hi : i < L.length) (d : Nat) (hd : d ≤ 1) (N : Nat) : bcfin (acall T (k + 3)) lf (bcst L i d) (N + 1) = if rgt L[i] = false then some ⟨rE (3, i), [], 1⟩ else if dupI (fun y => y.f0) L[i].f0 L i 0 = true then some ⟨rE (14, i), [], 1⟩ else bcfin (acall T (k + 3)) lf (bcst L (i + 1) 1) N := by
  have c1 : (i : Int) < L.length := by omega
  have c0 : (0 : Int) ≤ i := by omega
  have w1 : IntKind.i64.wrap ((i : Int) + 1) = i + 1 := w64 (by omega) (by omega)
  have h5 := chunk S63.av 4 blk_len L i hi
  have l5 : i * 4 + 4 ≤ L.length * 4 := by omega
  have hl := chunk_len S63.av 4 blk_len L
  have hr := right_a (k + 1) L[i]
  have hp := bplace_a k hk L hL L[i].f0
  have hj := (idx_dup (fun y : Blk => y.f0) L[i].f0 L i hi rfl L.length 0 (by omega) (by omega)).1
  rw [Nat.sub_zero] at hj
  generalize dupI (fun y : Blk => y.f0) L[i].f0 L i 0 = du at *
  generalize idx (fun y : Blk => y.f0) L[i].f0 L L.length 0 = j at *
  have hdd : d = 0 ∨ d = 1 := by omega
  unfold bcfin bcst rE
  rw [lh_as l_blocks_Check_0.eq_1]
  generalize L[i] = y at *
  generalize rgt y = ry at *
  generalize L.flatMap S63.av = cs at *
  generalize L.length = n at *
  simp only [S63.av] at hr
  cases ry
  · rw [if_pos rfl]
    rcases hdd with rfl | rfl
    · simp -implicitDefEqProofs only [eqs, eqd, eqe, ↓reduceIte, reduceCtorEq, Nat.reduceEqDiff, Nat.reduceAdd, Nat.reduceSub, Nat.reduceMul, Nat.reduceLT, Nat.reduceLeDiff, Nat.reduceBEq, Nat.reduceBNe, Nat.reduceGT, Int.reduceEq, Int.reduceLT, Int.reduceLE, Int.reduceToNat, Int.reduceAdd, Int.reduceSub, Int.reduceMul, Int.reduceNeg, Int.reduceBEq, Int.reduceBNe, nx_nil, S63.av, c0, c1, w1, h5, l5, hl, hr, hp, Int.toNat_natCast, Int.natCast_add]
    · simp -implicitDefEqProofs only [eqs, eqd, eqe, ↓reduceIte, reduceCtorEq, Nat.reduceEqDiff, Nat.reduceAdd, Nat.reduceSub, Nat.reduceMul, Nat.reduceLT, Nat.reduceLeDiff, Nat.reduceBEq, Nat.reduceBNe, Nat.reduceGT, Int.reduceEq, Int.reduceLT, Int.reduceLE, Int.reduceToNat, Int.reduceAdd, Int.reduceSub, Int.reduceMul, Int.reduceNeg, Int.reduceBEq, Int.reduceBNe, nx_nil, S63.av, c0, c1, w1, h5, l5, hl, hr, hp, Int.toNat_natCast, Int.natCast_add]
  rw [if_neg (by decide)]
  cases du
  · have hjn : ¬ j < (i : Int) := fun h => by simpa using hj.1 h
    rw [if_neg (by decide)]
    rcases hdd with rfl | rfl
    · simp -implicitDefEqProofs only [eqs, eqd, eqe, ↓reduceIte, reduceCtorEq, Nat.reduceEqDiff, Nat.reduceAdd, Nat.reduceSub, Nat.reduceMul, Nat.reduceLT, Nat.reduceLeDiff, Nat.reduceBEq, Nat.reduceBNe, Nat.reduceGT, Int.reduceEq, Int.reduceLT, Int.reduceLE, Int.reduceToNat, Int.reduceAdd, Int.reduceSub, Int.reduceMul, Int.reduceNeg, Int.reduceBEq, Int.reduceBNe, nx_nil, S63.av, c0, c1, w1, h5, l5, hl, hr, hp, Int.toNat_natCast, Int.natCast_add, hjn]
    · simp -implicitDefEqProofs only [eqs, eqd, eqe, ↓reduceIte, reduceCtorEq, Nat.reduceEqDiff, Nat.reduceAdd, Nat.reduceSub, Nat.reduceMul, Nat.reduceLT, Nat.reduceLeDiff, Nat.reduceBEq, Nat.reduceBNe, Nat.reduceGT, Int.reduceEq, Int.reduceLT, Int.reduceLE, Int.reduceToNat, Int.reduceAdd, Int.reduceSub, Int.reduceMul, Int.reduceNeg, Int.reduceBEq, Int.reduceBNe, nx_nil, S63.av, c0, c1, w1, h5, l5, hl, hr, hp, Int.toNat_natCast, Int.natCast_add, hjn]
  · have hjn : j < (i : Int) := hj.2 rfl
    rw [if_pos rfl]
    rcases hdd with rfl | rfl
    · simp -implicitDefEqProofs only [eqs, eqd, eqe, ↓reduceIte, reduceCtorEq, Nat.reduceEqDiff, Nat.reduceAdd, Nat.reduceSub, Nat.reduceMul, Nat.reduceLT, Nat.reduceLeDiff, Nat.reduceBEq, Nat.reduceBNe, Nat.reduceGT, Int.reduceEq, Int.reduceLT, Int.reduceLE, Int.reduceToNat, Int.reduceAdd, Int.reduceSub, Int.reduceMul, Int.reduceNeg, Int.reduceBEq, Int.reduceBNe, nx_nil, S63.av, c0, c1, w1, h5, l5, hl, hr, hp, Int.toNat_natCast, Int.natCast_add, hjn]
    · simp -implicitDefEqProofs only [eqs, eqd, eqe, ↓reduceIte, reduceCtorEq, Nat.reduceEqDiff, Nat.reduceAdd, Nat.reduceSub, Nat.reduceMul, Nat.reduceLT, Nat.reduceLeDiff, Nat.reduceBEq, Nat.reduceBNe, Nat.reduceGT, Int.reduceEq, Int.reduceLT, Int.reduceLE, Int.reduceToNat, Int.reduceAdd, Int.reduceSub, Int.reduceMul, Int.reduceNeg, Int.reduceBEq, Int.reduceBNe, nx_nil, S63.av, c0, c1, w1, h5, l5, hl, hr, hp, Int.toNat_natCast, Int.natCast_add, hjn]
theorem bc_end (C : CT) (lf : Nat) (L : List Blk) (d : Nat) (hd : d ≤ 1) (N : Nat) : bcfin C lf (bcst L L.length d) N = some ⟨rE (0, 0), [], d⟩ := by
  have c1 : ¬ (L.length : Int) < L.length := by omega
  have hdd : d = 0 ∨ d = 1 := by omega
  unfold bcfin bcst rE
  rw [lh_as l_blocks_Check_0.eq_1]
  generalize L.flatMap S63.av = cs at *
  rcases hdd with rfl | rfl
  · simp -implicitDefEqProofs only [eqs, eqd, eqe, ↓reduceIte, reduceCtorEq, Nat.reduceEqDiff, Nat.reduceAdd, Nat.reduceSub, Nat.reduceMul, Nat.reduceLT, Nat.reduceLeDiff, Nat.reduceBEq, Nat.reduceBNe, Nat.reduceGT, Int.reduceEq, Int.reduceLT, Int.reduceLE, Int.reduceToNat, Int.reduceAdd, Int.reduceSub, Int.reduceMul, Int.reduceNeg, Int.reduceBEq, Int.reduceBNe, nx_nil, l_blocks_Check_1, c1]
  · simp -implicitDefEqProofs only [eqs, eqd, eqe, ↓reduceIte, reduceCtorEq, Nat.reduceEqDiff, Nat.reduceAdd, Nat.reduceSub, Nat.reduceMul, Nat.reduceLT, Nat.reduceLeDiff, Nat.reduceBEq, Nat.reduceBNe, Nat.reduceGT, Int.reduceEq, Int.reduceLT, Int.reduceLE, Int.reduceToNat, Int.reduceAdd, Int.reduceSub, Int.reduceMul, Int.reduceNeg, Int.reduceBEq, Int.reduceBNe, nx_nil, l_blocks_Check_1, c1]
theorem bc_run (k : Nat) (hk : 250 ≤ k) (lf : Nat) (L : List Blk) (hL : L.length ≤ 250) : ∀ (m i d N : Nat), i + m = L.length → m ≤ N → d ≤ 1 → ∃ d', d' ≤ 1 ∧ bcfin (acall T (k + 3)) lf (bcst L i d) N = some ⟨rE (bch L m i), [], d'⟩
  | 0, i, d, N, hi, hN, hd => by
    obtain rfl : i = L.length := by omega
    exact ⟨d, hd, bc_end _ lf L d hd N⟩
  | m + 1, i, d, N, hi, hN, hd => by
    obtain ⟨N, rfl⟩ : ∃ M, N = M + 1 := ⟨N - 1, by omega⟩
    have h : i < L.length := by omega
    rw [bc_one k hk lf L hL i h d hd N, bch, dif_pos h]
    by_cases e : rgt L[i] = false
    · rw [if_pos e, if_pos e]
      exact ⟨1, Nat.le_refl _, rfl⟩
    rw [if_neg e, if_neg e]
    by_cases e2 : dupI (fun y => y.f0) L[i].f0 L i 0 = true
    · rw [if_pos e2, if_pos e2]
      exact ⟨1, Nat.le_refl _, rfl⟩
    rw [if_neg e2, if_neg e2]
    exact bc_run k hk lf L hL m (i + 1) 1 N (by omega) (by omega) (Nat.le_refl _)
def bcR (L : List Blk) : Int × Int := if 16 < L.length then (2, 16) else bch L L.length 0
theorem bcheck_a (k : Nat) (hk : 250 ≤ k) (L : List Blk) (hL : L.length ≤ 250) : ∃ d, d ≤ 1 ∧ acall T (k + 4) 20 0 [.shr L.length false (L.flatMap S63.av)] [] = some ⟨rE (bcR L), [], d⟩ := by
  unfold bcR
  by_cases c : 16 < L.length
  · have c' : (16 : Int) < L.length := by omega
    rw [if_pos c]
    refine ⟨0, by omega, ?_⟩
    rw [acall_go (body := b_blocks_Check) rfl rfl (Nat.zero_le _)]
    unfold rE
    simp -implicitDefEqProofs only [eqs, eqd, eqe, lh_some, ↓reduceIte, reduceCtorEq, Nat.reduceEqDiff, Nat.reduceAdd, Nat.reduceSub, Nat.reduceMul, Nat.reduceLT, Nat.reduceLeDiff, Nat.reduceBEq, Nat.reduceBNe, Nat.reduceGT, Int.reduceEq, Int.reduceLT, Int.reduceLE, Int.reduceToNat, Int.reduceAdd, Int.reduceSub, Int.reduceMul, Int.reduceNeg, Int.reduceBEq, Int.reduceBNe, b_blocks_Check, c']
  · have c' : ¬ (16 : Int) < L.length := by omega
    rw [if_neg c]
    obtain ⟨d, h1, h2⟩ := bc_run k hk (k + 3) L hL L.length 0 0 (k + 2) (by omega) (by omega) (by omega)
    refine ⟨d, h1, ?_⟩
    rw [acall_go (body := b_blocks_Check) rfl rfl (Nat.zero_le _), ← h2]
    clear h2
    have lp : ∀ (ks : List It) (s : St), Lp (acall T (k + 3)) (k + 3) [0, 9, 10, 11] l_blocks_Check_0 (k + 3) ks s = Lh (acall T (k + 3)) (k + 3) (canon [0, 9, 10, 11] s) [0, 9, 10, 11] l_blocks_Check_0 (k + 2) ks := fun ks s => lp_succ (n := k + 2)
    unfold bcfin bcst
    generalize L.flatMap S63.av = cs at *
    generalize L.length = n at *
    simp -implicitDefEqProofs only [eqs, eqd, eqe, ↓reduceIte, reduceCtorEq, Nat.reduceEqDiff, Nat.reduceAdd, Nat.reduceSub, Nat.reduceMul, Nat.reduceLT, Nat.reduceLeDiff, Nat.reduceBEq, Nat.reduceBNe, Nat.reduceGT, Int.reduceEq, Int.reduceLT, Int.reduceLE, Int.reduceToNat, Int.reduceAdd, Int.reduceSub, Int.reduceMul, Int.reduceNeg, Int.reduceBEq, Int.reduceBNe, b_blocks_Check, c', lp, Int.natCast_zero]
/-! the document's -/
def rcst (L : List Blk) (i d : Nat) : St := ⟨[(0, .shr L.length false (L.flatMap S63.av)), (4, .v (.int .i64 i))], [], d, []⟩
def rcin (L : List Blk) (i : Nat) (y : Blk) (k : Nat) : St := ⟨[(0, .shr L.length false (L.flatMap S63.av)), (4, .v (.int .i64 i)), (5, .ptr 0 0), (6, .v (.int .i64 k))], [⟨true, true, true, y.av⟩], 1, []⟩
abbrev rcK (ks : List It) (N : Nat) : List It := .b 2 :: .b 1 :: .c l_fuglemanref16_Check_2 :: .l [0, 4] l_fuglemanref16_Check_0 (N + 1) :: ks
abbrev rcE : List It := [.b 0, .c l_fuglemanref16_Check_3]
theorem rc_in (C : CT) (lf : Nat) (L : List Blk) (hL : L.length ≤ 250) (i : Nat) (hi : i < L.length) (N : Nat) : ∀ (m k N1 : Nat), k + m = i → m ≤ N1 → FnR [.t 2, .t 3] false false (Lh C lf (some (rcin L i L[i] k)) [0, 4, 5, 6] l_fuglemanref16_Check_1 N1 (rcK rcE N)) = if dupI (fun y => y.f0) L[i].f0 L m k = true then some ⟨rE (14, i), [], 1⟩ else FnR [.t 2, .t 3] false false (Lh C lf (some (rcst L (i + 1) 1)) [0, 4] l_fuglemanref16_Check_0 N rcE)
  | 0, k, N1, hk, hN => by
    obtain rfl : k = i := by omega
    have c1 : ¬ (k : Int) < k := by omega
    have w1 : IntKind.i64.wrap ((k : Int) + 1) = k + 1 := w64 (by omega) (by omega)
    rw [dupI, if_neg (by decide)]
    unfold rcin rcst
    rw [lh_as l_fuglemanref16_Check_1.eq_1]
    generalize L[k] = y at *
    generalize L.flatMap S63.av = cs at *
    generalize L.length = n at *
    simp -implicitDefEqProofs only [eqs, eqd, eqe, ↓reduceIte, reduceCtorEq, Nat.reduceEqDiff, Nat.reduceAdd, Nat.reduceSub, Nat.reduceMul, Nat.reduceLT, Nat.reduceLeDiff, Nat.reduceBEq, Nat.reduceBNe, Nat.reduceGT, Int.reduceEq, Int.reduceLT, Int.reduceLE, Int.reduceToNat, Int.reduceAdd, Int.reduceSub, Int.reduceMul, Int.reduceNeg, Int.reduceBEq, Int.reduceBNe, nx_nil, l_fuglemanref16_Check_2, S63.av, c1, w1, Int.natCast_add]
  | m + 1, k, N1, hk, hN => by
    obtain ⟨N1, rfl⟩ : ∃ M, N1 = M + 1 := ⟨N1 - 1, by omega⟩
    have hkl : k < L.length := by omega
    have c1 : (k : Int) < i := by omega
    have c0 : (0 : Int) ≤ k := by omega
    have c2 : (k : Int) < L.length := by omega
    have w1 : IntKind.i64.wrap ((k : Int) + 1) = k + 1 := w64 (by omega) (by omega)
    have h0 : (L.flatMap S63.av)[k * 4]? = (L[k].av)[0]? := chunk_at S63.av 4 blk_len L k hkl 0 (by decide)
    have ih := rc_in C lf L hL i hi N m (k + 1) N1 (by omega) (by omega)
    rw [dupI, dif_pos hkl]
    unfold rcin at ih ⊢
    rw [lh_as l_fuglemanref16_Check_1.eq_1]
    by_cases e : L[k].f0 = L[i].f0
    · have e' : (L[k].f0 == L[i].f0) = true := by simpa using e
      rw [if_pos e, if_pos rfl]
      clear ih
      unfold rE
      generalize L[k] = z at *
      generalize L[i] = y at *
      generalize L.flatMap S63.av = cs at *
      generalize L.length = n at *
      simp only [S63.av, List.getElem?_cons_zero] at h0
      simp -implicitDefEqProofs only [eqs, eqd, eqe, ↓reduceIte, reduceCtorEq, Nat.reduceEqDiff, Nat.reduceAdd, Nat.reduceSub, Nat.reduceMul, Nat.reduceLT, Nat.reduceLeDiff, Nat.reduceBEq, Nat.reduceBNe, Nat.reduceGT, Int.reduceEq, Int.reduceLT, Int.reduceLE, Int.reduceToNat, Int.reduceAdd, Int.reduceSub, Int.reduceMul, Int.reduceNeg, Int.reduceBEq, Int.reduceBNe, nx_nil, S63.av, c0, c1, c2, w1, h0, e', Int.toNat_natCast]
    · have e' : (L[k].f0 == L[i].f0) = false := by simpa using e
      rw [if_neg e, ← ih]
      clear ih
      generalize L[k] = z at *
      generalize L[i] = y at *
      generalize L.flatMap S63.av = cs at *
      generalize L.length = n at *
      simp only [S63.av, List.getElem?_cons_zero] at h0
      simp -implicitDefEqProofs only [eqs, eqd, eqe, ↓reduceIte, reduceCtorEq, Nat.reduceEqDiff, Nat.reduceAdd, Nat.reduceSub, Nat.reduceMul, Nat.reduceLT, Nat.reduceLeDiff, Nat.reduceBEq, Nat.reduceBNe, Nat.reduceGT, Int.reduceEq, Int.reduceLT, Int.reduceLE, Int.reduceToNat, Int.reduceAdd, Int.reduceSub, Int.reduceMul, Int.reduceNeg, Int.reduceBEq, Int.reduceBNe, nx_nil, S63.av, c0, c1, c2, w1, h0, e', Int.toNat_natCast, Int.natCast_add]
theorem rc_one (C : CT) (n : Nat) (hn : 250 ≤ n) (L : List Blk) (hL : L.length ≤ 250) (i : Nat) (hi : i < L.length) (d : Nat) (hd : d ≤ 1) (N : Nat) : FnR [.t 2, .t 3] false false (Lh C (n + 1) (some (rcst L i d)) [0, 4] l_fuglemanref16_Check_0 (N + 1) rcE) = if rgt L[i] = false then some ⟨rE (3, i), [], 1⟩ else if dupI (fun y => y.f0) L[i].f0 L i 0 = true then some ⟨rE (14, i), [], 1⟩ else FnR [.t 2, .t 3] false false (Lh C (n + 1) (some (rcst L (i + 1) 1)) [0, 4] l_fuglemanref16_Check_0 N rcE) := by
  have key := rc_in C (n + 1) L hL i hi N i 0 n (by omega) (by omega)
  rw [← key]
  clear key
  have c1 : (i : Int) < L.length := by omega
  have c0 : (0 : Int) ≤ i := by omega
  have h5 := chunk S63.av 4 blk_len L i hi
  have l5 : i * 4 + 4 ≤ L.length * 4 := by omega
  have hl := chunk_len S63.av 4 blk_len L
  have hdd : d = 0 ∨ d = 1 := by omega
  have hp := pts_pos L[i].f2
  unfold rcst rcin rE
  rw [lh_as l_fuglemanref16_Check_0.eq_1]
  generalize L[i] = y at *
  generalize L.flatMap S63.av = cs at *
  generalize L.length = q at *
  unfold rgt
  by_cases d0 : y.f0 < 0
  · rw [if_pos (by simp; omega)]
    rcases hdd with rfl | rfl
    · simp -implicitDefEqProofs only [eqs, eqd, eqe, ↓reduceIte, reduceCtorEq, Nat.reduceEqDiff, Nat.reduceAdd, Nat.reduceSub, Nat.reduceMul, Nat.reduceLT, Nat.reduceLeDiff, Nat.reduceBEq, Nat.reduceBNe, Nat.reduceGT, Int.reduceEq, Int.reduceLT, Int.reduceLE, Int.reduceToNat, Int.reduceAdd, Int.reduceSub, Int.reduceMul, Int.reduceNeg, Int.reduceBEq, Int.reduceBNe, nx_nil, S63.av, c0, c1, h5, l5, hl, Int.toNat_natCast, d0]
    · simp -implicitDefEqProofs only [eqs, eqd, eqe, ↓reduceIte, reduceCtorEq, Nat.reduceEqDiff, Nat.reduceAdd, Nat.reduceSub, Nat.reduceMul, Nat.reduceLT, Nat.reduceLeDiff, Nat.reduceBEq, Nat.reduceBNe, Nat.reduceGT, Int.reduceEq, Int.reduceLT, Int.reduceLE, Int.reduceToNat, Int.reduceAdd, Int.reduceSub, Int.reduceMul, Int.reduceNeg, Int.reduceBEq, Int.reduceBNe, nx_nil, S63.av, c0, c1, h5, l5, hl, Int.toNat_natCast, d0]
  by_cases d1 : 15 < y.f0
  · rw [if_pos (by simp; omega)]
    rcases hdd with rfl | rfl
    · simp -implicitDefEqProofs only [eqs, eqd, eqe, ↓reduceIte, reduceCtorEq, Nat.reduceEqDiff, Nat.reduceAdd, Nat.reduceSub, Nat.reduceMul, Nat.reduceLT, Nat.reduceLeDiff, Nat.reduceBEq, Nat.reduceBNe, Nat.reduceGT, Int.reduceEq, Int.reduceLT, Int.reduceLE, Int.reduceToNat, Int.reduceAdd, Int.reduceSub, Int.reduceMul, Int.reduceNeg, Int.reduceBEq, Int.reduceBNe, nx_nil, S63.av, c0, c1, h5, l5, hl, Int.toNat_natCast, d0, d1]
    · simp -implicitDefEqProofs only [eqs, eqd, eqe, ↓reduceIte, reduceCtorEq, Nat.reduceEqDiff, Nat.reduceAdd, Nat.reduceSub, Nat.reduceMul, Nat.reduceLT, Nat.reduceLeDiff, Nat.reduceBEq, Nat.reduceBNe, Nat.reduceGT, Int.reduceEq, Int.reduceLT, Int.reduceLE, Int.reduceToNat, Int.reduceAdd, Int.reduceSub, Int.reduceMul, Int.reduceNeg, Int.reduceBEq, Int.reduceBNe, nx_nil, S63.av, c0, c1, h5, l5, hl, Int.toNat_natCast, d0, d1]
  by_cases d2 : y.f1 < 0
  · rw [if_pos (by simp; omega)]
    rcases hdd with rfl | rfl
    · simp -implicitDefEqProofs only [eqs, eqd, eqe, ↓reduceIte, reduceCtorEq, Nat.reduceEqDiff, Nat.reduceAdd, Nat.reduceSub, Nat.reduceMul, Nat.reduceLT, Nat.reduceLeDiff, Nat.reduceBEq, Nat.reduceBNe, Nat.reduceGT, Int.reduceEq, Int.reduceLT, Int.reduceLE, Int.reduceToNat, Int.reduceAdd, Int.reduceSub, Int.reduceMul, Int.reduceNeg, Int.reduceBEq, Int.reduceBNe, nx_nil, S63.av, c0, c1, h5, l5, hl, Int.toNat_natCast, d0, d1, d2]
    · simp -implicitDefEqProofs only [eqs, eqd, eqe, ↓reduceIte, reduceCtorEq, Nat.reduceEqDiff, Nat.reduceAdd, Nat.reduceSub, Nat.reduceMul, Nat.reduceLT, Nat.reduceLeDiff, Nat.reduceBEq, Nat.reduceBNe, Nat.reduceGT, Int.reduceEq, Int.reduceLT, Int.reduceLE, Int.reduceToNat, Int.reduceAdd, Int.reduceSub, Int.reduceMul, Int.reduceNeg, Int.reduceBEq, Int.reduceBNe, nx_nil, S63.av, c0, c1, h5, l5, hl, Int.toNat_natCast, d0, d1, d2]
  by_cases d3 : 31 < y.f1
  · rw [if_pos (by simp; omega)]
    rcases hdd with rfl | rfl
    · simp -implicitDefEqProofs only [eqs, eqd, eqe, ↓reduceIte, reduceCtorEq, Nat.reduceEqDiff, Nat.reduceAdd, Nat.reduceSub, Nat.reduceMul, Nat.reduceLT, Nat.reduceLeDiff, Nat.reduceBEq, Nat.reduceBNe, Nat.reduceGT, Int.reduceEq, Int.reduceLT, Int.reduceLE, Int.reduceToNat, Int.reduceAdd, Int.reduceSub, Int.reduceMul, Int.reduceNeg, Int.reduceBEq, Int.reduceBNe, nx_nil, S63.av, c0, c1, h5, l5, hl, Int.toNat_natCast, d0, d1, d2, d3]
    · simp -implicitDefEqProofs only [eqs, eqd, eqe, ↓reduceIte, reduceCtorEq, Nat.reduceEqDiff, Nat.reduceAdd, Nat.reduceSub, Nat.reduceMul, Nat.reduceLT, Nat.reduceLeDiff, Nat.reduceBEq, Nat.reduceBNe, Nat.reduceGT, Int.reduceEq, Int.reduceLT, Int.reduceLE, Int.reduceToNat, Int.reduceAdd, Int.reduceSub, Int.reduceMul, Int.reduceNeg, Int.reduceBEq, Int.reduceBNe, nx_nil, S63.av, c0, c1, h5, l5, hl, Int.toNat_natCast, d0, d1, d2, d3]
  by_cases d4 : y.f2 < 1
  · rw [if_pos (by simp; omega)]
    rcases hdd with rfl | rfl
    · simp -implicitDefEqProofs only [eqs, eqd, eqe, ↓reduceIte, reduceCtorEq, Nat.reduceEqDiff, Nat.reduceAdd, Nat.reduceSub, Nat.reduceMul, Nat.reduceLT, Nat.reduceLeDiff, Nat.reduceBEq, Nat.reduceBNe, Nat.reduceGT, Int.reduceEq, Int.reduceLT, Int.reduceLE, Int.reduceToNat, Int.reduceAdd, Int.reduceSub, Int.reduceMul, Int.reduceNeg, Int.reduceBEq, Int.reduceBNe, nx_nil, S63.av, c0, c1, h5, l5, hl, Int.toNat_natCast, d0, d1, d2, d3, d4]
    · simp -implicitDefEqProofs only [eqs, eqd, eqe, ↓reduceIte, reduceCtorEq, Nat.reduceEqDiff, Nat.reduceAdd, Nat.reduceSub, Nat.reduceMul, Nat.reduceLT, Nat.reduceLeDiff, Nat.reduceBEq, Nat.reduceBNe, Nat.reduceGT, Int.reduceEq, Int.reduceLT, Int.reduceLE, Int.reduceToNat, Int.reduceAdd, Int.reduceSub, Int.reduceMul, Int.reduceNeg, Int.reduceBEq, Int.reduceBNe, nx_nil, S63.av, c0, c1, h5, l5, hl, Int.toNat_natCast, d0, d1, d2, d3, d4]
  by_cases d5 : 64 < y.f2
  · rw [if_pos (by simp; omega)]
    rcases hdd with rfl | rfl
    · simp -implicitDefEqProofs only [eqs, eqd, eqe, ↓reduceIte, reduceCtorEq, Nat.reduceEqDiff, Nat.reduceAdd, Nat.reduceSub, Nat.reduceMul, Nat.reduceLT, Nat.reduceLeDiff, Nat.reduceBEq, Nat.reduceBNe, Nat.reduceGT, Int.reduceEq, Int.reduceLT, Int.reduceLE, Int.reduceToNat, Int.reduceAdd, Int.reduceSub, Int.reduceMul, Int.reduceNeg, Int.reduceBEq, Int.reduceBNe, nx_nil, S63.av, c0, c1, h5, l5, hl, Int.toNat_natCast, d0, d1, d2, d3, d4, d5]
    · simp -implicitDefEqProofs only [eqs, eqd, eqe, ↓reduceIte, reduceCtorEq, Nat.reduceEqDiff, Nat.reduceAdd, Nat.reduceSub, Nat.reduceMul, Nat.reduceLT, Nat.reduceLeDiff, Nat.reduceBEq, Nat.reduceBNe, Nat.reduceGT, Int.reduceEq, Int.reduceLT, Int.reduceLE, Int.reduceToNat, Int.reduceAdd, Int.reduceSub, Int.reduceMul, Int.reduceNeg, Int.reduceBEq, Int.reduceBNe, nx_nil, S63.av, c0, c1, h5, l5, hl, Int.toNat_natCast, d0, d1, d2, d3, d4, d5]
  rw [if_neg (by simp; omega)]
  rcases hdd with rfl | rfl
  · simp -implicitDefEqProofs only [eqs, eqd, eqe, ↓reduceIte, reduceCtorEq, Nat.reduceEqDiff, Nat.reduceAdd, Nat.reduceSub, Nat.reduceMul, Nat.reduceLT, Nat.reduceLeDiff, Nat.reduceBEq, Nat.reduceBNe, Nat.reduceGT, Int.reduceEq, Int.reduceLT, Int.reduceLE, Int.reduceToNat, Int.reduceAdd, Int.reduceSub, Int.reduceMul, Int.reduceNeg, Int.reduceBEq, Int.reduceBNe, nx_nil, S63.av, c0, c1, h5, l5, hl, Int.toNat_natCast, d0, d1, d2, d3, d4, d5, Int.natCast_zero]
  · simp -implicitDefEqProofs only [eqs, eqd, eqe, ↓reduceIte, reduceCtorEq, Nat.reduceEqDiff, Nat.reduceAdd, Nat.reduceSub, Nat.reduceMul, Nat.reduceLT, Nat.reduceLeDiff, Nat.reduceBEq, Nat.reduceBNe, Nat.reduceGT, Int.reduceEq, Int.reduceLT, Int.reduceLE, Int.reduceToNat, Int.reduceAdd, Int.reduceSub, Int.reduceMul, Int.reduceNeg, Int.reduceBEq, Int.reduceBNe, nx_nil, S63.av, c0, c1, h5, l5, hl, Int.toNat_natCast, d0, d1, d2, d3, d4, d5, Int.natCast_zero]
theorem rc_run (C : CT) (n : Nat) (hn : 250 ≤ n) (L : List Blk) (hL : L.length ≤ 250) : ∀ (m i d N : Nat), i + m = L.length → m ≤ N → d ≤ 1 → ∃ d', d' ≤ 1 ∧ FnR [.t 2, .t 3] false false (Lh C (n + 1) (some (rcst L i d)) [0, 4] l_fuglemanref16_Check_0 N rcE) = some ⟨rE (bch L m i), [], d'⟩
  | 0, i, d, N, hi, hN, hd => by
    obtain rfl : i = L.length := by omega
    refine ⟨d, hd, ?_⟩
    have c1 : ¬ (L.length : Int) < L.length := by omega
    have hdd : d = 0 ∨ d = 1 := by omega
    rw [bch]
    unfold rcst rE
    rw [lh_as l_fuglemanref16_Check_0.eq_1]
    generalize L.flatMap S63.av = cs at *
    rcases hdd with rfl | rfl
    · simp -implicitDefEqProofs only [eqs, eqd, eqe, ↓reduceIte, reduceCtorEq, Nat.reduceEqDiff, Nat.reduceAdd, Nat.reduceSub, Nat.reduceMul, Nat.reduceLT, Nat.reduceLeDiff, Nat.reduceBEq, Nat.reduceBNe, Nat.reduceGT, Int.reduceEq, Int.reduceLT, Int.reduceLE, Int.reduceToNat, Int.reduceAdd, Int.reduceSub, Int.reduceMul, Int.reduceNeg, Int.reduceBEq, Int.reduceBNe, nx_nil, l_fuglemanref16_Check_3, c1]
    · simp -implicitDefEqProofs only [eqs, eqd, eqe, ↓reduceIte, reduceCtorEq, Nat.reduceEqDiff, Nat.reduceAdd, Nat.reduceSub, Nat.reduceMul, Nat.reduceLT, Nat.reduceLeDiff, Nat.reduceBEq, Nat.reduceBNe, Nat.reduceGT, Int.reduceEq, Int.reduceLT, Int.reduceLE, Int.reduceToNat, Int.reduceAdd, Int.reduceSub, Int.reduceMul, Int.reduceNeg, Int.reduceBEq, Int.reduceBNe, nx_nil, l_fuglemanref16_Check_3, c1]
  | m + 1, i, d, N, hi, hN, hd => by
    obtain ⟨N, rfl⟩ : ∃ M, N = M + 1 := ⟨N - 1, by omega⟩
    have h : i < L.length := by omega
    rw [rc_one C n hn L hL i h d hd N, bch, dif_pos h]
    by_cases e : rgt L[i] = false
    · rw [if_pos e, if_pos e]
      exact ⟨1, Nat.le_refl _, rfl⟩
    rw [if_neg e, if_neg e]
    by_cases e2 : dupI (fun y => y.f0) L[i].f0 L i 0 = true
    · rw [if_pos e2, if_pos e2]
      exact ⟨1, Nat.le_refl _, rfl⟩
    rw [if_neg e2, if_neg e2]
    exact rc_run C n hn L hL m (i + 1) 1 N (by omega) (by omega) (Nat.le_refl _)
theorem rbcheck_a (k : Nat) (hk : 250 ≤ k) (L : List Blk) (hL : L.length ≤ 250) : ∃ d, d ≤ 1 ∧ acall T (k + 2) 24 0 [.shr L.length false (L.flatMap S63.av)] [] = some ⟨rE (bcR L), [], d⟩ := by
  unfold bcR
  by_cases c : 16 < L.length
  · have c' : (16 : Int) < L.length := by omega
    rw [if_pos c]
    refine ⟨0, by omega, ?_⟩
    rw [acall_go (body := b_fuglemanref16_Check) rfl rfl (Nat.zero_le _)]
    unfold rE
    simp -implicitDefEqProofs only [eqs, eqd, eqe, lh_some, ↓reduceIte, reduceCtorEq, Nat.reduceEqDiff, Nat.reduceAdd, Nat.reduceSub, Nat.reduceMul, Nat.reduceLT, Nat.reduceLeDiff, Nat.reduceBEq, Nat.reduceBNe, Nat.reduceGT, Int.reduceEq, Int.reduceLT, Int.reduceLE, Int.reduceToNat, Int.reduceAdd, Int.reduceSub, Int.reduceMul, Int.reduceNeg, Int.reduceBEq, Int.reduceBNe, b_fuglemanref16_Check, c']
  · have c' : ¬ (16 : Int) < L.length := by omega
    rw [if_neg c]
    obtain ⟨d, h1, h2⟩ := rc_run (acall T (k + 1)) k hk L hL L.length 0 0 k (by omega) (by omega) (by omega)
    refine ⟨d, h1, ?_⟩
    rw [acall_go (body := b_fuglemanref16_Check) rfl rfl (Nat.zero_le _), ← h2]
    clear h2
    have lp : ∀ (ks : List It) (s : St), Lp (acall T (k + 1)) (k + 1) [0, 4] l_fuglemanref16_Check_0 (k + 1) ks s = Lh (acall T (k + 1)) (k + 1) (canon [0, 4] s) [0, 4] l_fuglemanref16_Check_0 k ks := fun ks s => lp_succ (n := k)
    unfold rcst
    generalize L.flatMap S63.av = cs at *
    generalize L.length = n at *
    simp -implicitDefEqProofs only [eqs, eqd, eqe, ↓reduceIte, reduceCtorEq, Nat.reduceEqDiff, Nat.reduceAdd, Nat.reduceSub, Nat.reduceMul, Nat.reduceLT, Nat.reduceLeDiff, Nat.reduceBEq, Nat.reduceBNe, Nat.reduceGT, Int.reduceEq, Int.reduceLT, Int.reduceLE, Int.reduceToNat, Int.reduceAdd, Int.reduceSub, Int.reduceMul, Int.reduceNeg, Int.reduceBEq, Int.reduceBNe, b_fuglemanref16_Check, c', lp, Int.natCast_zero]
end Go.Proofs.Ytcfokbhmchcgbaa.Cfg

/- A spot: is it one of those ahead? its block, or the error. -/
namespace Go.Proofs.Ytcfokbhmchcgbaa.Cfg
open Go Go.Proofs.Ytcfokbhmchcgbaa.Sym Go.Proofs.Ytcfokbhmchcgbaa.Tab Go.Proofs.Ytcfokbhmchcgbaa.Args
set_option linter.unusedVariables false
set_option linter.unusedSimpArgs false
set_option maxHeartbeats 4000000
set_option maxRecDepth 20000
abbrev yo (x : Spt) : Sym.Obj := ⟨true, false, true, [.v (.int .i64 x.f0), .v (.int .i64 x.f1)]⟩
/-! a spot -/
theorem clo_Spo (k : Nat) (y : Spt) (x : Spt) : acall T (k + 1) 73 1 [.agg y.av, .ptr 0 0] [yo x] = some ⟨.v (.bool (y.f0 == x.f0)), [yo x], 1⟩ := by
  rw [acall_go (body := b_image_spot_1) rfl rfl (Nat.le_refl 1)]
  simp -implicitDefEqProofs only [eqs, eqd, eqe, lh_some, ↓reduceIte, reduceCtorEq, Nat.reduceEqDiff, Nat.reduceAdd, Nat.reduceSub, Nat.reduceMul, Nat.reduceLT, Nat.reduceLeDiff, Nat.reduceBEq, Nat.reduceBNe, Nat.reduceGT, Int.reduceEq, Int.reduceLT, Int.reduceLE, Int.reduceToNat, Int.reduceAdd, Int.reduceSub, Int.reduceMul, Int.reduceNeg, Int.reduceBEq, Int.reduceBNe, b_image_spot_1, S56.av, yo]
def ist_Spo (L : List Spt) (x : Spt) (i d : Nat) : St := ⟨[(0, .shr L.length false (L.flatMap S56.av)), (1, .fn 73 [.ptr 0 0]), (7, .v (.int .i64 L.length)), (8, .v (.int .i64 i))], [yo x], d, [0]⟩
noncomputable abbrev ifin_Spo (k lf : Nat) (s : St) (N : Nat) : Option Res := FnR [.t 4] false false (Lh (acall T (k + 1)) lf (some s) [0, 1, 7, 8] l_api_Spot_47_0 N [.b 0, .c l_api_Spot_47_1])
theorem idx_one_Spo (k lf : Nat) (L : List Spt) (hL : L.length ≤ 250) (x : Spt) (i : Nat) (hi : i < L.length) (d : Nat) (hd : d ≤ 1) (N : Nat) : ifin_Spo k lf (ist_Spo L x i d) (N + 1) = if L[i].f0 = x.f0 then some ⟨.v (.int .i64 i), [yo x], 1⟩ else ifin_Spo k lf (ist_Spo L x (i + 1) 1) N := by
  have c1 : (i : Int) < L.length := by omega
  have c0 : (0 : Int) ≤ i := by omega
  have w1 : IntKind.i64.wrap ((i : Int) + 1) = i + 1 := w64 (by omega) (by omega)
  have h5 := chunk S56.av 2 spt_len L i hi
  have l5 : i * 2 + 2 ≤ L.length * 2 := by omega
  have hl := chunk_len S56.av 2 spt_len L
  have hc := clo_Spo k L[i] x
  have hdd : d = 0 ∨ d = 1 := by omega
  unfold ifin_Spo ist_Spo
  rw [lh_as l_api_Spot_47_0.eq_1]
  generalize L[i] = y at *
  generalize L.flatMap S56.av = cs at *
  generalize L.length = n at *
  by_cases e : y.f0 = x.f0
  · have e' : (y.f0 == x.f0) = true := by simpa using e
    rw [e'] at hc
    rw [if_pos e]
    simp only [S56.av, yo] at hc
    rcases hdd with rfl | rfl
    · simp -implicitDefEqProofs only [eqs, eqd, eqe, ↓reduceIte, reduceCtorEq, Nat.reduceEqDiff, Nat.reduceAdd, Nat.reduceSub, Nat.reduceMul, Nat.reduceLT, Nat.reduceLeDiff, Nat.reduceBEq, Nat.reduceBNe, Nat.reduceGT, Int.reduceEq, Int.reduceLT, Int.reduceLE, Int.reduceToNat, Int.reduceAdd, Int.reduceSub, Int.reduceMul, Int.reduceNeg, Int.reduceBEq, Int.reduceBNe, nx_nil, S56.av, yo, c0, c1, w1, h5, l5, hl, hc, Int.toNat_natCast, Int.natCast_add]
    · simp -implicitDefEqProofs only [eqs, eqd, eqe, ↓reduceIte, reduceCtorEq, Nat.reduceEqDiff, Nat.reduceAdd, Nat.reduceSub, Nat.reduceMul, Nat.reduceLT, Nat.reduceLeDiff, Nat.reduceBEq, Nat.reduceBNe, Nat.reduceGT, Int.reduceEq, Int.reduceLT, Int.reduceLE, Int.reduceToNat, Int.reduceAdd, Int.reduceSub, Int.reduceMul, Int.reduceNeg, Int.reduceBEq, Int.reduceBNe, nx_nil, S56.av, yo, c0, c1, w1, h5, l5, hl, hc, Int.toNat_natCast, Int.natCast_add]
  · have e' : (y.f0 == x.f0) = false := by simpa using e
    rw [e'] at hc
    rw [if_neg e]
    simp only [S56.av, yo] at hc
    rcases hdd with rfl | rfl
    · simp -implicitDefEqProofs only [eqs, eqd, eqe, ↓reduceIte, reduceCtorEq, Nat.reduceEqDiff, Nat.reduceAdd, Nat.reduceSub, Nat.reduceMul, Nat.reduceLT, Nat.reduceLeDiff, Nat.reduceBEq, Nat.reduceBNe, Nat.reduceGT, Int.reduceEq, Int.reduceLT, Int.reduceLE, Int.reduceToNat, Int.reduceAdd, Int.reduceSub, Int.reduceMul, Int.reduceNeg, Int.reduceBEq, Int.reduceBNe, nx_nil, S56.av, yo, c0, c1, w1, h5, l5, hl, hc, Int.toNat_natCast, Int.natCast_add]
    · simp -implicitDefEqProofs only [eqs, eqd, eqe, ↓reduceIte, reduceCtorEq, Nat.reduceEqDiff, Nat.reduceAdd, Nat.reduceSub, Nat.reduceMul, Nat.reduceLT, Nat.reduceLeDiff, Nat.reduceBEq, Nat.reduceBNe, Nat.reduceGT, Int.reduceEq, Int.reduceLT, Int.reduceLE, Int.reduceToNat, Int.reduceAdd, Int.reduceSub, Int.reduceMul, Int.reduceNeg, Int.reduceBEq, Int.reduceBNe, nx_nil, S56.av, yo, c0, c1, w1, h5, l5, hl, hc, Int.toNat_natCast, Int.natCast_add]
theorem idx_end_Spo (k lf : Nat) (L : List Spt) (x : Spt) (d : Nat) (hd : d ≤ 1) (N : Nat) : ifin_Spo k lf (ist_Spo L x L.length d) N = some ⟨.v (.int .i64 (-1)), [yo x], d⟩ := by
  have c1 : ¬ (L.length : Int) < L.length := by omega
  have hdd : d = 0 ∨ d = 1 := by omega
  unfold ifin_Spo ist_Spo
  rw [lh_as l_api_Spot_47_0.eq_1]
  generalize L.flatMap S56.av = cs at *
  rcases hdd with rfl | rfl
  · simp -implicitDefEqProofs only [eqs, eqd, eqe, ↓reduceIte, reduceCtorEq, Nat.reduceEqDiff, Nat.reduceAdd, Nat.reduceSub, Nat.reduceMul, Nat.reduceLT, Nat.reduceLeDiff, Nat.reduceBEq, Nat.reduceBNe, Nat.reduceGT, Int.reduceEq, Int.reduceLT, Int.reduceLE, Int.reduceToNat, Int.reduceAdd, Int.reduceSub, Int.reduceMul, Int.reduceNeg, Int.reduceBEq, Int.reduceBNe, nx_nil, l_api_Spot_47_1, yo, c1]
  · simp -implicitDefEqProofs only [eqs, eqd, eqe, ↓reduceIte, reduceCtorEq, Nat.reduceEqDiff, Nat.reduceAdd, Nat.reduceSub, Nat.reduceMul, Nat.reduceLT, Nat.reduceLeDiff, Nat.reduceBEq, Nat.reduceBNe, Nat.reduceGT, Int.reduceEq, Int.reduceLT, Int.reduceLE, Int.reduceToNat, Int.reduceAdd, Int.reduceSub, Int.reduceMul, Int.reduceNeg, Int.reduceBEq, Int.reduceBNe, nx_nil, l_api_Spot_47_1, yo, c1]
theorem idx_run_Spo (k lf : Nat) (L : List Spt) (hL : L.length ≤ 250) (x : Spt) : ∀ (m i d N : Nat), i + m = L.length → m ≤ N → d ≤ 1 → ∃ d', d' ≤ 1 ∧ ifin_Spo k lf (ist_Spo L x i d) N = some ⟨.v (.int .i64 (idx (fun y => y.f0) x.f0 L m i)), [yo x], d'⟩
  | 0, i, d, N, hi, hN, hd => by
    obtain rfl : i = L.length := by omega
    exact ⟨d, hd, idx_end_Spo k lf L x d hd N⟩
  | m + 1, i, d, N, hi, hN, hd => by
    obtain ⟨N, rfl⟩ : ∃ M, N = M + 1 := ⟨N - 1, by omega⟩
    have h : i < L.length := by omega
    rw [idx_one_Spo k lf L hL x i h d hd N, idx, dif_pos h]
    by_cases e : L[i].f0 = x.f0
    · rw [if_pos e, if_pos e]
      exact ⟨1, Nat.le_refl _, rfl⟩
    · rw [if_neg e, if_neg e]
      exact idx_run_Spo k lf L hL x m (i + 1) 1 N (by omega) (by omega) (Nat.le_refl _)
theorem idx_Spo (k : Nat) (hk : 250 ≤ k) (L : List Spt) (hL : L.length ≤ 250) (x : Spt) : ∃ d, d ≤ 1 ∧ acall T (k + 2) 47 1 [.shr L.length false (L.flatMap S56.av), .fn 73 [.ptr 0 0]] [yo x] = some ⟨.v (.int .i64 (idx (fun y => y.f0) x.f0 L L.length 0)), [yo x], d⟩ := by
  obtain ⟨d, h1, h2⟩ := idx_run_Spo k (k + 1) L hL x L.length 0 0 k (by omega) (by omega) (by omega)
  refine ⟨d, h1, ?_⟩
  rw [acall_go (body := b_api_Spot_47) rfl rfl (Nat.le_refl 1), ← h2]
  clear h2
  have lp : ∀ (ks : List It) (s : St), Lp (acall T (k + 1)) (k + 1) [0, 1, 7, 8] l_api_Spot_47_0 (k + 1) ks s = Lh (acall T (k + 1)) (k + 1) (canon [0, 1, 7, 8] s) [0, 1, 7, 8] l_api_Spot_47_0 k ks := fun ks s => lp_succ (n := k)
  unfold ifin_Spo ist_Spo
  generalize L.flatMap S56.av = cs at *
  generalize L.length = n at *
  simp -implicitDefEqProofs only [eqs, eqd, eqe, ↓reduceIte, reduceCtorEq, Nat.reduceEqDiff, Nat.reduceAdd, Nat.reduceSub, Nat.reduceMul, Nat.reduceLT, Nat.reduceLeDiff, Nat.reduceBEq, Nat.reduceBNe, Nat.reduceGT, Int.reduceEq, Int.reduceLT, Int.reduceLE, Int.reduceToNat, Int.reduceAdd, Int.reduceSub, Int.reduceMul, Int.reduceNeg, Int.reduceBEq, Int.reduceBNe, b_api_Spot_47, yo, lp, Int.natCast_zero]
theorem contains_s (k : Nat) (hk : 250 ≤ k) (L : List Spt) (hL : L.length ≤ 250) (x : Spt) : ∃ d, d ≤ 1 ∧ acall T (k + 3) 31 1 [.shr L.length false (L.flatMap S56.av), .fn 73 [.ptr 0 0]] [yo x] = some ⟨.v (.bool (decide (0 ≤ idx (fun z : Spt => z.f0) x.f0 L L.length 0))), [yo x], d⟩ := by
  obtain ⟨d, h1, h2⟩ := idx_Spo k hk L hL x
  refine ⟨d, h1, ?_⟩
  rw [acall_go (body := b_api_Spot_31) rfl rfl (Nat.le_refl 1)]
  simp only [yo] at h2
  have hdd : d = 0 ∨ d = 1 := by omega
  generalize idx (fun z : Spt => z.f0) x.f0 L L.length 0 = j at *
  by_cases c : 0 ≤ j
  · rcases hdd with rfl | rfl
    · simp -implicitDefEqProofs only [eqs, eqd, eqe, lh_some, ↓reduceIte, reduceCtorEq, Nat.reduceEqDiff, Nat.reduceAdd, Nat.reduceSub, Nat.reduceMul, Nat.reduceLT, Nat.reduceLeDiff, Nat.reduceBEq, Nat.reduceBNe, Nat.reduceGT, Int.reduceEq, Int.reduceLT, Int.reduceLE, Int.reduceToNat, Int.reduceAdd, Int.reduceSub, Int.reduceMul, Int.reduceNeg, Int.reduceBEq, Int.reduceBNe, b_api_Spot_31, yo, h2, c]
    · simp -implicitDefEqProofs only [eqs, eqd, eqe, lh_some, ↓reduceIte, reduceCtorEq, Nat.reduceEqDiff, Nat.reduceAdd, Nat.reduceSub, Nat.reduceMul, Nat.reduceLT, Nat.reduceLeDiff, Nat.reduceBEq, Nat.reduceBNe, Nat.reduceGT, Int.reduceEq, Int.reduceLT, Int.reduceLE, Int.reduceToNat, Int.reduceAdd, Int.reduceSub, Int.reduceMul, Int.reduceNeg, Int.reduceBEq, Int.reduceBNe, b_api_Spot_31, yo, h2, c]
  · rcases hdd with rfl | rfl
    · simp -implicitDefEqProofs only [eqs, eqd, eqe, lh_some, ↓reduceIte, reduceCtorEq, Nat.reduceEqDiff, Nat.reduceAdd, Nat.reduceSub, Nat.reduceMul, Nat.reduceLT, Nat.reduceLeDiff, Nat.reduceBEq, Nat.reduceBNe, Nat.reduceGT, Int.reduceEq, Int.reduceLT, Int.reduceLE, Int.reduceToNat, Int.reduceAdd, Int.reduceSub, Int.reduceMul, Int.reduceNeg, Int.reduceBEq, Int.reduceBNe, b_api_Spot_31, yo, h2, c]
    · simp -implicitDefEqProofs only [eqs, eqd, eqe, lh_some, ↓reduceIte, reduceCtorEq, Nat.reduceEqDiff, Nat.reduceAdd, Nat.reduceSub, Nat.reduceMul, Nat.reduceLT, Nat.reduceLeDiff, Nat.reduceBEq, Nat.reduceBNe, Nat.reduceGT, Int.reduceEq, Int.reduceLT, Int.reduceLE, Int.reduceToNat, Int.reduceAdd, Int.reduceSub, Int.reduceMul, Int.reduceNeg, Int.reduceBEq, Int.reduceBNe, b_api_Spot_31, yo, h2, c]
theorem chunk_take {α : Type} (f : α → List AV) (w : Nat) (hw : ∀ x, (f x).length = w) : ∀ (L : List α) (m : Nat), (L.flatMap f).take (m * w) = (L.take m).flatMap f
  | [], m => by simp
  | x :: L, 0 => by simp
  | x :: L, m + 1 => by
    rw [List.flatMap_cons, List.take_succ_cons, List.flatMap_cons, List.take_append, show (m + 1) * w - (f x).length = m * w by rw [hw, Nat.add_mul]; omega, chunk_take f w hw L m, List.take_of_length_le (show (f x).length ≤ (m + 1) * w by rw [hw, Nat.add_mul]; omega)]
theorem idx_take {α : Type} (key : α → Int) (x : Int) (L : List α) (i : Nat) (hi : i ≤ L.length) : ∀ m k, k + m = i → decide (0 ≤ idx key x (L.take i) m k) = dupI key x L m k
  | 0, k, h => by rw [idx, dupI]; rfl
  | m + 1, k, h => by
    rw [idx, dupI, dif_pos (by rw [List.length_take]; omega), dif_pos (by omega), List.getElem_take]
    by_cases c : key L[k] = x
    · rw [if_pos c, if_pos c]
      simp
    · rw [if_neg c, if_neg c]
      exact idx_take key x L i hi m (k + 1) (by omega)
def bad (s : Spt) (b : Blk) : Bool := decide (s.f1 < 0) || (decide (64 < s.f1) || (decide (b.f2 < 0) || decide (64 - s.f1 < b.f2)))
/-- The error of a spot. -/
def spE (B : List Blk) (P : List Spt) (i : Nat) (s : Spt) : Int := match fnd (fun y => y.f0) s.f0 B B.length 0 with
  | none => 5
  | some b => if dupI (fun y => y.f0) s.f0 P i 0 = true then 14 else if bad s b = true then 2 else 0
theorem spot_a (k : Nat) (hk : 250 ≤ k) (B : List Blk) (hB : B.length ≤ 250) (P : List Spt) (hP : P.length ≤ 250) (i : Nat) (hi : i < P.length) : acall T (k + 5) 59 0 [.shr P.length false (P.flatMap S56.av), .v (.int .i64 i), .shr B.length false (B.flatMap S63.av)] [] = some ⟨.tup [.agg (blkO (fnd (fun y => y.f0) P[i].f0 B B.length 0)), .v (.int .i64 (spE B P i P[i]))], [], 1⟩ := by
  have c1 : (i : Int) < P.length := by omega
  have c0 : (0 : Int) ≤ i := by omega
  have h5 := chunk S56.av 2 spt_len P i hi
  have l5 : i * 2 + 2 ≤ P.length * 2 := by omega
  have hl := chunk_len S56.av 2 spt_len P
  have hf := bfind_a k hk B hB P[i].f0
  have htl : (P.take i).length = i := by rw [List.length_take]; omega
  obtain ⟨d, hd, hc⟩ := contains_s (k + 1) (by omega) (P.take i) (by omega) P[i]
  rw [htl, idx_take (fun z : Spt => z.f0) P[i].f0 P i (by omega) i 0 (by omega), ← chunk_take S56.av 2 spt_len P i] at hc
  have l6 : i ≤ P.length := by omega
  have hdd : d = 0 ∨ d = 1 := by omega
  rw [acall_go (body := b_image_spot) rfl rfl (Nat.zero_le _)]
  unfold spE
  generalize dupI (fun z : Spt => z.f0) P[i].f0 P i 0 = du at *
  clear htl
  generalize P[i] = y at *
  generalize P.flatMap S56.av = cs at *
  generalize P.length = n at *
  generalize B.flatMap S63.av = bs at *
  simp only [yo] at hc
  generalize fnd (fun z : Blk => z.f0) y.f0 B B.length 0 = r at *
  generalize B.length = nb at *
  cases r with
  | none =>
    simp only [blkO, Option.isSome_none] at hf
    simp -implicitDefEqProofs only [eqs, eqd, eqe, lh_some, ↓reduceIte, reduceCtorEq, Nat.reduceEqDiff, Nat.reduceAdd, Nat.reduceSub, Nat.reduceMul, Nat.reduceLT, Nat.reduceLeDiff, Nat.reduceBEq, Nat.reduceBNe, Nat.reduceGT, Int.reduceEq, Int.reduceLT, Int.reduceLE, Int.reduceToNat, Int.reduceAdd, Int.reduceSub, Int.reduceMul, Int.reduceNeg, Int.reduceBEq, Int.reduceBNe, b_image_spot, gs_image_spot, S56.av, blkO, c0, c1, h5, l5, hl, hf, Int.toNat_natCast]
  | some b =>
    simp only [blkO, Option.isSome_some] at hf
    simp only [S63.av] at hf
    cases du
    · simp only [Bool.false_eq_true, if_false]
      unfold bad
      by_cases d1 : y.f1 < 0
      · rcases hdd with rfl | rfl
        · simp -implicitDefEqProofs only [eqs, eqd, eqe, lh_some, ↓reduceIte, reduceCtorEq, Nat.reduceEqDiff, Nat.reduceAdd, Nat.reduceSub, Nat.reduceMul, Nat.reduceLT, Nat.reduceLeDiff, Nat.reduceBEq, Nat.reduceBNe, Nat.reduceGT, Int.reduceEq, Int.reduceLT, Int.reduceLE, Int.reduceToNat, Int.reduceAdd, Int.reduceSub, Int.reduceMul, Int.reduceNeg, Int.reduceBEq, Int.reduceBNe, b_image_spot, gs_image_spot, S56.av, S63.av, blkO, c0, c1, h5, l5, l6, hl, hf, hc, Int.toNat_natCast, Int.natCast_nonneg, d1]
        · simp -implicitDefEqProofs only [eqs, eqd, eqe, lh_some, ↓reduceIte, reduceCtorEq, Nat.reduceEqDiff, Nat.reduceAdd, Nat.reduceSub, Nat.reduceMul, Nat.reduceLT, Nat.reduceLeDiff, Nat.reduceBEq, Nat.reduceBNe, Nat.reduceGT, Int.reduceEq, Int.reduceLT, Int.reduceLE, Int.reduceToNat, Int.reduceAdd, Int.reduceSub, Int.reduceMul, Int.reduceNeg, Int.reduceBEq, Int.reduceBNe, b_image_spot, gs_image_spot, S56.av, S63.av, blkO, c0, c1, h5, l5, l6, hl, hf, hc, Int.toNat_natCast, Int.natCast_nonneg, d1]
      by_cases d2 : 64 < y.f1
      · rcases hdd with rfl | rfl
        · simp -implicitDefEqProofs only [eqs, eqd, eqe, lh_some, ↓reduceIte, reduceCtorEq, Nat.reduceEqDiff, Nat.reduceAdd, Nat.reduceSub, Nat.reduceMul, Nat.reduceLT, Nat.reduceLeDiff, Nat.reduceBEq, Nat.reduceBNe, Nat.reduceGT, Int.reduceEq, Int.reduceLT, Int.reduceLE, Int.reduceToNat, Int.reduceAdd, Int.reduceSub, Int.reduceMul, Int.reduceNeg, Int.reduceBEq, Int.reduceBNe, b_image_spot, gs_image_spot, S56.av, S63.av, blkO, c0, c1, h5, l5, l6, hl, hf, hc, Int.toNat_natCast, Int.natCast_nonneg, d1, d2]
        · simp -implicitDefEqProofs only [eqs, eqd, eqe, lh_some, ↓reduceIte, reduceCtorEq, Nat.reduceEqDiff, Nat.reduceAdd, Nat.reduceSub, Nat.reduceMul, Nat.reduceLT, Nat.reduceLeDiff, Nat.reduceBEq, Nat.reduceBNe, Nat.reduceGT, Int.reduceEq, Int.reduceLT, Int.reduceLE, Int.reduceToNat, Int.reduceAdd, Int.reduceSub, Int.reduceMul, Int.reduceNeg, Int.reduceBEq, Int.reduceBNe, b_image_spot, gs_image_spot, S56.av, S63.av, blkO, c0, c1, h5, l5, l6, hl, hf, hc, Int.toNat_natCast, Int.natCast_nonneg, d1, d2]
      by_cases d3 : b.f2 < 0
      · rcases hdd with rfl | rfl
        · simp -implicitDefEqProofs only [eqs, eqd, eqe, lh_some, ↓reduceIte, reduceCtorEq, Nat.reduceEqDiff, Nat.reduceAdd, Nat.reduceSub, Nat.reduceMul, Nat.reduceLT, Nat.reduceLeDiff, Nat.reduceBEq, Nat.reduceBNe, Nat.reduceGT, Int.reduceEq, Int.reduceLT, Int.reduceLE, Int.reduceToNat, Int.reduceAdd, Int.reduceSub, Int.reduceMul, Int.reduceNeg, Int.reduceBEq, Int.reduceBNe, b_image_spot, gs_image_spot, S56.av, S63.av, blkO, c0, c1, h5, l5, l6, hl, hf, hc, Int.toNat_natCast, Int.natCast_nonneg, d1, d2, d3]
        · simp -implicitDefEqProofs only [eqs, eqd, eqe, lh_some, ↓reduceIte, reduceCtorEq, Nat.reduceEqDiff, Nat.reduceAdd, Nat.reduceSub, Nat.reduceMul, Nat.reduceLT, Nat.reduceLeDiff, Nat.reduceBEq, Nat.reduceBNe, Nat.reduceGT, Int.reduceEq, Int.reduceLT, Int.reduceLE, Int.reduceToNat, Int.reduceAdd, Int.reduceSub, Int.reduceMul, Int.reduceNeg, Int.reduceBEq, Int.reduceBNe, b_image_spot, gs_image_spot, S56.av, S63.av, blkO, c0, c1, h5, l5, l6, hl, hf, hc, Int.toNat_natCast, Int.natCast_nonneg, d1, d2, d3]
      have w1 : IntKind.i64.wrap (64 - y.f1) = 64 - y.f1 := w64 (by omega) (by omega)
      by_cases d4 : 64 - y.f1 < b.f2
      · rcases hdd with rfl | rfl
        · simp -implicitDefEqProofs only [eqs, eqd, eqe, lh_some, ↓reduceIte, reduceCtorEq, Nat.reduceEqDiff, Nat.reduceAdd, Nat.reduceSub, Nat.reduceMul, Nat.reduceLT, Nat.reduceLeDiff, Nat.reduceBEq, Nat.reduceBNe, Nat.reduceGT, Int.reduceEq, Int.reduceLT, Int.reduceLE, Int.reduceToNat, Int.reduceAdd, Int.reduceSub, Int.reduceMul, Int.reduceNeg, Int.reduceBEq, Int.reduceBNe, b_image_spot, gs_image_spot, S56.av, S63.av, blkO, c0, c1, h5, l5, l6, hl, hf, hc, Int.toNat_natCast, Int.natCast_nonneg, d1, d2, d3, d4, w1]
        · simp -implicitDefEqProofs only [eqs, eqd, eqe, lh_some, ↓reduceIte, reduceCtorEq, Nat.reduceEqDiff, Nat.reduceAdd, Nat.reduceSub, Nat.reduceMul, Nat.reduceLT, Nat.reduceLeDiff, Nat.reduceBEq, Nat.reduceBNe, Nat.reduceGT, Int.reduceEq, Int.reduceLT, Int.reduceLE, Int.reduceToNat, Int.reduceAdd, Int.reduceSub, Int.reduceMul, Int.reduceNeg, Int.reduceBEq, Int.reduceBNe, b_image_spot, gs_image_spot, S56.av, S63.av, blkO, c0, c1, h5, l5, l6, hl, hf, hc, Int.toNat_natCast, Int.natCast_nonneg, d1, d2, d3, d4, w1]
      · rcases hdd with rfl | rfl
        · simp -implicitDefEqProofs only [eqs, eqd, eqe, lh_some, ↓reduceIte, reduceCtorEq, Nat.reduceEqDiff, Nat.reduceAdd, Nat.reduceSub, Nat.reduceMul, Nat.reduceLT, Nat.reduceLeDiff, Nat.reduceBEq, Nat.reduceBNe, Nat.reduceGT, Int.reduceEq, Int.reduceLT, Int.reduceLE, Int.reduceToNat, Int.reduceAdd, Int.reduceSub, Int.reduceMul, Int.reduceNeg, Int.reduceBEq, Int.reduceBNe, b_image_spot, gs_image_spot, S56.av, S63.av, blkO, c0, c1, h5, l5, l6, hl, hf, hc, Int.toNat_natCast, Int.natCast_nonneg, d1, d2, d3, d4, w1]
        · simp -implicitDefEqProofs only [eqs, eqd, eqe, lh_some, ↓reduceIte, reduceCtorEq, Nat.reduceEqDiff, Nat.reduceAdd, Nat.reduceSub, Nat.reduceMul, Nat.reduceLT, Nat.reduceLeDiff, Nat.reduceBEq, Nat.reduceBNe, Nat.reduceGT, Int.reduceEq, Int.reduceLT, Int.reduceLE, Int.reduceToNat, Int.reduceAdd, Int.reduceSub, Int.reduceMul, Int.reduceNeg, Int.reduceBEq, Int.reduceBNe, b_image_spot, gs_image_spot, S56.av, S63.av, blkO, c0, c1, h5, l5, l6, hl, hf, hc, Int.toNat_natCast, Int.natCast_nonneg, d1, d2, d3, d4, w1]
    · simp only [if_true]
      rcases hdd with rfl | rfl
      · simp -implicitDefEqProofs only [eqs, eqd, eqe, lh_some, ↓reduceIte, reduceCtorEq, Nat.reduceEqDiff, Nat.reduceAdd, Nat.reduceSub, Nat.reduceMul, Nat.reduceLT, Nat.reduceLeDiff, Nat.reduceBEq, Nat.reduceBNe, Nat.reduceGT, Int.reduceEq, Int.reduceLT, Int.reduceLE, Int.reduceToNat, Int.reduceAdd, Int.reduceSub, Int.reduceMul, Int.reduceNeg, Int.reduceBEq, Int.reduceBNe, b_image_spot, gs_image_spot, S56.av, S63.av, blkO, c0, c1, h5, l5, l6, hl, hf, hc, Int.toNat_natCast, Int.natCast_nonneg]
      · simp -implicitDefEqProofs only [eqs, eqd, eqe, lh_some, ↓reduceIte, reduceCtorEq, Nat.reduceEqDiff, Nat.reduceAdd, Nat.reduceSub, Nat.reduceMul, Nat.reduceLT, Nat.reduceLeDiff, Nat.reduceBEq, Nat.reduceBNe, Nat.reduceGT, Int.reduceEq, Int.reduceLT, Int.reduceLE, Int.reduceToNat, Int.reduceAdd, Int.reduceSub, Int.reduceMul, Int.reduceNeg, Int.reduceBEq, Int.reduceBNe, b_image_spot, gs_image_spot, S56.av, S63.av, blkO, c0, c1, h5, l5, l6, hl, hf, hc, Int.toNat_natCast, Int.natCast_nonneg]
end Go.Proofs.Ytcfokbhmchcgbaa.Cfg
