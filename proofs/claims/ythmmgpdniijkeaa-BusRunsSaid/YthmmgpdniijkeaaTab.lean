/- The program's functions, as the abstract machine has them. Written by a program for this claim. -/
import Derived.Test.YthmmgpdniijkeaaSymQ
import Derived.Test.YthmmgpdniijkeaaProg
import Derived.KernelRfl
namespace Go.Proofs.Ythmmgpdniijkeaa.Tab
open Go Go.Proofs.Ythmmgpdniijkeaa.Sym
set_option linter.unusedVariables false

/-- Calls that act. -/
def hv : List Nat := [1000000, 22, 9, 12, 21, 27, 13, 15, 16, 29, 18, 39, 46, 31, 43, 32, 33, 34, 35, 36, 20]
/-! fugleman/bus.New: 8 -/
def b_bus_New : AC :=
 (.seq (.reg [⟨(some 0), none, .mv (.c (.v (.pointer none)))⟩])
 (.seq (.reg [⟨(some 1), none, .build [(.v (.slice none 0 0)), (.v (.bool false))] []⟩, ⟨(some 2), none, .box (.t 1)⟩, ⟨(some 0), none, .mv (.t 2)⟩])
  .ret))
def a_bus_New : AFn := ⟨0, b_bus_New, [.t 0], false, false⟩
theorem a_bus_New_ok : compF Try.prog Try.f8 [] false false hv = some a_bus_New := by kernel_rfl

/-! (*fugleman/bus.Bus).add: 22 -/
def b_bus_Bus_add : AC :=
 (.seq (.reg [⟨(some 3), none, .box (.t 1)⟩, ⟨(some 4), none, .mv (.c (.v (.int .i64 0)))⟩])
 (.seq (.seq (.reg [⟨(some 5), none, .mv (.t 0)⟩, ⟨(some 6), none, .nilck (.t 5)⟩, ⟨(some 7), none, .fad 0 (.t 6)⟩, ⟨(some 8), none, .load none (.t 7)⟩, ⟨(some 9), none, .len (.t 8)⟩, ⟨(some 10), none, .bin .geq (.t 9) (.c (.v (.int .i64 64)))⟩])
   (.cond (.t 10) (.seq (.reg [⟨(some 11), none, .mv (.t 0)⟩, ⟨(some 12), none, .nilck (.t 11)⟩, ⟨(some 13), none, .fad 1 (.t 12)⟩, ⟨none, none, .store 1 (.t 13) (.c (.v (.bool true)))⟩])
     (.seq (.reg [⟨(some 4), none, .mv (.c (.v (.int .i64 8)))⟩])
      .ret))
    .skip))
  (.seq (.regm [(false, ⟨(some 14), none, .mv (.t 0)⟩), (false, ⟨(some 15), none, .mv (.t 0)⟩), (false, ⟨(some 16), none, .nilck (.t 15)⟩), (false, ⟨(some 17), none, .fad 0 (.t 16)⟩), (false, ⟨(some 18), none, .load none (.t 17)⟩), (false, ⟨(some 19), none, .load (some 4) (.t 3)⟩), (false, ⟨(some 20), none, .row 4 1 [(.v (.string ⟨#[]⟩)), (.v (.int .i64 0)), (.v (.int .u32 0)), (.v (.bool false))] [(0, 4, (.t 19))]⟩), (false, ⟨(some 21), none, .app 4 32 (.t 18) (.t 20)⟩), (false, ⟨(some 22), none, .nilck (.t 14)⟩), (false, ⟨(some 23), none, .fad 0 (.t 22)⟩), (false, ⟨none, none, .store 1 (.t 23) (.t 21)⟩)])
   (.seq (.reg [⟨(some 4), none, .mv (.c (.v (.int .i64 0)))⟩])
    .ret))))
def a_bus_Bus_add : AFn := ⟨2, b_bus_Bus_add, [.t 4], false, true⟩
theorem a_bus_Bus_add_ok : compF Try.prog Try.f22 [] false true hv = some a_bus_Bus_add := by kernel_rfl

/-! fugleman/members.is: 45 -/
def b_members_is : AC :=
 (.seq (.reg [⟨(some 2), none, .mv (.c (.v (.bool false)))⟩])
 (.seq (.reg [⟨(some 3), none, .mv (.t 0)⟩, ⟨(some 4), none, .bin .geq (.t 3) (.c (.v (.int .i64 0)))⟩, ⟨(some 5), none, .mv (.t 4)⟩, ⟨(some 6), (some (5, true)), .mv (.t 0)⟩, ⟨(some 7), (some (5, true)), .bin .lss (.t 6) (.c (.v (.int .i64 32)))⟩, ⟨(some 8), none, .pick (.t 5) (.t 7) (.c (.v (.bool false)))⟩, ⟨(some 2), none, .mv (.t 8)⟩])
  .ret))
def a_members_is : AFn := ⟨1, b_members_is, [.t 2], false, false⟩
theorem a_members_is_ok : compF Try.prog Try.f45 [] false false hv = some a_members_is := by kernel_rfl

/-! fugleman/members.one: 38 -/
def b_members_one : AC :=
 (.seq (.reg [⟨(some 2), none, .mv (.c (.v (.int .u32 0)))⟩])
 (.seq (.seq (.reg [⟨(some 3), none, .mv (.t 0)⟩, ⟨(some 4), none, .call (.c (.fn 45 [])) [(.t 3)]⟩, ⟨(some 5), none, .un .not (.t 4)⟩])
   (.cond (.t 5) (.seq (.reg [⟨(some 2), none, .mv (.c (.v (.int .u32 0)))⟩])
     .ret)
    .skip))
  (.seq (.reg [⟨(some 6), none, .mv (.t 0)⟩, ⟨(some 7), none, .bin .shl (.c (.v (.int .u32 1))) (.t 6)⟩, ⟨(some 2), none, .mv (.t 7)⟩])
   .ret)))
def a_members_one : AFn := ⟨1, b_members_one, [.t 2], false, false⟩
theorem a_members_one_ok : compF Try.prog Try.f38 [] false false hv = some a_members_one := by kernel_rfl

/-! fugleman/members.Without: 23 -/
def b_members_Without : AC :=
 (.seq (.reg [⟨(some 4), none, .mv (.c (.v (.int .u32 0)))⟩])
 (.seq (.reg [⟨(some 5), none, .mv (.t 0)⟩, ⟨(some 6), none, .mv (.t 1)⟩, ⟨(some 7), none, .call (.c (.fn 38 [])) [(.t 6)]⟩, ⟨(some 8), none, .bin .andNot (.t 5) (.t 7)⟩, ⟨(some 4), none, .mv (.t 8)⟩])
  .ret))
def a_members_Without : AFn := ⟨2, b_members_Without, [.t 4], false, false⟩
theorem a_members_Without_ok : compF Try.prog Try.f23 [] false false hv = some a_members_Without := by kernel_rfl

/-! (*fugleman/bus.Bus).Send: 9 -/
def b_bus_Bus_Send : AC :=
 (.seq (.reg [⟨(some 6), none, .mv (.c (.v (.int .i64 0)))⟩])
 (.seq (.seq (.reg [⟨(some 7), none, .mv (.t 0)⟩, ⟨(some 8), none, .eqp false (.t 7) (.c (.v (.pointer none)))⟩, ⟨(some 9), none, .mv (.t 8)⟩, ⟨(some 10), (some (9, false)), .mv (.t 1)⟩, ⟨(some 11), (some (9, false)), .bin .lss (.t 10) (.c (.v (.int .i64 0)))⟩, ⟨(some 12), none, .pick (.t 9) (.c (.v (.bool true))) (.t 11)⟩, ⟨(some 13), none, .mv (.t 12)⟩, ⟨(some 14), (some (13, false)), .mv (.t 1)⟩, ⟨(some 15), (some (13, false)), .bin .geq (.t 14) (.c (.v (.int .i64 32)))⟩, ⟨(some 16), none, .pick (.t 13) (.c (.v (.bool true))) (.t 15)⟩, ⟨(some 17), none, .mv (.t 16)⟩, ⟨(some 18), (some (17, false)), .mv (.t 2)⟩, ⟨(some 19), (some (17, false)), .bin .eql (.t 18) (.c (.v (.string ⟨#[]⟩)))⟩, ⟨(some 20), none, .pick (.t 17) (.c (.v (.bool true))) (.t 19)⟩, ⟨(some 21), none, .mv (.t 20)⟩, ⟨(some 22), (some (21, false)), .mv (.t 2)⟩, ⟨(some 23), (some (21, false)), .lens (.t 22)⟩, ⟨(some 24), (some (21, false)), .bin .gtr (.t 23) (.c (.v (.int .i64 255)))⟩, ⟨(some 25), none, .pick (.t 21) (.c (.v (.bool true))) (.t 24)⟩])
   (.cond (.t 25) (.seq (.reg [⟨(some 6), none, .mv (.c (.v (.int .i64 1)))⟩])
     .ret)
    .skip))
  (.seq (.reg [⟨(some 26), none, .mv (.t 0)⟩, ⟨(some 27), none, .mv (.t 2)⟩, ⟨(some 28), none, .mv (.t 1)⟩, ⟨(some 29), none, .mv (.t 1)⟩, ⟨(some 30), none, .call (.c (.fn 23 [])) [(.c (.v (.int .u32 4294967295))), (.t 29)]⟩, ⟨(some 31), none, .build [(.v (.string ⟨#[]⟩)), (.v (.int .i64 0)), (.v (.int .u32 0)), (.v (.bool false))] [(0, 1, (.t 27)), (1, 1, (.t 28)), (2, 1, (.t 30))]⟩, ⟨(some 32), none, .call (.c (.fn 22 [])) [(.t 26), (.t 31)]⟩, ⟨(some 6), none, .mv (.t 32)⟩])
   .ret)))
def a_bus_Bus_Send : AFn := ⟨3, b_bus_Bus_Send, [.t 6], false, true⟩
theorem a_bus_Bus_Send_ok : compF Try.prog Try.f9 [] false true hv = some a_bus_Bus_Send := by kernel_rfl

/-! (*fugleman/bus.Bus).Len: 10 -/
def b_bus_Bus_Len : AC :=
 (.seq (.reg [⟨(some 2), none, .mv (.c (.v (.int .i64 0)))⟩])
 (.seq (.seq (.reg [⟨(some 3), none, .mv (.t 0)⟩, ⟨(some 4), none, .eqp false (.t 3) (.c (.v (.pointer none)))⟩])
   (.cond (.t 4) (.seq (.reg [⟨(some 2), none, .mv (.c (.v (.int .i64 0)))⟩])
     .ret)
    .skip))
  (.seq (.reg [⟨(some 5), none, .mv (.t 0)⟩, ⟨(some 6), none, .nilck (.t 5)⟩, ⟨(some 7), none, .fad 0 (.t 6)⟩, ⟨(some 8), none, .load none (.t 7)⟩, ⟨(some 9), none, .len (.t 8)⟩, ⟨(some 2), none, .mv (.t 9)⟩])
   .ret)))
def a_bus_Bus_Len : AFn := ⟨1, b_bus_Bus_Len, [.t 2], false, false⟩
theorem a_bus_Bus_Len_ok : compF Try.prog Try.f10 [] false false hv = some a_bus_Bus_Len := by kernel_rfl

/-! (*fugleman/bus.Bus).at: 24 -/
def b_bus_Bus_at : AC :=
 (.seq (.reg [⟨(some 4), none, .mv (.c (.v (.pointer none)))⟩])
 (.seq (.seq (.reg [⟨(some 5), none, .mv (.t 1)⟩, ⟨(some 6), none, .bin .lss (.t 5) (.c (.v (.int .i64 0)))⟩, ⟨(some 7), none, .mv (.t 6)⟩, ⟨(some 8), (some (7, false)), .mv (.t 1)⟩, ⟨(some 9), (some (7, false)), .mv (.t 0)⟩, ⟨(some 10), (some (7, false)), .call (.c (.fn 10 [])) [(.t 9)]⟩, ⟨(some 11), (some (7, false)), .bin .geq (.t 8) (.t 10)⟩, ⟨(some 12), none, .pick (.t 7) (.c (.v (.bool true))) (.t 11)⟩])
   (.cond (.t 12) (.seq (.reg [⟨(some 4), none, .mv (.c (.v (.pointer none)))⟩])
     .ret)
    .skip))
  (.seq (.reg [⟨(some 13), none, .mv (.t 0)⟩, ⟨(some 14), none, .nilck (.t 13)⟩, ⟨(some 15), none, .fad 0 (.t 14)⟩, ⟨(some 16), none, .load none (.t 15)⟩, ⟨(some 17), none, .mv (.t 1)⟩, ⟨(some 18), none, .ixs 4 (.t 16) (.t 17)⟩, ⟨(some 4), none, .mv (.t 18)⟩])
   .ret)))
def a_bus_Bus_at : AFn := ⟨2, b_bus_Bus_at, [.t 4], false, false⟩
theorem a_bus_Bus_at_ok : compF Try.prog Try.f24 [] false false hv = some a_bus_Bus_at := by kernel_rfl

/-! (*fugleman/bus.Bus).Piece: 14 -/
def b_bus_Bus_Piece : AC :=
 (.seq (.reg [⟨(some 4), none, .alloc [(.v (.string ⟨#[]⟩)), (.v (.int .i64 0)), (.v (.int .u32 0)), (.v (.bool false))]⟩, ⟨(some 5), none, .mv (.c (.v (.bool false)))⟩])
 (.seq (.reg [⟨(some 7), none, .mv (.t 0)⟩, ⟨(some 8), none, .mv (.t 1)⟩, ⟨(some 9), none, .call (.c (.fn 24 [])) [(.t 7), (.t 8)]⟩, ⟨(some 6), none, .mv (.t 9)⟩])
  (.seq (.seq (.reg [⟨(some 10), none, .mv (.t 6)⟩, ⟨(some 11), none, .eqp false (.t 10) (.c (.v (.pointer none)))⟩])
    (.cond (.t 11) (.seq (.reg [⟨(some 12), none, .build [(.v (.string ⟨#[]⟩)), (.v (.int .i64 0)), (.v (.int .u32 0)), (.v (.bool false))] []⟩, ⟨none, none, .store 4 (.t 4) (.t 12)⟩, ⟨(some 5), none, .mv (.c (.v (.bool false)))⟩])
      .ret)
     .skip))
   (.seq (.reg [⟨(some 13), none, .mv (.t 6)⟩, ⟨(some 14), none, .nilck (.t 13)⟩, ⟨(some 15), none, .load (some 4) (.t 14)⟩, ⟨none, none, .store 4 (.t 4) (.t 15)⟩, ⟨(some 5), none, .mv (.c (.v (.bool true)))⟩])
    .ret))))
def a_bus_Bus_Piece : AFn := ⟨2, b_bus_Bus_Piece, [.cell 4 (some 4), .t 5], false, false⟩
theorem a_bus_Bus_Piece_ok : compF Try.prog Try.f14 [] false false hv = some a_bus_Bus_Piece := by kernel_rfl

/-! slices.Delete[[]fugleman/api.Piece,fugleman/api.Piece]: 25 -/
def b_api_Piece : AC :=
 (.seq (.reg [⟨(some 6), none, .mv (.c (.v (.slice none 0 0)))⟩])
 (.seq (.reg [⟨(some 8), none, .mv (.t 0)⟩, ⟨(some 9), none, .mv (.t 1)⟩, ⟨(some 10), none, .mv (.t 2)⟩, ⟨(some 11), none, .mv (.t 0)⟩, ⟨(some 12), none, .len (.t 11)⟩, ⟨(some 13), none, .sls 4 (.t 8) (some (.t 9)) (some (.t 10)) (some (.t 12))⟩])
  (.seq (.seq (.reg [⟨(some 14), none, .mv (.t 1)⟩, ⟨(some 15), none, .mv (.t 2)⟩, ⟨(some 16), none, .bin .eql (.t 14) (.t 15)⟩])
    (.cond (.t 16) (.seq (.reg [⟨(some 17), none, .mv (.t 0)⟩, ⟨(some 6), none, .mv (.t 17)⟩])
      .ret)
     .skip))
   (.seq (.reg [⟨(some 18), none, .mv (.t 0)⟩, ⟨(some 19), none, .len (.t 18)⟩, ⟨(some 7), none, .mv (.t 19)⟩])
    (.seq (.regm [(false, ⟨(some 20), none, .mv (.t 0)⟩), (false, ⟨(some 21), none, .mv (.t 1)⟩), (false, ⟨(some 22), none, .sls 4 (.t 20) none (some (.t 21)) none⟩), (false, ⟨(some 23), none, .mv (.t 0)⟩), (false, ⟨(some 24), none, .mv (.t 2)⟩), (false, ⟨(some 25), none, .sls 4 (.t 23) (some (.t 24)) none none⟩), (false, ⟨(some 26), none, .app 4 32 (.t 22) (.t 25)⟩), (false, ⟨(some 0), none, .mv (.t 26)⟩)])
     (.seq (.reg [⟨(some 27), none, .mv (.t 0)⟩, ⟨(some 28), none, .mv (.t 0)⟩, ⟨(some 29), none, .len (.t 28)⟩, ⟨(some 30), none, .mv (.t 7)⟩, ⟨(some 31), none, .sls 4 (.t 27) (some (.t 29)) (some (.t 30)) none⟩, ⟨none, none, .clr 4 [(.v (.string ⟨#[]⟩)), (.v (.int .i64 0)), (.v (.int .u32 0)), (.v (.bool false))] (.t 31)⟩])
      (.seq (.reg [⟨(some 32), none, .mv (.t 0)⟩, ⟨(some 6), none, .mv (.t 32)⟩])
       .ret)))))))
def a_api_Piece : AFn := ⟨3, b_api_Piece, [.t 6], false, false⟩
theorem a_api_Piece_ok : compF Try.prog Try.f25 [] false false hv = some a_api_Piece := by kernel_rfl

/-! (*fugleman/bus.Bus).Drop: 12 -/
def b_bus_Bus_Drop : AC :=
 (.seq (.reg [⟨(some 4), none, .mv (.c (.v (.int .i64 0)))⟩])
 (.seq (.seq (.reg [⟨(some 5), none, .mv (.t 0)⟩, ⟨(some 6), none, .mv (.t 1)⟩, ⟨(some 7), none, .call (.c (.fn 24 [])) [(.t 5), (.t 6)]⟩, ⟨(some 8), none, .eqp false (.t 7) (.c (.v (.pointer none)))⟩])
   (.cond (.t 8) (.seq (.reg [⟨(some 4), none, .mv (.c (.v (.int .i64 1)))⟩])
     .ret)
    .skip))
  (.seq (.reg [⟨(some 9), none, .mv (.t 0)⟩, ⟨(some 10), none, .mv (.t 0)⟩, ⟨(some 11), none, .nilck (.t 10)⟩, ⟨(some 12), none, .fad 0 (.t 11)⟩, ⟨(some 13), none, .load none (.t 12)⟩, ⟨(some 14), none, .mv (.t 1)⟩, ⟨(some 15), none, .mv (.t 1)⟩, ⟨(some 16), none, .bin .add (.t 15) (.c (.v (.int .i64 1)))⟩, ⟨(some 17), none, .call (.c (.fn 25 [])) [(.t 13), (.t 14), (.t 16)]⟩, ⟨(some 18), none, .nilck (.t 9)⟩, ⟨(some 19), none, .fad 0 (.t 18)⟩, ⟨none, none, .store 1 (.t 19) (.t 17)⟩])
   (.seq (.reg [⟨(some 4), none, .mv (.c (.v (.int .i64 0)))⟩])
    .ret))))
def a_bus_Bus_Drop : AFn := ⟨2, b_bus_Bus_Drop, [.t 4], false, true⟩
theorem a_bus_Bus_Drop_ok : compF Try.prog Try.f12 [] false true hv = some a_bus_Bus_Drop := by kernel_rfl

/-! fugleman/members.Has: 37 -/
def b_members_Has : AC :=
 (.seq (.reg [⟨(some 4), none, .mv (.c (.v (.bool false)))⟩])
 (.seq (.reg [⟨(some 5), none, .mv (.t 0)⟩, ⟨(some 6), none, .mv (.t 1)⟩, ⟨(some 7), none, .call (.c (.fn 38 [])) [(.t 6)]⟩, ⟨(some 8), none, .bin .and (.t 5) (.t 7)⟩, ⟨(some 9), none, .bin .neq (.t 8) (.c (.v (.int .u32 0)))⟩, ⟨(some 4), none, .mv (.t 9)⟩])
  .ret))
def a_members_Has : AFn := ⟨2, b_members_Has, [.t 4], false, false⟩
theorem a_members_Has_ok : compF Try.prog Try.f37 [] false false hv = some a_members_Has := by kernel_rfl

/-! (*fugleman/bus.Bus).Deliver: 21 -/
def b_bus_Bus_Deliver : AC :=
 (.seq (.reg [⟨(some 6), none, .mv (.c (.v (.string ⟨#[]⟩)))⟩, ⟨(some 7), none, .mv (.c (.v (.int .i64 0)))⟩])
 (.seq (.reg [⟨(some 10), none, .mv (.t 0)⟩, ⟨(some 11), none, .mv (.t 1)⟩, ⟨(some 12), none, .call (.c (.fn 24 [])) [(.t 10), (.t 11)]⟩, ⟨(some 8), none, .mv (.t 12)⟩])
  (.seq (.seq (.reg [⟨(some 13), none, .mv (.t 8)⟩, ⟨(some 14), none, .eqp false (.t 13) (.c (.v (.pointer none)))⟩, ⟨(some 15), none, .mv (.t 14)⟩, ⟨(some 16), (some (15, false)), .mv (.t 8)⟩, ⟨(some 17), (some (15, false)), .nilck (.t 16)⟩, ⟨(some 18), (some (15, false)), .fad 2 (.t 17)⟩, ⟨(some 19), (some (15, false)), .load none (.t 18)⟩, ⟨(some 20), (some (15, false)), .mv (.t 2)⟩, ⟨(some 21), (some (15, false)), .call (.c (.fn 37 [])) [(.t 19), (.t 20)]⟩, ⟨(some 22), (some (15, false)), .un .not (.t 21)⟩, ⟨(some 23), none, .pick (.t 15) (.c (.v (.bool true))) (.t 22)⟩])
    (.cond (.t 23) (.seq (.reg [⟨(some 6), none, .mv (.c (.v (.string ⟨#[]⟩)))⟩, ⟨(some 7), none, .mv (.c (.v (.int .i64 1)))⟩])
      .ret)
     .skip))
   (.seq (.reg [⟨(some 24), none, .mv (.t 8)⟩, ⟨(some 25), none, .nilck (.t 24)⟩, ⟨(some 26), none, .fad 0 (.t 25)⟩, ⟨(some 27), none, .load none (.t 26)⟩, ⟨(some 9), none, .mv (.t 27)⟩])
    (.seq (.seq (.reg [⟨(some 28), none, .mv (.t 8)⟩, ⟨(some 29), none, .mv (.t 8)⟩, ⟨(some 30), none, .nilck (.t 29)⟩, ⟨(some 31), none, .fad 2 (.t 30)⟩, ⟨(some 32), none, .load none (.t 31)⟩, ⟨(some 33), none, .mv (.t 2)⟩, ⟨(some 34), none, .call (.c (.fn 23 [])) [(.t 32), (.t 33)]⟩, ⟨(some 35), none, .nilck (.t 28)⟩, ⟨(some 36), none, .fad 2 (.t 35)⟩, ⟨none, none, .store 1 (.t 36) (.t 34)⟩])
      (.seq (.reg [⟨(some 37), none, .mv (.t 8)⟩, ⟨(some 38), none, .nilck (.t 37)⟩, ⟨(some 39), none, .fad 2 (.t 38)⟩, ⟨(some 40), none, .load none (.t 39)⟩, ⟨(some 41), none, .bin .eql (.t 40) (.c (.v (.int .u32 0)))⟩])
       (.cond (.t 41) (.reg [⟨(some 42), none, .mv (.t 0)⟩, ⟨(some 43), none, .mv (.t 1)⟩, ⟨(some 44), none, .call (.c (.fn 12 [])) [(.t 42), (.t 43)]⟩])
        .skip)))
     (.seq (.reg [⟨(some 45), none, .mv (.t 9)⟩, ⟨(some 6), none, .mv (.t 45)⟩, ⟨(some 7), none, .mv (.c (.v (.int .i64 0)))⟩])
      .ret))))))
def a_bus_Bus_Deliver : AFn := ⟨3, b_bus_Bus_Deliver, [.t 6, .t 7], false, true⟩
theorem a_bus_Bus_Deliver_ok : compF Try.prog Try.f21 [] false true hv = some a_bus_Bus_Deliver := by kernel_rfl

/-! fugleman/fuglemanlaw09.awake: 7 -/
def b_fuglemanlaw09_awake : AC :=
 (.seq (.reg [⟨(some 0), none, .mv (.c (.v (.bool false)))⟩])
 (.seq (.reg [⟨(some 9), none, .call (.c (.fn 8 [])) []⟩, ⟨(some 1), none, .mv (.t 9)⟩])
  (.seq (.reg [⟨(some 10), none, .mv (.t 1)⟩, ⟨(some 11), none, .call (.c (.fn 9 [])) [(.t 10), (.c (.v (.int .i64 1))), (.c (.v (.string ⟨#[97, 98]⟩)))]⟩, ⟨(some 2), none, .mv (.t 11)⟩])
   (.seq (.reg [⟨(some 13), none, .mv (.t 1)⟩, ⟨(some 14), none, .call (.c (.fn 21 [])) [(.t 13), (.c (.v (.int .i64 0))), (.c (.v (.int .i64 2)))]⟩, ⟨(some 12), none, .mv (.t 14)⟩, ⟨(some 15), none, .ext 0 (.t 12)⟩, ⟨(some 16), none, .ext 1 (.t 12)⟩, ⟨(some 3), none, .mv (.t 15)⟩, ⟨(some 4), none, .mv (.t 16)⟩])
    (.seq (.reg [⟨(some 18), none, .mv (.t 1)⟩, ⟨(some 19), none, .call (.c (.fn 21 [])) [(.t 18), (.c (.v (.int .i64 0))), (.c (.v (.int .i64 2)))]⟩, ⟨(some 17), none, .mv (.t 19)⟩, ⟨(some 20), none, .ext 0 (.t 17)⟩, ⟨(some 21), none, .ext 1 (.t 17)⟩, ⟨(some 5), none, .mv (.t 20)⟩, ⟨(some 6), none, .mv (.t 21)⟩])
     (.seq (.reg [⟨(some 23), none, .mv (.t 1)⟩, ⟨(some 24), none, .call (.c (.fn 14 [])) [(.t 23), (.c (.v (.int .i64 0)))]⟩, ⟨(some 22), none, .mv (.t 24)⟩, ⟨(some 25), none, .ext 0 (.t 22)⟩, ⟨(some 26), none, .ext 1 (.t 22)⟩, ⟨(some 7), none, .alloc [(.v (.string ⟨#[]⟩)), (.v (.int .i64 0)), (.v (.int .u32 0)), (.v (.bool false))]⟩, ⟨none, none, .store 4 (.t 7) (.t 25)⟩, ⟨(some 8), none, .mv (.t 26)⟩])
      (.seq (.reg [⟨(some 27), none, .mv (.t 2)⟩, ⟨(some 28), none, .bin .eql (.t 27) (.c (.v (.int .i64 0)))⟩, ⟨(some 29), none, .mv (.t 28)⟩, ⟨(some 30), (some (29, true)), .mv (.t 4)⟩, ⟨(some 31), (some (29, true)), .bin .eql (.t 30) (.c (.v (.int .i64 0)))⟩, ⟨(some 32), none, .pick (.t 29) (.t 31) (.c (.v (.bool false)))⟩, ⟨(some 33), none, .mv (.t 32)⟩, ⟨(some 34), (some (33, true)), .mv (.t 6)⟩, ⟨(some 35), (some (33, true)), .bin .eql (.t 34) (.c (.v (.int .i64 1)))⟩, ⟨(some 36), none, .pick (.t 33) (.t 35) (.c (.v (.bool false)))⟩, ⟨(some 37), none, .mv (.t 36)⟩, ⟨(some 38), (some (37, true)), .mv (.t 3)⟩, ⟨(some 39), (some (37, true)), .bin .eql (.t 38) (.c (.v (.string ⟨#[97, 98]⟩)))⟩, ⟨(some 40), none, .pick (.t 37) (.t 39) (.c (.v (.bool false)))⟩, ⟨(some 41), none, .mv (.t 40)⟩, ⟨(some 42), (some (41, true)), .mv (.t 8)⟩, ⟨(some 43), none, .pick (.t 41) (.t 42) (.c (.v (.bool false)))⟩, ⟨(some 44), none, .mv (.t 43)⟩, ⟨(some 45), (some (44, true)), .fad 2 (.t 7)⟩, ⟨(some 46), (some (44, true)), .load none (.t 45)⟩, ⟨(some 47), (some (44, true)), .bin .eql (.t 46) (.c (.v (.int .u32 4294967289)))⟩, ⟨(some 48), none, .pick (.t 44) (.t 47) (.c (.v (.bool false)))⟩, ⟨(some 49), none, .mv (.t 48)⟩, ⟨(some 50), (some (49, true)), .mv (.t 1)⟩, ⟨(some 51), (some (49, true)), .call (.c (.fn 10 [])) [(.t 50)]⟩, ⟨(some 52), (some (49, true)), .bin .eql (.t 51) (.c (.v (.int .i64 1)))⟩, ⟨(some 53), none, .pick (.t 49) (.t 52) (.c (.v (.bool false)))⟩, ⟨(some 0), none, .mv (.t 53)⟩])
       .ret)))))))
def a_fuglemanlaw09_awake : AFn := ⟨0, b_fuglemanlaw09_awake, [.t 0], false, false⟩
theorem a_fuglemanlaw09_awake_ok : compF Try.prog Try.f7 [] false false hv = some a_fuglemanlaw09_awake := by kernel_rfl

/-! (*fugleman/bus.Bus).Fault: 11 -/
def b_bus_Bus_Fault : AC :=
 (.seq (.reg [⟨(some 2), none, .mv (.c (.v (.bool false)))⟩])
 (.seq (.reg [⟨(some 3), none, .mv (.t 0)⟩, ⟨(some 4), none, .eqp true (.t 3) (.c (.v (.pointer none)))⟩, ⟨(some 5), none, .mv (.t 4)⟩, ⟨(some 6), (some (5, true)), .mv (.t 0)⟩, ⟨(some 7), (some (5, true)), .nilck (.t 6)⟩, ⟨(some 8), (some (5, true)), .fad 1 (.t 7)⟩, ⟨(some 9), (some (5, true)), .load none (.t 8)⟩, ⟨(some 10), none, .pick (.t 5) (.t 9) (.c (.v (.bool false)))⟩, ⟨(some 2), none, .mv (.t 10)⟩])
  .ret))
def a_bus_Bus_Fault : AFn := ⟨1, b_bus_Bus_Fault, [.t 2], false, false⟩
theorem a_bus_Bus_Fault_ok : compF Try.prog Try.f11 [] false false hv = some a_bus_Bus_Fault := by kernel_rfl

/-! fugleman/fuglemanlaw09.BusFull: 3 -/
def l_fuglemanlaw09_BusFull_1 : AC :=
 (.seq (.reg [⟨(some 68), none, .mv (.t 7)⟩, ⟨(some 69), none, .call (.c (.fn 10 [])) [(.t 68)]⟩, ⟨(some 10), none, .mv (.t 69)⟩])
 (.seq (.reg [⟨(some 70), none, .mv (.t 7)⟩, ⟨(some 71), none, .mv (.t 2)⟩, ⟨(some 72), none, .call (.c (.fn 12 [])) [(.t 70), (.t 71)]⟩, ⟨(some 11), none, .mv (.t 72)⟩])
  (.seq (.reg [⟨(some 73), none, .mv (.t 2)⟩, ⟨(some 74), none, .bin .geq (.t 73) (.c (.v (.int .i64 0)))⟩, ⟨(some 75), none, .mv (.t 74)⟩, ⟨(some 76), (some (75, true)), .mv (.t 2)⟩, ⟨(some 77), (some (75, true)), .mv (.t 10)⟩, ⟨(some 78), (some (75, true)), .bin .lss (.t 76) (.t 77)⟩, ⟨(some 79), none, .pick (.t 75) (.t 78) (.c (.v (.bool false)))⟩, ⟨(some 12), none, .mv (.t 79)⟩])
   (.seq (.seq (.reg [⟨(some 80), none, .mv (.t 11)⟩, ⟨(some 81), none, .bin .eql (.t 80) (.c (.v (.int .i64 0)))⟩, ⟨(some 82), none, .mv (.t 12)⟩, ⟨(some 83), none, .eqb true (.t 81) (.t 82)⟩])
     (.cond (.t 83) (.seq (.reg [⟨(some 6), none, .mv (.c (.v (.bool false)))⟩])
       .ret)
      .skip))
    (.seq (.reg [⟨(some 84), none, .mv (.t 7)⟩, ⟨(some 85), none, .mv (.t 1)⟩, ⟨(some 86), none, .call (.c (.fn 9 [])) [(.t 84), (.c (.v (.int .i64 31))), (.t 85)]⟩, ⟨(some 13), none, .mv (.t 86)⟩])
     (.seq (.reg [⟨(some 87), none, .mv (.t 13)⟩, ⟨(some 88), none, .bin .eql (.t 87) (.c (.v (.int .i64 0)))⟩, ⟨(some 89), none, .mv (.t 10)⟩, ⟨(some 90), none, .bin .lss (.t 89) (.c (.v (.int .i64 64)))⟩, ⟨(some 91), none, .mv (.t 90)⟩, ⟨(some 92), (some (91, false)), .mv (.t 12)⟩, ⟨(some 93), none, .pick (.t 91) (.c (.v (.bool true))) (.t 92)⟩, ⟨(some 94), none, .eqb false (.t 88) (.t 93)⟩, ⟨(some 95), none, .mv (.t 94)⟩, ⟨(some 96), (some (95, true)), .mv (.t 7)⟩, ⟨(some 97), (some (95, true)), .call (.c (.fn 11 [])) [(.t 96)]⟩, ⟨(some 98), (some (95, true)), .mv (.t 0)⟩, ⟨(some 99), (some (95, true)), .bin .gtr (.t 98) (.c (.v (.int .u8 64)))⟩, ⟨(some 100), (some (95, true)), .mv (.t 99)⟩, ⟨(some 101), (some (100, false)), .mv (.t 0)⟩, ⟨(some 102), (some (100, false)), .bin .eql (.t 101) (.c (.v (.int .u8 64)))⟩, ⟨(some 103), (some (100, false)), .mv (.t 102)⟩, ⟨(some 104), (some (103, true)), .mv (.t 12)⟩, ⟨(some 105), (some (103, true)), .un .not (.t 104)⟩, ⟨(some 106), (some (100, false)), .pick (.t 103) (.t 105) (.c (.v (.bool false)))⟩, ⟨(some 107), (some (95, true)), .pick (.t 100) (.c (.v (.bool true))) (.t 106)⟩, ⟨(some 108), (some (95, true)), .eqb false (.t 97) (.t 107)⟩, ⟨(some 109), none, .pick (.t 95) (.t 108) (.c (.v (.bool false)))⟩, ⟨(some 6), none, .mv (.t 109)⟩])
      .ret))))))
def l_fuglemanlaw09_BusFull_0 : AC :=
 (.seq (.reg [⟨(some 32), none, .bin .lss (.t 31) (.t 30)⟩])
 (.seq (.cond (.t 32) .skip
   (.exit 0))
  (.seq (.block 1 (.seq (.reg [⟨(some 33), none, .mv (.t 31)⟩, ⟨(some 8), none, .mv (.t 33)⟩])
     (.seq (.reg [⟨(some 34), none, .mv (.t 7)⟩, ⟨(some 35), none, .mv (.t 8)⟩, ⟨(some 36), none, .bin .rem (.t 35) (.c (.v (.int .i64 32)))⟩, ⟨(some 37), none, .mv (.t 1)⟩, ⟨(some 38), none, .call (.c (.fn 9 [])) [(.t 34), (.t 36), (.t 37)]⟩, ⟨(some 9), none, .mv (.t 38)⟩])
      (.seq (.reg [⟨(some 39), none, .mv (.t 9)⟩, ⟨(some 40), none, .bin .eql (.t 39) (.c (.v (.int .i64 0)))⟩, ⟨(some 41), none, .mv (.t 8)⟩, ⟨(some 42), none, .bin .lss (.t 41) (.c (.v (.int .i64 64)))⟩, ⟨(some 43), none, .eqb true (.t 40) (.t 42)⟩, ⟨(some 44), none, .mv (.t 43)⟩, ⟨(some 45), (some (44, false)), .mv (.t 9)⟩, ⟨(some 46), (some (44, false)), .bin .neq (.t 45) (.c (.v (.int .i64 0)))⟩, ⟨(some 47), (some (44, false)), .mv (.t 46)⟩, ⟨(some 48), (some (47, true)), .mv (.t 9)⟩, ⟨(some 49), (some (47, true)), .bin .neq (.t 48) (.c (.v (.int .i64 8)))⟩, ⟨(some 50), (some (44, false)), .pick (.t 47) (.t 49) (.c (.v (.bool false)))⟩, ⟨(some 51), none, .pick (.t 44) (.c (.v (.bool true))) (.t 50)⟩, ⟨(some 52), none, .mv (.t 51)⟩, ⟨(some 53), (some (52, false)), .mv (.t 7)⟩, ⟨(some 54), (some (52, false)), .call (.c (.fn 10 [])) [(.t 53)]⟩, ⟨(some 55), (some (52, false)), .mv (.t 8)⟩, ⟨(some 56), (some (52, false)), .bin .add (.t 55) (.c (.v (.int .i64 1)))⟩, ⟨(some 57), (some (52, false)), .min [(.t 56), (.c (.v (.int .i64 64)))]⟩, ⟨(some 58), (some (52, false)), .bin .neq (.t 54) (.t 57)⟩, ⟨(some 59), none, .pick (.t 52) (.c (.v (.bool true))) (.t 58)⟩, ⟨(some 60), none, .mv (.t 59)⟩, ⟨(some 61), (some (60, false)), .mv (.t 7)⟩, ⟨(some 62), (some (60, false)), .call (.c (.fn 11 [])) [(.t 61)]⟩, ⟨(some 63), (some (60, false)), .mv (.t 8)⟩, ⟨(some 64), (some (60, false)), .bin .geq (.t 63) (.c (.v (.int .i64 64)))⟩, ⟨(some 65), (some (60, false)), .eqb true (.t 62) (.t 64)⟩, ⟨(some 66), none, .pick (.t 60) (.c (.v (.bool true))) (.t 65)⟩])
       (.cond (.t 66) (.seq (.reg [⟨(some 6), none, .mv (.c (.v (.bool false)))⟩])
         .ret)
        .skip)))))
   (.reg [⟨(some 67), none, .bin .add (.t 31) (.c (.v (.int .i64 1)))⟩, ⟨(some 31), none, .mv (.t 67)⟩]))))
def b_fuglemanlaw09_BusFull : AC :=
 (.seq (.reg [⟨(some 6), none, .mv (.c (.v (.bool false)))⟩])
 (.seq (.seq (.reg [⟨(some 14), none, .call (.c (.fn 7 [])) []⟩, ⟨(some 15), none, .un .not (.t 14)⟩])
   (.cond (.t 15) (.seq (.reg [⟨(some 6), none, .mv (.c (.v (.bool false)))⟩])
     .ret)
    .skip))
  (.seq (.seq (.reg [⟨(some 16), none, .mv (.t 0)⟩, ⟨(some 17), none, .bin .gtr (.t 16) (.c (.v (.int .u8 100)))⟩, ⟨(some 18), none, .mv (.t 17)⟩, ⟨(some 19), (some (18, false)), .mv (.t 1)⟩, ⟨(some 20), (some (18, false)), .lens (.t 19)⟩, ⟨(some 21), (some (18, false)), .bin .lss (.t 20) (.c (.v (.int .i64 1)))⟩, ⟨(some 22), none, .pick (.t 18) (.c (.v (.bool true))) (.t 21)⟩, ⟨(some 23), none, .mv (.t 22)⟩, ⟨(some 24), (some (23, false)), .mv (.t 1)⟩, ⟨(some 25), (some (23, false)), .lens (.t 24)⟩, ⟨(some 26), (some (23, false)), .bin .gtr (.t 25) (.c (.v (.int .i64 255)))⟩, ⟨(some 27), none, .pick (.t 23) (.c (.v (.bool true))) (.t 26)⟩])
    (.cond (.t 27) (.seq (.reg [⟨(some 6), none, .mv (.c (.v (.bool true)))⟩])
      .ret)
     .skip))
   (.seq (.reg [⟨(some 28), none, .call (.c (.fn 8 [])) []⟩, ⟨(some 7), none, .mv (.t 28)⟩])
    (.seq (.seq (.reg [⟨(some 29), none, .mv (.t 0)⟩, ⟨(some 30), none, .cvi .i64 (.t 29)⟩, ⟨(some 31), none, .mv (.c (.v (.int .i64 0)))⟩])
      (.block 0 (.loop [0, 1, 2, 7, 30, 31] l_fuglemanlaw09_BusFull_0)))
     l_fuglemanlaw09_BusFull_1)))))
def a_fuglemanlaw09_BusFull : AFn := ⟨3, b_fuglemanlaw09_BusFull, [.t 6], false, false⟩
theorem a_fuglemanlaw09_BusFull_ok : compF Try.prog Try.f3 [[0, 1, 2, 7, 30, 31]] false false hv = some a_fuglemanlaw09_BusFull := by kernel_rfl

/-! (*fugleman/bus.Bus).whole: 26 -/
def b_bus_Bus_whole : AC :=
 (.seq (.reg [⟨(some 4), none, .mv (.c (.v (.pointer none)))⟩, ⟨(some 5), none, .mv (.c (.v (.int .i64 0)))⟩])
 (.seq (.reg [⟨(some 7), none, .mv (.t 0)⟩, ⟨(some 8), none, .mv (.t 1)⟩, ⟨(some 9), none, .call (.c (.fn 24 [])) [(.t 7), (.t 8)]⟩, ⟨(some 6), none, .mv (.t 9)⟩])
  (.seq (.block 0 (.seq (.reg [⟨(some 11), none, .mv (.t 6)⟩, ⟨(some 12), none, .eqp false (.t 11) (.c (.v (.pointer none)))⟩, ⟨(some 10), none, .mv (.t 12)⟩])
     (.cond (.t 10) (.seq (.reg [⟨(some 4), none, .mv (.c (.v (.pointer none)))⟩, ⟨(some 5), none, .mv (.c (.v (.int .i64 1)))⟩])
       .ret)
      (.seq (.reg [⟨(some 14), none, .mv (.t 6)⟩, ⟨(some 15), none, .nilck (.t 14)⟩, ⟨(some 16), none, .fad 3 (.t 15)⟩, ⟨(some 17), none, .load none (.t 16)⟩, ⟨(some 13), none, .mv (.t 17)⟩])
       (.cond (.t 13) (.seq (.reg [⟨(some 4), none, .mv (.c (.v (.pointer none)))⟩, ⟨(some 5), none, .mv (.c (.v (.int .i64 11)))⟩])
         .ret)
        .skip)))))
   (.seq (.reg [⟨(some 18), none, .mv (.t 6)⟩, ⟨(some 4), none, .mv (.t 18)⟩, ⟨(some 5), none, .mv (.c (.v (.int .i64 0)))⟩])
    .ret))))
def a_bus_Bus_whole : AFn := ⟨2, b_bus_Bus_whole, [.t 4, .t 5], false, false⟩
theorem a_bus_Bus_whole_ok : compF Try.prog Try.f26 [] false false hv = some a_bus_Bus_whole := by kernel_rfl

/-! fugleman/bus.hurt: 27 -/
def b_bus_hurt : AC :=
 (.seq (.reg [⟨(some 4), none, .mv (.t 0)⟩, ⟨(some 5), none, .mv (.t 0)⟩, ⟨(some 6), none, .nilck (.t 5)⟩, ⟨(some 7), none, .fad 0 (.t 6)⟩, ⟨(some 8), none, .load none (.t 7)⟩, ⟨(some 9), none, .mv (.t 1)⟩, ⟨(some 10), none, .bin .neq (.t 8) (.t 9)⟩, ⟨(some 11), none, .nilck (.t 4)⟩, ⟨(some 12), none, .fad 3 (.t 11)⟩, ⟨none, none, .store 1 (.t 12) (.t 10)⟩])
 (.reg [⟨(some 13), none, .mv (.t 0)⟩, ⟨(some 14), none, .mv (.t 1)⟩, ⟨(some 15), none, .nilck (.t 13)⟩, ⟨(some 16), none, .fad 0 (.t 15)⟩, ⟨none, none, .store 1 (.t 16) (.t 14)⟩]))
def a_bus_hurt : AFn := ⟨2, b_bus_hurt, [], false, true⟩
theorem a_bus_hurt_ok : compF Try.prog Try.f27 [] false true hv = some a_bus_hurt := by kernel_rfl

/-! fugleman/crc.Burst: 28 -/
def l_crc_Burst_1 : AC :=
 (.seq (.reg [⟨(some 55), none, .mv (.t 7)⟩, ⟨(some 56), none, .cvbs (.t 55)⟩, ⟨(some 6), none, .mv (.t 56)⟩])
 .ret)
def l_crc_Burst_0 : AC :=
 (.seq (.seq (.reg [⟨(some 30), none, .mv (.t 9)⟩, ⟨(some 31), none, .mv (.t 1)⟩, ⟨(some 32), none, .bin .quo (.t 31) (.c (.v (.int .i64 8)))⟩, ⟨(some 33), none, .bin .add (.t 32) (.c (.v (.int .i64 3)))⟩, ⟨(some 34), none, .mv (.t 7)⟩, ⟨(some 35), none, .len (.t 34)⟩, ⟨(some 36), none, .min [(.t 33), (.t 35)]⟩, ⟨(some 37), none, .bin .lss (.t 30) (.t 36)⟩])
  (.cond (.t 37) .skip
   (.exit 0)))
 (.seq (.block 1 (.regm [(false, ⟨(some 40), none, .mv (.t 7)⟩), (false, ⟨(some 41), none, .mv (.t 9)⟩), (false, ⟨(some 42), none, .ixs 1 (.t 40) (.t 41)⟩), (false, ⟨(some 43), none, .load none (.t 42)⟩), (false, ⟨(some 44), none, .mv (.t 8)⟩), (false, ⟨(some 45), none, .mv (.t 9)⟩), (false, ⟨(some 46), none, .mv (.t 1)⟩), (false, ⟨(some 47), none, .bin .quo (.t 46) (.c (.v (.int .i64 8)))⟩), (false, ⟨(some 48), none, .bin .sub (.t 45) (.t 47)⟩), (false, ⟨(some 49), none, .bin .mul (.c (.v (.int .i64 8))) (.t 48)⟩), (false, ⟨(some 50), none, .bin .sub (.c (.v (.int .i64 16))) (.t 49)⟩), (false, ⟨(some 51), none, .bin .shr (.t 44) (.t 50)⟩), (false, ⟨(some 52), none, .cvi .u8 (.t 51)⟩), (false, ⟨(some 53), none, .bin .xor (.t 43) (.t 52)⟩), (false, ⟨(some 54), none, .ixs 1 (.t 40) (.t 41)⟩), (false, ⟨none, none, .store 1 (.t 54) (.t 53)⟩)]))
  (.reg [⟨(some 38), none, .mv (.t 9)⟩, ⟨(some 39), none, .bin .add (.t 38) (.c (.v (.int .i64 1)))⟩, ⟨(some 9), none, .mv (.t 39)⟩])))
def b_crc_Burst : AC :=
 (.seq (.reg [⟨(some 6), none, .mv (.c (.v (.string ⟨#[]⟩)))⟩])
 (.seq (.seq (.reg [⟨(some 10), none, .mv (.t 1)⟩, ⟨(some 11), none, .bin .lss (.t 10) (.c (.v (.int .i64 0)))⟩, ⟨(some 12), none, .mv (.t 11)⟩, ⟨(some 13), (some (12, false)), .mv (.t 1)⟩, ⟨(some 14), (some (12, false)), .mv (.t 0)⟩, ⟨(some 15), (some (12, false)), .lens (.t 14)⟩, ⟨(some 16), (some (12, false)), .bin .mul (.c (.v (.int .i64 8))) (.t 15)⟩, ⟨(some 17), (some (12, false)), .bin .geq (.t 13) (.t 16)⟩, ⟨(some 18), none, .pick (.t 12) (.c (.v (.bool true))) (.t 17)⟩])
   (.cond (.t 18) (.seq (.reg [⟨(some 19), none, .mv (.t 0)⟩, ⟨(some 6), none, .mv (.t 19)⟩])
     .ret)
    .skip))
  (.seq (.reg [⟨(some 20), none, .mv (.t 0)⟩, ⟨(some 21), none, .cvsb (.t 20)⟩, ⟨(some 7), none, .mv (.t 21)⟩])
   (.seq (.reg [⟨(some 22), none, .mv (.t 2)⟩, ⟨(some 23), none, .cvi .u32 (.t 22)⟩, ⟨(some 24), none, .mv (.t 1)⟩, ⟨(some 25), none, .bin .rem (.t 24) (.c (.v (.int .i64 8)))⟩, ⟨(some 26), none, .bin .sub (.c (.v (.int .i64 8))) (.t 25)⟩, ⟨(some 27), none, .bin .shl (.t 23) (.t 26)⟩, ⟨(some 8), none, .mv (.t 27)⟩])
    (.seq (.seq (.reg [⟨(some 28), none, .mv (.t 1)⟩, ⟨(some 29), none, .bin .quo (.t 28) (.c (.v (.int .i64 8)))⟩, ⟨(some 9), none, .mv (.t 29)⟩])
      (.block 0 (.loop [1, 7, 8, 9] l_crc_Burst_0)))
     l_crc_Burst_1)))))
def a_crc_Burst : AFn := ⟨3, b_crc_Burst, [.t 6], false, false⟩
theorem a_crc_Burst_ok : compF Try.prog Try.f28 [[1, 7, 8, 9]] false false hv = some a_crc_Burst := by kernel_rfl

/-! (*fugleman/bus.Bus).Burst: 13 -/
def b_bus_Bus_Burst : AC :=
 (.seq (.reg [⟨(some 8), none, .mv (.c (.v (.int .i64 0)))⟩])
 (.seq (.reg [⟨(some 12), none, .mv (.t 0)⟩, ⟨(some 13), none, .mv (.t 1)⟩, ⟨(some 14), none, .call (.c (.fn 26 [])) [(.t 12), (.t 13)]⟩, ⟨(some 11), none, .mv (.t 14)⟩, ⟨(some 15), none, .ext 0 (.t 11)⟩, ⟨(some 16), none, .ext 1 (.t 11)⟩, ⟨(some 9), none, .mv (.t 15)⟩, ⟨(some 10), none, .mv (.t 16)⟩])
  (.seq (.seq (.reg [⟨(some 17), none, .mv (.t 10)⟩, ⟨(some 18), none, .bin .eql (.t 17) (.c (.v (.int .i64 0)))⟩])
    (.cond (.t 18) (.reg [⟨(some 19), none, .mv (.t 9)⟩, ⟨(some 20), none, .mv (.t 9)⟩, ⟨(some 21), none, .nilck (.t 20)⟩, ⟨(some 22), none, .fad 0 (.t 21)⟩, ⟨(some 23), none, .load none (.t 22)⟩, ⟨(some 24), none, .mv (.t 2)⟩, ⟨(some 25), none, .mv (.t 3)⟩, ⟨(some 26), none, .call (.c (.fn 28 [])) [(.t 23), (.t 24), (.t 25)]⟩, ⟨(some 27), none, .call (.c (.fn 27 [])) [(.t 19), (.t 26)]⟩])
     .skip))
   (.seq (.reg [⟨(some 28), none, .mv (.t 10)⟩, ⟨(some 8), none, .mv (.t 28)⟩])
    .ret))))
def a_bus_Bus_Burst : AFn := ⟨4, b_bus_Bus_Burst, [.t 8], false, true⟩
theorem a_bus_Bus_Burst_ok : compF Try.prog Try.f13 [] false true hv = some a_bus_Bus_Burst := by kernel_rfl

/-! (*fugleman/bus.Bus).Twice: 15 -/
def b_bus_Bus_Twice : AC :=
 (.seq (.reg [⟨(some 4), none, .mv (.c (.v (.int .i64 0)))⟩])
 (.seq (.reg [⟨(some 6), none, .mv (.t 0)⟩, ⟨(some 7), none, .mv (.t 1)⟩, ⟨(some 8), none, .call (.c (.fn 24 [])) [(.t 6), (.t 7)]⟩, ⟨(some 5), none, .mv (.t 8)⟩])
  (.seq (.seq (.reg [⟨(some 9), none, .mv (.t 5)⟩, ⟨(some 10), none, .eqp false (.t 9) (.c (.v (.pointer none)))⟩])
    (.cond (.t 10) (.seq (.reg [⟨(some 4), none, .mv (.c (.v (.int .i64 1)))⟩])
      .ret)
     .skip))
   (.seq (.reg [⟨(some 11), none, .mv (.t 0)⟩, ⟨(some 12), none, .mv (.t 5)⟩, ⟨(some 13), none, .nilck (.t 12)⟩, ⟨(some 14), none, .load (some 4) (.t 13)⟩, ⟨(some 15), none, .call (.c (.fn 22 [])) [(.t 11), (.t 14)]⟩, ⟨(some 4), none, .mv (.t 15)⟩])
    .ret))))
def a_bus_Bus_Twice : AFn := ⟨2, b_bus_Bus_Twice, [.t 4], false, true⟩
theorem a_bus_Bus_Twice_ok : compF Try.prog Try.f15 [] false true hv = some a_bus_Bus_Twice := by kernel_rfl

/-! (*fugleman/bus.Bus).Cut: 16 -/
def b_bus_Bus_Cut : AC :=
 (.seq (.reg [⟨(some 6), none, .mv (.c (.v (.int .i64 0)))⟩])
 (.seq (.reg [⟨(some 10), none, .mv (.t 0)⟩, ⟨(some 11), none, .mv (.t 1)⟩, ⟨(some 12), none, .call (.c (.fn 26 [])) [(.t 10), (.t 11)]⟩, ⟨(some 9), none, .mv (.t 12)⟩, ⟨(some 13), none, .ext 0 (.t 9)⟩, ⟨(some 14), none, .ext 1 (.t 9)⟩, ⟨(some 7), none, .mv (.t 13)⟩, ⟨(some 8), none, .mv (.t 14)⟩])
  (.seq (.seq (.reg [⟨(some 15), none, .mv (.t 8)⟩, ⟨(some 16), none, .bin .neq (.t 15) (.c (.v (.int .i64 0)))⟩])
    (.cond (.t 16) (.seq (.reg [⟨(some 17), none, .mv (.t 8)⟩, ⟨(some 6), none, .mv (.t 17)⟩])
      .ret)
     .skip))
   (.seq (.seq (.reg [⟨(some 18), none, .mv (.t 2)⟩, ⟨(some 19), none, .bin .lss (.t 18) (.c (.v (.int .i64 1)))⟩, ⟨(some 20), none, .mv (.t 19)⟩, ⟨(some 21), (some (20, false)), .mv (.t 2)⟩, ⟨(some 22), (some (20, false)), .mv (.t 7)⟩, ⟨(some 23), (some (20, false)), .nilck (.t 22)⟩, ⟨(some 24), (some (20, false)), .fad 0 (.t 23)⟩, ⟨(some 25), (some (20, false)), .load none (.t 24)⟩, ⟨(some 26), (some (20, false)), .lens (.t 25)⟩, ⟨(some 27), (some (20, false)), .bin .geq (.t 21) (.t 26)⟩, ⟨(some 28), none, .pick (.t 20) (.c (.v (.bool true))) (.t 27)⟩])
     (.cond (.t 28) (.seq (.reg [⟨(some 6), none, .mv (.c (.v (.int .i64 1)))⟩])
       .ret)
      .skip))
    (.seq (.regm [(false, ⟨(some 29), none, .mv (.t 7)⟩), (false, ⟨(some 30), none, .mv (.t 7)⟩), (false, ⟨(some 31), none, .nilck (.t 30)⟩), (false, ⟨(some 32), none, .fad 0 (.t 31)⟩), (false, ⟨(some 33), none, .load none (.t 32)⟩), (false, ⟨(some 34), none, .mv (.t 7)⟩), (false, ⟨(some 35), none, .nilck (.t 34)⟩), (false, ⟨(some 36), none, .fad 0 (.t 35)⟩), (false, ⟨(some 37), none, .load none (.t 36)⟩), (false, ⟨(some 38), none, .lens (.t 37)⟩), (false, ⟨(some 39), none, .mv (.t 2)⟩), (false, ⟨(some 40), none, .bin .sub (.t 38) (.t 39)⟩), (false, ⟨(some 41), none, .slstr (.t 33) none (some (.t 40))⟩), (false, ⟨(some 42), none, .call (.c (.fn 27 [])) [(.t 29), (.t 41)]⟩)])
     (.seq (.reg [⟨(some 6), none, .mv (.c (.v (.int .i64 0)))⟩])
      .ret))))))
def a_bus_Bus_Cut : AFn := ⟨3, b_bus_Bus_Cut, [.t 6], false, true⟩
theorem a_bus_Bus_Cut_ok : compF Try.prog Try.f16 [] false true hv = some a_bus_Bus_Cut := by kernel_rfl

/-! fugleman/fuglemanlaw09.BusHurts: 4 -/
def b_fuglemanlaw09_BusHurts : AC :=
 (.seq (.reg [⟨(some 4), none, .box (.t 1)⟩, ⟨(some 5), none, .box (.t 2)⟩, ⟨(some 6), none, .mv (.c (.v (.bool false)))⟩])
 (.seq (.seq (.reg [⟨(some 20), none, .call (.c (.fn 7 [])) []⟩, ⟨(some 21), none, .un .not (.t 20)⟩])
   (.cond (.t 21) (.seq (.reg [⟨(some 6), none, .mv (.c (.v (.bool false)))⟩])
     .ret)
    .skip))
  (.seq (.seq (.reg [⟨(some 22), none, .mv (.t 0)⟩, ⟨(some 23), none, .lens (.t 22)⟩, ⟨(some 24), none, .bin .lss (.t 23) (.c (.v (.int .i64 2)))⟩, ⟨(some 25), none, .mv (.t 24)⟩, ⟨(some 26), (some (25, false)), .mv (.t 0)⟩, ⟨(some 27), (some (25, false)), .lens (.t 26)⟩, ⟨(some 28), (some (25, false)), .bin .gtr (.t 27) (.c (.v (.int .i64 40)))⟩, ⟨(some 29), none, .pick (.t 25) (.c (.v (.bool true))) (.t 28)⟩])
    (.cond (.t 29) (.seq (.reg [⟨(some 6), none, .mv (.c (.v (.bool true)))⟩])
      .ret)
     .skip))
   (.seq (.reg [⟨(some 30), none, .call (.c (.fn 8 [])) []⟩, ⟨(some 7), none, .mv (.t 30)⟩])
    (.seq (.seq (.reg [⟨(some 31), none, .mv (.t 7)⟩, ⟨(some 32), none, .mv (.t 0)⟩, ⟨(some 33), none, .call (.c (.fn 9 [])) [(.t 31), (.c (.v (.int .i64 3))), (.t 32)]⟩, ⟨(some 34), none, .bin .neq (.t 33) (.c (.v (.int .i64 0)))⟩, ⟨(some 35), none, .mv (.t 34)⟩, ⟨(some 36), (some (35, false)), .mv (.t 7)⟩, ⟨(some 37), (some (35, false)), .call (.c (.fn 9 [])) [(.t 36), (.c (.v (.int .i64 4))), (.c (.v (.string ⟨#[111, 116, 104, 101, 114]⟩)))]⟩, ⟨(some 38), (some (35, false)), .bin .neq (.t 37) (.c (.v (.int .i64 0)))⟩, ⟨(some 39), none, .pick (.t 35) (.c (.v (.bool true))) (.t 38)⟩])
      (.cond (.t 39) (.seq (.reg [⟨(some 6), none, .mv (.c (.v (.bool false)))⟩])
        .ret)
       .skip))
     (.seq (.reg [⟨(some 40), none, .mv (.t 7)⟩, ⟨(some 41), none, .fad 2 (.t 4)⟩, ⟨(some 42), none, .load none (.t 41)⟩, ⟨(some 43), none, .fad 3 (.t 4)⟩, ⟨(some 44), none, .load none (.t 43)⟩, ⟨(some 45), none, .call (.c (.fn 13 [])) [(.t 40), (.c (.v (.int .i64 0))), (.t 42), (.t 44)]⟩, ⟨(some 8), none, .mv (.t 45)⟩])
      (.seq (.reg [⟨(some 47), none, .mv (.t 7)⟩, ⟨(some 48), none, .call (.c (.fn 14 [])) [(.t 47), (.c (.v (.int .i64 0)))]⟩, ⟨(some 46), none, .mv (.t 48)⟩, ⟨(some 49), none, .ext 0 (.t 46)⟩, ⟨(some 50), none, .ext 1 (.t 46)⟩, ⟨(some 9), none, .alloc [(.v (.string ⟨#[]⟩)), (.v (.int .i64 0)), (.v (.int .u32 0)), (.v (.bool false))]⟩, ⟨none, none, .store 4 (.t 9) (.t 49)⟩, ⟨(some 10), none, .mv (.t 50)⟩])
       (.seq (.seq (.reg [⟨(some 51), none, .mv (.t 8)⟩, ⟨(some 52), none, .bin .neq (.t 51) (.c (.v (.int .i64 0)))⟩, ⟨(some 53), none, .mv (.t 52)⟩, ⟨(some 54), (some (53, false)), .fad 3 (.t 9)⟩, ⟨(some 55), (some (53, false)), .load none (.t 54)⟩, ⟨(some 56), (some (53, false)), .fad 0 (.t 9)⟩, ⟨(some 57), (some (53, false)), .load none (.t 56)⟩, ⟨(some 58), (some (53, false)), .mv (.t 0)⟩, ⟨(some 59), (some (53, false)), .bin .neq (.t 57) (.t 58)⟩, ⟨(some 60), (some (53, false)), .eqb true (.t 55) (.t 59)⟩, ⟨(some 61), none, .pick (.t 53) (.c (.v (.bool true))) (.t 60)⟩, ⟨(some 62), none, .mv (.t 61)⟩, ⟨(some 63), (some (62, false)), .mv (.t 7)⟩, ⟨(some 64), (some (62, false)), .call (.c (.fn 15 [])) [(.t 63), (.c (.v (.int .i64 0)))]⟩, ⟨(some 65), (some (62, false)), .bin .neq (.t 64) (.c (.v (.int .i64 0)))⟩, ⟨(some 66), none, .pick (.t 62) (.c (.v (.bool true))) (.t 65)⟩])
         (.cond (.t 66) (.seq (.reg [⟨(some 6), none, .mv (.c (.v (.bool false)))⟩])
           .ret)
          .skip))
        (.seq (.reg [⟨(some 67), none, .fad 0 (.t 5)⟩, ⟨(some 68), none, .load none (.t 67)⟩, ⟨(some 69), none, .bin .rem (.t 68) (.c (.v (.int .u8 2)))⟩, ⟨(some 70), none, .cvi .i64 (.t 69)⟩, ⟨(some 71), none, .bin .mul (.c (.v (.int .i64 2))) (.t 70)⟩, ⟨(some 11), none, .mv (.t 71)⟩])
         (.seq (.reg [⟨(some 72), none, .fad 3 (.t 5)⟩, ⟨(some 73), none, .load none (.t 72)⟩, ⟨(some 74), none, .cvi .i64 (.t 73)⟩, ⟨(some 75), none, .mv (.t 0)⟩, ⟨(some 76), none, .lens (.t 75)⟩, ⟨(some 77), none, .bin .sub (.t 76) (.c (.v (.int .i64 1)))⟩, ⟨(some 78), none, .bin .rem (.t 74) (.t 77)⟩, ⟨(some 79), none, .bin .add (.c (.v (.int .i64 1))) (.t 78)⟩, ⟨(some 12), none, .mv (.t 79)⟩])
          (.seq (.reg [⟨(some 80), none, .mv (.t 7)⟩, ⟨(some 81), none, .mv (.t 11)⟩, ⟨(some 82), none, .mv (.t 12)⟩, ⟨(some 83), none, .call (.c (.fn 16 [])) [(.t 80), (.t 81), (.t 82)]⟩, ⟨(some 13), none, .mv (.t 83)⟩])
           (.seq (.reg [⟨(some 85), none, .mv (.t 7)⟩, ⟨(some 86), none, .mv (.t 11)⟩, ⟨(some 87), none, .call (.c (.fn 14 [])) [(.t 85), (.t 86)]⟩, ⟨(some 84), none, .mv (.t 87)⟩, ⟨(some 88), none, .ext 0 (.t 84)⟩, ⟨(some 89), none, .ext 1 (.t 84)⟩, ⟨(some 14), none, .alloc [(.v (.string ⟨#[]⟩)), (.v (.int .i64 0)), (.v (.int .u32 0)), (.v (.bool false))]⟩, ⟨none, none, .store 4 (.t 14) (.t 88)⟩, ⟨(some 15), none, .mv (.t 89)⟩])
            (.seq (.reg [⟨(some 91), none, .mv (.t 7)⟩, ⟨(some 92), none, .mv (.t 11)⟩, ⟨(some 93), none, .bin .sub (.c (.v (.int .i64 2))) (.t 92)⟩, ⟨(some 94), none, .call (.c (.fn 14 [])) [(.t 91), (.t 93)]⟩, ⟨(some 90), none, .mv (.t 94)⟩, ⟨(some 95), none, .ext 0 (.t 90)⟩, ⟨(some 96), none, .ext 1 (.t 90)⟩, ⟨(some 16), none, .alloc [(.v (.string ⟨#[]⟩)), (.v (.int .i64 0)), (.v (.int .u32 0)), (.v (.bool false))]⟩, ⟨none, none, .store 4 (.t 16) (.t 95)⟩, ⟨(some 17), none, .mv (.t 96)⟩])
             (.seq (.reg [⟨(some 98), none, .mv (.t 7)⟩, ⟨(some 99), none, .call (.c (.fn 14 [])) [(.t 98), (.c (.v (.int .i64 1)))]⟩, ⟨(some 97), none, .mv (.t 99)⟩, ⟨(some 100), none, .ext 0 (.t 97)⟩, ⟨(some 101), none, .ext 1 (.t 97)⟩, ⟨(some 18), none, .alloc [(.v (.string ⟨#[]⟩)), (.v (.int .i64 0)), (.v (.int .u32 0)), (.v (.bool false))]⟩, ⟨none, none, .store 4 (.t 18) (.t 100)⟩, ⟨(some 19), none, .mv (.t 101)⟩])
              (.seq (.seq (.reg [⟨(some 102), none, .load (some 4) (.t 16)⟩, ⟨(some 103), none, .load (some 4) (.t 9)⟩, ⟨(some 104), none, .eqst true [(0, .s), (1, .i), (2, .i), (3, .b)] (.t 102) (.t 103)⟩, ⟨(some 105), none, .mv (.t 104)⟩, ⟨(some 106), (some (105, false)), .fad 0 (.t 18)⟩, ⟨(some 107), (some (105, false)), .load none (.t 106)⟩, ⟨(some 108), (some (105, false)), .bin .neq (.t 107) (.c (.v (.string ⟨#[111, 116, 104, 101, 114]⟩)))⟩, ⟨(some 109), none, .pick (.t 105) (.c (.v (.bool true))) (.t 108)⟩, ⟨(some 110), none, .mv (.t 109)⟩, ⟨(some 111), (some (110, false)), .fad 3 (.t 18)⟩, ⟨(some 112), (some (110, false)), .load none (.t 111)⟩, ⟨(some 113), none, .pick (.t 110) (.c (.v (.bool true))) (.t 112)⟩])
                (.cond (.t 113) (.seq (.reg [⟨(some 6), none, .mv (.c (.v (.bool false)))⟩])
                  .ret)
                 .skip))
               (.seq (.seq (.reg [⟨(some 114), none, .fad 3 (.t 9)⟩, ⟨(some 115), none, .load none (.t 114)⟩])
                 (.cond (.t 115) (.seq (.reg [⟨(some 116), none, .mv (.t 13)⟩, ⟨(some 117), none, .bin .eql (.t 116) (.c (.v (.int .i64 11)))⟩, ⟨(some 118), none, .mv (.t 117)⟩, ⟨(some 119), (some (118, true)), .load (some 4) (.t 14)⟩, ⟨(some 120), (some (118, true)), .load (some 4) (.t 9)⟩, ⟨(some 121), (some (118, true)), .eqst false [(0, .s), (1, .i), (2, .i), (3, .b)] (.t 119) (.t 120)⟩, ⟨(some 122), none, .pick (.t 118) (.t 121) (.c (.v (.bool false)))⟩, ⟨(some 123), none, .mv (.t 122)⟩, ⟨(some 124), (some (123, true)), .mv (.t 7)⟩, ⟨(some 125), (some (123, true)), .mv (.t 11)⟩, ⟨(some 126), (some (123, true)), .call (.c (.fn 13 [])) [(.t 124), (.t 125), (.c (.v (.int .i64 0))), (.c (.v (.int .u16 65535)))]⟩, ⟨(some 127), (some (123, true)), .bin .eql (.t 126) (.c (.v (.int .i64 11)))⟩, ⟨(some 128), none, .pick (.t 123) (.t 127) (.c (.v (.bool false)))⟩, ⟨(some 6), none, .mv (.t 128)⟩])
                   .ret)
                  .skip))
                (.seq (.regm [(false, ⟨(some 129), none, .mv (.t 13)⟩), (false, ⟨(some 130), none, .bin .eql (.t 129) (.c (.v (.int .i64 0)))⟩), (false, ⟨(some 131), none, .mv (.t 130)⟩), (false, ⟨(some 132), (some (131, true)), .fad 3 (.t 14)⟩), (false, ⟨(some 133), (some (131, true)), .load none (.t 132)⟩), (false, ⟨(some 134), none, .pick (.t 131) (.t 133) (.c (.v (.bool false)))⟩), (false, ⟨(some 135), none, .mv (.t 134)⟩), (false, ⟨(some 136), (some (135, true)), .fad 0 (.t 14)⟩), (false, ⟨(some 137), (some (135, true)), .load none (.t 136)⟩), (false, ⟨(some 138), (some (135, true)), .mv (.t 0)⟩), (false, ⟨(some 139), (some (135, true)), .mv (.t 0)⟩), (false, ⟨(some 140), (some (135, true)), .lens (.t 139)⟩), (false, ⟨(some 141), (some (135, true)), .mv (.t 12)⟩), (false, ⟨(some 142), (some (135, true)), .bin .sub (.t 140) (.t 141)⟩), (false, ⟨(some 143), (some (135, true)), .slstr (.t 138) none (some (.t 142))⟩), (false, ⟨(some 144), (some (135, true)), .bin .eql (.t 137) (.t 143)⟩), (false, ⟨(some 145), none, .pick (.t 135) (.t 144) (.c (.v (.bool false)))⟩), (false, ⟨(some 146), none, .mv (.t 145)⟩), (false, ⟨(some 147), (some (146, true)), .fad 2 (.t 14)⟩), (false, ⟨(some 148), (some (146, true)), .load none (.t 147)⟩), (false, ⟨(some 149), (some (146, true)), .fad 2 (.t 9)⟩), (false, ⟨(some 150), (some (146, true)), .load none (.t 149)⟩), (false, ⟨(some 151), (some (146, true)), .bin .eql (.t 148) (.t 150)⟩), (false, ⟨(some 152), none, .pick (.t 146) (.t 151) (.c (.v (.bool false)))⟩), (false, ⟨(some 153), none, .mv (.t 152)⟩), (false, ⟨(some 154), (some (153, true)), .mv (.t 7)⟩), (false, ⟨(some 155), (some (153, true)), .mv (.t 11)⟩), (false, ⟨(some 156), (some (153, true)), .call (.c (.fn 16 [])) [(.t 154), (.t 155), (.c (.v (.int .i64 1)))]⟩), (false, ⟨(some 157), (some (153, true)), .bin .eql (.t 156) (.c (.v (.int .i64 11)))⟩), (false, ⟨(some 158), none, .pick (.t 153) (.t 157) (.c (.v (.bool false)))⟩), (false, ⟨(some 6), none, .mv (.t 158)⟩)])
                 .ret)))))))))))))))))
def a_fuglemanlaw09_BusHurts : AFn := ⟨3, b_fuglemanlaw09_BusHurts, [.t 6], false, false⟩
theorem a_fuglemanlaw09_BusHurts_ok : compF Try.prog Try.f4 [] false false hv = some a_fuglemanlaw09_BusHurts := by kernel_rfl

/-! fugleman/fuglemanlaw09.small: 17 -/
def l_fuglemanlaw09_small_1 : AC :=
 (.seq (.reg [⟨(some 4), none, .mv (.c (.v (.bool true)))⟩])
 .ret)
def l_fuglemanlaw09_small_0 : AC :=
 (.seq (.reg [⟨(some 14), none, .bin .lss (.t 13) (.t 12)⟩])
 (.seq (.cond (.t 14) .skip
   (.exit 0))
  (.seq (.block 1 (.seq (.reg [⟨(some 15), none, .ixs 5 (.t 11) (.t 13)⟩, ⟨(some 16), none, .load (some 5) (.t 15)⟩, ⟨(some 6), none, .alloc [(.v (.int .u8 0)), (.v (.int .i64 0)), (.v (.int .i64 0)), (.v (.int .u16 0)), (.v (.string ⟨#[]⟩))]⟩, ⟨none, none, .store 5 (.t 6) (.t 16)⟩])
     (.seq (.reg [⟨(some 17), none, .fad 4 (.t 6)⟩, ⟨(some 18), none, .load none (.t 17)⟩, ⟨(some 19), none, .lens (.t 18)⟩, ⟨(some 20), none, .bin .gtr (.t 19) (.c (.v (.int .i64 300)))⟩])
      (.cond (.t 20) (.seq (.reg [⟨(some 4), none, .mv (.c (.v (.bool false)))⟩])
        .ret)
       .skip))))
   (.reg [⟨(some 21), none, .bin .add (.t 13) (.c (.v (.int .i64 1)))⟩, ⟨(some 13), none, .mv (.t 21)⟩]))))
def b_fuglemanlaw09_small : AC :=
 (.seq (.reg [⟨(some 4), none, .mv (.c (.v (.bool false)))⟩])
 (.seq (.seq (.reg [⟨(some 7), none, .mv (.t 0)⟩, ⟨(some 8), none, .len (.t 7)⟩, ⟨(some 9), none, .mv (.t 1)⟩, ⟨(some 10), none, .bin .gtr (.t 8) (.t 9)⟩])
   (.cond (.t 10) (.seq (.reg [⟨(some 4), none, .mv (.c (.v (.bool false)))⟩])
     .ret)
    .skip))
  (.seq (.seq (.reg [⟨(some 11), none, .mv (.t 0)⟩, ⟨(some 12), none, .len (.t 11)⟩, ⟨(some 13), none, .mv (.c (.v (.int .i64 0)))⟩])
    (.block 0 (.loop [11, 12, 13] l_fuglemanlaw09_small_0)))
   l_fuglemanlaw09_small_1)))
def a_fuglemanlaw09_small : AFn := ⟨2, b_fuglemanlaw09_small, [.t 4], false, false⟩
theorem a_fuglemanlaw09_small_ok : compF Try.prog Try.f17 [[11, 12, 13]] false false hv = some a_fuglemanlaw09_small := by kernel_rfl

/-! (*fugleman/bus.Bus).Lose: 29 -/
def b_bus_Bus_Lose : AC :=
 (.seq (.reg [⟨(some 6), none, .mv (.c (.v (.int .i64 0)))⟩])
 (.seq (.reg [⟨(some 10), none, .mv (.t 0)⟩, ⟨(some 11), none, .mv (.t 1)⟩, ⟨(some 12), none, .mv (.t 2)⟩, ⟨(some 13), none, .call (.c (.fn 21 [])) [(.t 10), (.t 11), (.t 12)]⟩, ⟨(some 9), none, .mv (.t 13)⟩, ⟨(some 14), none, .ext 0 (.t 9)⟩, ⟨(some 15), none, .ext 1 (.t 9)⟩, ⟨(some 7), none, .mv (.t 14)⟩, ⟨(some 8), none, .mv (.t 15)⟩])
  (.seq (.reg [⟨(some 16), none, .mv (.t 8)⟩, ⟨(some 6), none, .mv (.t 16)⟩])
   .ret)))
def a_bus_Bus_Lose : AFn := ⟨3, b_bus_Bus_Lose, [.t 6], false, true⟩
theorem a_bus_Bus_Lose_ok : compF Try.prog Try.f29 [] false true hv = some a_bus_Bus_Lose := by kernel_rfl

/-! fugleman/fuglemanlaw09.do: 18 -/
def b_fuglemanlaw09_do : AC :=
 (.seq (.reg [⟨(some 3), none, .box (.t 1)⟩, ⟨(some 4), none, .mv (.c (.v (.string ⟨#[]⟩)))⟩, ⟨(some 5), none, .mv (.c (.v (.int .i64 0)))⟩])
 (.seq (.seq (.reg [⟨(some 6), none, .fad 0 (.t 3)⟩, ⟨(some 7), none, .load none (.t 6)⟩, ⟨(some 8), none, .bin .rem (.t 7) (.c (.v (.int .u8 7)))⟩])
   (.block 0 (.seq (.reg [⟨(some 10), none, .bin .eql (.t 8) (.c (.v (.int .u8 0)))⟩, ⟨(some 9), none, .mv (.t 10)⟩])
     (.cond (.t 9) (.seq (.reg [⟨(some 11), none, .mv (.t 0)⟩, ⟨(some 12), none, .fad 2 (.t 3)⟩, ⟨(some 13), none, .load none (.t 12)⟩, ⟨(some 14), none, .fad 4 (.t 3)⟩, ⟨(some 15), none, .load none (.t 14)⟩, ⟨(some 16), none, .call (.c (.fn 9 [])) [(.t 11), (.t 13), (.t 15)]⟩, ⟨(some 4), none, .mv (.c (.v (.string ⟨#[]⟩)))⟩, ⟨(some 5), none, .mv (.t 16)⟩])
       .ret)
      (.seq (.reg [⟨(some 18), none, .bin .eql (.t 8) (.c (.v (.int .u8 1)))⟩, ⟨(some 17), none, .mv (.t 18)⟩])
       (.cond (.t 17) (.seq (.reg [⟨(some 19), none, .mv (.t 0)⟩, ⟨(some 20), none, .fad 1 (.t 3)⟩, ⟨(some 21), none, .load none (.t 20)⟩, ⟨(some 22), none, .fad 2 (.t 3)⟩, ⟨(some 23), none, .load none (.t 22)⟩, ⟨(some 24), none, .call (.c (.fn 21 [])) [(.t 19), (.t 21), (.t 23)]⟩, ⟨(some 25), none, .ext 0 (.t 24)⟩, ⟨(some 26), none, .ext 1 (.t 24)⟩, ⟨(some 4), none, .mv (.t 25)⟩, ⟨(some 5), none, .mv (.t 26)⟩])
         .ret)
        (.seq (.reg [⟨(some 28), none, .bin .eql (.t 8) (.c (.v (.int .u8 2)))⟩, ⟨(some 27), none, .mv (.t 28)⟩])
         (.cond (.t 27) (.seq (.reg [⟨(some 29), none, .mv (.t 0)⟩, ⟨(some 30), none, .fad 1 (.t 3)⟩, ⟨(some 31), none, .load none (.t 30)⟩, ⟨(some 32), none, .fad 2 (.t 3)⟩, ⟨(some 33), none, .load none (.t 32)⟩, ⟨(some 34), none, .call (.c (.fn 29 [])) [(.t 29), (.t 31), (.t 33)]⟩, ⟨(some 4), none, .mv (.c (.v (.string ⟨#[]⟩)))⟩, ⟨(some 5), none, .mv (.t 34)⟩])
           .ret)
          (.seq (.reg [⟨(some 36), none, .bin .eql (.t 8) (.c (.v (.int .u8 3)))⟩, ⟨(some 35), none, .mv (.t 36)⟩])
           (.cond (.t 35) (.seq (.reg [⟨(some 37), none, .mv (.t 0)⟩, ⟨(some 38), none, .fad 1 (.t 3)⟩, ⟨(some 39), none, .load none (.t 38)⟩, ⟨(some 40), none, .call (.c (.fn 12 [])) [(.t 37), (.t 39)]⟩, ⟨(some 4), none, .mv (.c (.v (.string ⟨#[]⟩)))⟩, ⟨(some 5), none, .mv (.t 40)⟩])
             .ret)
            (.seq (.reg [⟨(some 42), none, .bin .eql (.t 8) (.c (.v (.int .u8 4)))⟩, ⟨(some 41), none, .mv (.t 42)⟩])
             (.cond (.t 41) (.seq (.reg [⟨(some 43), none, .mv (.t 0)⟩, ⟨(some 44), none, .fad 1 (.t 3)⟩, ⟨(some 45), none, .load none (.t 44)⟩, ⟨(some 46), none, .call (.c (.fn 15 [])) [(.t 43), (.t 45)]⟩, ⟨(some 4), none, .mv (.c (.v (.string ⟨#[]⟩)))⟩, ⟨(some 5), none, .mv (.t 46)⟩])
               .ret)
              (.seq (.reg [⟨(some 48), none, .bin .eql (.t 8) (.c (.v (.int .u8 5)))⟩, ⟨(some 47), none, .mv (.t 48)⟩])
               (.cond (.t 47) (.seq (.reg [⟨(some 49), none, .mv (.t 0)⟩, ⟨(some 50), none, .fad 1 (.t 3)⟩, ⟨(some 51), none, .load none (.t 50)⟩, ⟨(some 52), none, .fad 2 (.t 3)⟩, ⟨(some 53), none, .load none (.t 52)⟩, ⟨(some 54), none, .fad 3 (.t 3)⟩, ⟨(some 55), none, .load none (.t 54)⟩, ⟨(some 56), none, .call (.c (.fn 13 [])) [(.t 49), (.t 51), (.t 53), (.t 55)]⟩, ⟨(some 4), none, .mv (.c (.v (.string ⟨#[]⟩)))⟩, ⟨(some 5), none, .mv (.t 56)⟩])
                 .ret)
                .skip))))))))))))))
  (.seq (.reg [⟨(some 57), none, .mv (.t 0)⟩, ⟨(some 58), none, .fad 1 (.t 3)⟩, ⟨(some 59), none, .load none (.t 58)⟩, ⟨(some 60), none, .fad 2 (.t 3)⟩, ⟨(some 61), none, .load none (.t 60)⟩, ⟨(some 62), none, .call (.c (.fn 16 [])) [(.t 57), (.t 59), (.t 61)]⟩, ⟨(some 4), none, .mv (.c (.v (.string ⟨#[]⟩)))⟩, ⟨(some 5), none, .mv (.t 62)⟩])
   .ret)))
def a_fuglemanlaw09_do : AFn := ⟨2, b_fuglemanlaw09_do, [.t 4, .t 5], false, true⟩
theorem a_fuglemanlaw09_do_ok : compF Try.prog Try.f18 [] false true hv = some a_fuglemanlaw09_do := by kernel_rfl

/-! fugleman/fuglemanref01.Bit: 30 -/
def b_fuglemanref01_Bit : AC :=
 (.seq (.reg [⟨(some 4), none, .mv (.c (.v (.int .i64 0)))⟩])
 (.seq (.reg [⟨(some 5), none, .mv (.t 0)⟩, ⟨(some 6), none, .mv (.t 1)⟩, ⟨(some 7), none, .bin .quo (.t 6) (.c (.v (.int .i64 8)))⟩, ⟨(some 8), none, .ixstr (.t 5) (.t 7)⟩, ⟨(some 9), none, .cvi .i64 (.t 8)⟩, ⟨(some 10), none, .mv (.t 1)⟩, ⟨(some 11), none, .bin .rem (.t 10) (.c (.v (.int .i64 8)))⟩, ⟨(some 12), none, .bin .sub (.c (.v (.int .i64 7))) (.t 11)⟩, ⟨(some 13), none, .bin .shr (.t 9) (.t 12)⟩, ⟨(some 14), none, .bin .rem (.t 13) (.c (.v (.int .i64 2)))⟩, ⟨(some 4), none, .mv (.t 14)⟩])
  .ret))
def a_fuglemanref01_Bit : AFn := ⟨2, b_fuglemanref01_Bit, [.t 4], false, false⟩
theorem a_fuglemanref01_Bit_ok : compF Try.prog Try.f30 [] false false hv = some a_fuglemanref01_Bit := by kernel_rfl

/-! (*fugleman/fuglemanref09.Bus).add: 39 -/
def b_fuglemanref09_Bus_add : AC :=
 (.seq (.reg [⟨(some 3), none, .box (.t 1)⟩, ⟨(some 4), none, .mv (.c (.v (.int .i64 0)))⟩])
 (.seq (.seq (.reg [⟨(some 5), none, .mv (.t 0)⟩, ⟨(some 6), none, .nilck (.t 5)⟩, ⟨(some 7), none, .fad 0 (.t 6)⟩, ⟨(some 8), none, .load none (.t 7)⟩, ⟨(some 9), none, .len (.t 8)⟩, ⟨(some 10), none, .bin .eql (.t 9) (.c (.v (.int .i64 64)))⟩])
   (.cond (.t 10) (.seq (.reg [⟨(some 11), none, .mv (.t 0)⟩, ⟨(some 12), none, .nilck (.t 11)⟩, ⟨(some 13), none, .fad 1 (.t 12)⟩, ⟨none, none, .store 1 (.t 13) (.c (.v (.bool true)))⟩])
     (.seq (.reg [⟨(some 4), none, .mv (.c (.v (.int .i64 8)))⟩])
      .ret))
    .skip))
  (.seq (.regm [(false, ⟨(some 14), none, .mv (.t 0)⟩), (false, ⟨(some 15), none, .mv (.t 0)⟩), (false, ⟨(some 16), none, .nilck (.t 15)⟩), (false, ⟨(some 17), none, .fad 0 (.t 16)⟩), (false, ⟨(some 18), none, .load none (.t 17)⟩), (false, ⟨(some 19), none, .load (some 4) (.t 3)⟩), (false, ⟨(some 20), none, .row 4 1 [(.v (.string ⟨#[]⟩)), (.v (.int .i64 0)), (.v (.int .u32 0)), (.v (.bool false))] [(0, 4, (.t 19))]⟩), (false, ⟨(some 21), none, .app 4 32 (.t 18) (.t 20)⟩), (false, ⟨(some 22), none, .nilck (.t 14)⟩), (false, ⟨(some 23), none, .fad 0 (.t 22)⟩), (false, ⟨none, none, .store 1 (.t 23) (.t 21)⟩)])
   (.seq (.reg [⟨(some 4), none, .mv (.c (.v (.int .i64 0)))⟩])
    .ret))))
def a_fuglemanref09_Bus_add : AFn := ⟨2, b_fuglemanref09_Bus_add, [.t 4], false, true⟩
theorem a_fuglemanref09_Bus_add_ok : compF Try.prog Try.f39 [] false true hv = some a_fuglemanref09_Bus_add := by kernel_rfl

/-! fugleman/fuglemanref05.Has: 42 -/
def l_fuglemanref05_Has_1 : AC :=
 (.seq (.reg [⟨(some 19), none, .mv (.t 0)⟩, ⟨(some 20), none, .bin .rem (.t 19) (.c (.v (.int .u32 2)))⟩, ⟨(some 21), none, .bin .eql (.t 20) (.c (.v (.int .u32 1)))⟩, ⟨(some 4), none, .mv (.t 21)⟩])
 .ret)
def l_fuglemanref05_Has_0 : AC :=
 (.seq (.seq (.reg [⟨(some 12), none, .mv (.t 5)⟩, ⟨(some 13), none, .mv (.t 1)⟩, ⟨(some 14), none, .bin .lss (.t 12) (.t 13)⟩])
  (.cond (.t 14) .skip
   (.exit 0)))
 (.seq (.block 1 (.reg [⟨(some 17), none, .mv (.t 0)⟩, ⟨(some 18), none, .bin .quo (.t 17) (.c (.v (.int .u32 2)))⟩, ⟨(some 0), none, .mv (.t 18)⟩]))
  (.reg [⟨(some 15), none, .mv (.t 5)⟩, ⟨(some 16), none, .bin .add (.t 15) (.c (.v (.int .i64 1)))⟩, ⟨(some 5), none, .mv (.t 16)⟩])))
def b_fuglemanref05_Has : AC :=
 (.seq (.reg [⟨(some 4), none, .mv (.c (.v (.bool false)))⟩])
 (.seq (.seq (.reg [⟨(some 6), none, .mv (.t 1)⟩, ⟨(some 7), none, .bin .lss (.t 6) (.c (.v (.int .i64 0)))⟩, ⟨(some 8), none, .mv (.t 7)⟩, ⟨(some 9), (some (8, false)), .mv (.t 1)⟩, ⟨(some 10), (some (8, false)), .bin .gtr (.t 9) (.c (.v (.int .i64 31)))⟩, ⟨(some 11), none, .pick (.t 8) (.c (.v (.bool true))) (.t 10)⟩])
   (.cond (.t 11) (.seq (.reg [⟨(some 4), none, .mv (.c (.v (.bool false)))⟩])
     .ret)
    .skip))
  (.seq (.seq (.reg [⟨(some 5), none, .mv (.c (.v (.int .i64 0)))⟩])
    (.block 0 (.loop [0, 1, 5] l_fuglemanref05_Has_0)))
   l_fuglemanref05_Has_1)))
def a_fuglemanref05_Has : AFn := ⟨2, b_fuglemanref05_Has, [.t 4], false, false⟩
theorem a_fuglemanref05_Has_ok : compF Try.prog Try.f42 [[0, 1, 5]] false false hv = some a_fuglemanref05_Has := by kernel_rfl

/-! fugleman/fuglemanref05.List: 46 -/
def l_fuglemanref05_List_1 : AC :=
 (.seq (.reg [⟨(some 16), none, .mv (.t 3)⟩, ⟨(some 2), none, .mv (.t 16)⟩])
 .ret)
def l_fuglemanref05_List_0 : AC :=
 (.seq (.seq (.reg [⟨(some 5), none, .mv (.t 4)⟩, ⟨(some 6), none, .bin .lss (.t 5) (.c (.v (.int .i64 32)))⟩])
  (.cond (.t 6) .skip
   (.exit 0)))
 (.seq (.block 1 (.seq (.reg [⟨(some 9), none, .mv (.t 0)⟩, ⟨(some 10), none, .mv (.t 4)⟩, ⟨(some 11), none, .call (.c (.fn 42 [])) [(.t 9), (.t 10)]⟩])
    (.cond (.t 11) (.reg [⟨(some 12), none, .mv (.t 3)⟩, ⟨(some 13), none, .mv (.t 4)⟩, ⟨(some 14), none, .row 1 1 [(.v (.int .i64 0))] [(0, 1, (.t 13))]⟩, ⟨(some 15), none, .app 1 8 (.t 12) (.t 14)⟩, ⟨(some 3), none, .mv (.t 15)⟩])
     .skip)))
  (.reg [⟨(some 7), none, .mv (.t 4)⟩, ⟨(some 8), none, .bin .add (.t 7) (.c (.v (.int .i64 1)))⟩, ⟨(some 4), none, .mv (.t 8)⟩])))
def b_fuglemanref05_List : AC :=
 (.seq (.reg [⟨(some 2), none, .mv (.c (.v (.slice none 0 0)))⟩])
 (.seq (.reg [⟨(some 3), none, .mv (.c (.v (.slice none 0 0)))⟩])
  (.seq (.seq (.reg [⟨(some 4), none, .mv (.c (.v (.int .i64 0)))⟩])
    (.block 0 (.loop [0, 3, 4] l_fuglemanref05_List_0)))
   l_fuglemanref05_List_1)))
def a_fuglemanref05_List : AFn := ⟨1, b_fuglemanref05_List, [.t 2], true, false⟩
theorem a_fuglemanref05_List_ok : compF Try.prog Try.f46 [[0, 3, 4]] true false hv = some a_fuglemanref05_List := by kernel_rfl

/-! fugleman/fuglemanref05.With: 47 -/
def l_fuglemanref05_With_1 : AC :=
 (.seq (.reg [⟨(some 26), none, .mv (.t 0)⟩, ⟨(some 27), none, .mv (.t 5)⟩, ⟨(some 28), none, .bin .add (.t 26) (.t 27)⟩, ⟨(some 4), none, .mv (.t 28)⟩])
 .ret)
def l_fuglemanref05_With_0 : AC :=
 (.seq (.seq (.reg [⟨(some 19), none, .mv (.t 6)⟩, ⟨(some 20), none, .mv (.t 1)⟩, ⟨(some 21), none, .bin .lss (.t 19) (.t 20)⟩])
  (.cond (.t 21) .skip
   (.exit 0)))
 (.seq (.block 1 (.reg [⟨(some 24), none, .mv (.t 5)⟩, ⟨(some 25), none, .bin .mul (.t 24) (.c (.v (.int .u32 2)))⟩, ⟨(some 5), none, .mv (.t 25)⟩]))
  (.reg [⟨(some 22), none, .mv (.t 6)⟩, ⟨(some 23), none, .bin .add (.t 22) (.c (.v (.int .i64 1)))⟩, ⟨(some 6), none, .mv (.t 23)⟩])))
def b_fuglemanref05_With : AC :=
 (.seq (.reg [⟨(some 4), none, .mv (.c (.v (.int .u32 0)))⟩])
 (.seq (.seq (.reg [⟨(some 7), none, .mv (.t 1)⟩, ⟨(some 8), none, .bin .lss (.t 7) (.c (.v (.int .i64 0)))⟩, ⟨(some 9), none, .mv (.t 8)⟩, ⟨(some 10), (some (9, false)), .mv (.t 1)⟩, ⟨(some 11), (some (9, false)), .bin .gtr (.t 10) (.c (.v (.int .i64 31)))⟩, ⟨(some 12), none, .pick (.t 9) (.c (.v (.bool true))) (.t 11)⟩, ⟨(some 13), none, .mv (.t 12)⟩, ⟨(some 14), (some (13, false)), .mv (.t 0)⟩, ⟨(some 15), (some (13, false)), .mv (.t 1)⟩, ⟨(some 16), (some (13, false)), .call (.c (.fn 42 [])) [(.t 14), (.t 15)]⟩, ⟨(some 17), none, .pick (.t 13) (.c (.v (.bool true))) (.t 16)⟩])
   (.cond (.t 17) (.seq (.reg [⟨(some 18), none, .mv (.t 0)⟩, ⟨(some 4), none, .mv (.t 18)⟩])
     .ret)
    .skip))
  (.seq (.reg [⟨(some 5), none, .mv (.c (.v (.int .u32 1)))⟩])
   (.seq (.seq (.reg [⟨(some 6), none, .mv (.c (.v (.int .i64 0)))⟩])
     (.block 0 (.loop [0, 1, 5, 6] l_fuglemanref05_With_0)))
    l_fuglemanref05_With_1))))
def a_fuglemanref05_With : AFn := ⟨2, b_fuglemanref05_With, [.t 4], false, false⟩
theorem a_fuglemanref05_With_ok : compF Try.prog Try.f47 [[0, 1, 5, 6]] false false hv = some a_fuglemanref05_With := by kernel_rfl

/-! fugleman/fuglemanref05.Without: 40 -/
def l_fuglemanref05_Without_1 : AC :=
 (.seq (.reg [⟨(some 28), none, .mv (.t 5)⟩, ⟨(some 4), none, .mv (.t 28)⟩])
 .ret)
def l_fuglemanref05_Without_0 : AC :=
 (.seq (.seq (.reg [⟨(some 10), none, .mv (.t 7)⟩, ⟨(some 11), none, .mv (.t 6)⟩, ⟨(some 12), none, .len (.t 11)⟩, ⟨(some 13), none, .bin .lss (.t 10) (.t 12)⟩])
  (.cond (.t 13) .skip
   (.exit 0)))
 (.seq (.block 1 (.seq (.reg [⟨(some 16), none, .mv (.t 6)⟩, ⟨(some 17), none, .mv (.t 7)⟩, ⟨(some 18), none, .ixs 1 (.t 16) (.t 17)⟩, ⟨(some 19), none, .load none (.t 18)⟩, ⟨(some 20), none, .mv (.t 1)⟩, ⟨(some 21), none, .bin .neq (.t 19) (.t 20)⟩])
    (.cond (.t 21) (.reg [⟨(some 22), none, .mv (.t 5)⟩, ⟨(some 23), none, .mv (.t 6)⟩, ⟨(some 24), none, .mv (.t 7)⟩, ⟨(some 25), none, .ixs 1 (.t 23) (.t 24)⟩, ⟨(some 26), none, .load none (.t 25)⟩, ⟨(some 27), none, .call (.c (.fn 47 [])) [(.t 22), (.t 26)]⟩, ⟨(some 5), none, .mv (.t 27)⟩])
     .skip)))
  (.reg [⟨(some 14), none, .mv (.t 7)⟩, ⟨(some 15), none, .bin .add (.t 14) (.c (.v (.int .i64 1)))⟩, ⟨(some 7), none, .mv (.t 15)⟩])))
def b_fuglemanref05_Without : AC :=
 (.seq (.reg [⟨(some 4), none, .mv (.c (.v (.int .u32 0)))⟩])
 (.seq (.reg [⟨(some 5), none, .mv (.c (.v (.int .u32 0)))⟩])
  (.seq (.reg [⟨(some 8), none, .mv (.t 0)⟩, ⟨(some 9), none, .call (.c (.fn 46 [])) [(.t 8)]⟩, ⟨(some 6), none, .mv (.t 9)⟩])
   (.seq (.seq (.reg [⟨(some 7), none, .mv (.c (.v (.int .i64 0)))⟩])
     (.block 0 (.loop [1, 5, 6, 7] l_fuglemanref05_Without_0)))
    l_fuglemanref05_Without_1))))
def a_fuglemanref05_Without : AFn := ⟨2, b_fuglemanref05_Without, [.t 4], false, false⟩
theorem a_fuglemanref05_Without_ok : compF Try.prog Try.f40 [[1, 5, 6, 7]] false false hv = some a_fuglemanref05_Without := by kernel_rfl

/-! (*fugleman/fuglemanref09.Bus).Send: 31 -/
def b_fuglemanref09_Bus_Send : AC :=
 (.seq (.reg [⟨(some 6), none, .mv (.c (.v (.int .i64 0)))⟩])
 (.seq (.seq (.reg [⟨(some 7), none, .mv (.t 1)⟩, ⟨(some 8), none, .bin .lss (.t 7) (.c (.v (.int .i64 0)))⟩, ⟨(some 9), none, .mv (.t 8)⟩, ⟨(some 10), (some (9, false)), .mv (.t 1)⟩, ⟨(some 11), (some (9, false)), .bin .gtr (.t 10) (.c (.v (.int .i64 31)))⟩, ⟨(some 12), none, .pick (.t 9) (.c (.v (.bool true))) (.t 11)⟩, ⟨(some 13), none, .mv (.t 12)⟩, ⟨(some 14), (some (13, false)), .mv (.t 2)⟩, ⟨(some 15), (some (13, false)), .lens (.t 14)⟩, ⟨(some 16), (some (13, false)), .bin .lss (.t 15) (.c (.v (.int .i64 1)))⟩, ⟨(some 17), none, .pick (.t 13) (.c (.v (.bool true))) (.t 16)⟩, ⟨(some 18), none, .mv (.t 17)⟩, ⟨(some 19), (some (18, false)), .mv (.t 2)⟩, ⟨(some 20), (some (18, false)), .lens (.t 19)⟩, ⟨(some 21), (some (18, false)), .bin .gtr (.t 20) (.c (.v (.int .i64 255)))⟩, ⟨(some 22), none, .pick (.t 18) (.c (.v (.bool true))) (.t 21)⟩])
   (.cond (.t 22) (.seq (.reg [⟨(some 6), none, .mv (.c (.v (.int .i64 1)))⟩])
     .ret)
    .skip))
  (.seq (.reg [⟨(some 23), none, .mv (.t 0)⟩, ⟨(some 24), none, .mv (.t 2)⟩, ⟨(some 25), none, .mv (.t 1)⟩, ⟨(some 26), none, .mv (.t 1)⟩, ⟨(some 27), none, .call (.c (.fn 40 [])) [(.c (.v (.int .u32 4294967295))), (.t 26)]⟩, ⟨(some 28), none, .build [(.v (.string ⟨#[]⟩)), (.v (.int .i64 0)), (.v (.int .u32 0)), (.v (.bool false))] [(0, 1, (.t 24)), (1, 1, (.t 25)), (2, 1, (.t 27))]⟩, ⟨(some 29), none, .call (.c (.fn 39 [])) [(.t 23), (.t 28)]⟩, ⟨(some 6), none, .mv (.t 29)⟩])
   .ret)))
def a_fuglemanref09_Bus_Send : AFn := ⟨3, b_fuglemanref09_Bus_Send, [.t 6], false, true⟩
theorem a_fuglemanref09_Bus_Send_ok : compF Try.prog Try.f31 [] false true hv = some a_fuglemanref09_Bus_Send := by kernel_rfl

/-! (*fugleman/fuglemanref09.Bus).There: 41 -/
def b_fuglemanref09_Bus_There : AC :=
 (.seq (.reg [⟨(some 4), none, .mv (.c (.v (.bool false)))⟩])
 (.seq (.reg [⟨(some 5), none, .mv (.t 1)⟩, ⟨(some 6), none, .bin .geq (.t 5) (.c (.v (.int .i64 0)))⟩, ⟨(some 7), none, .mv (.t 6)⟩, ⟨(some 8), (some (7, true)), .mv (.t 1)⟩, ⟨(some 9), (some (7, true)), .mv (.t 0)⟩, ⟨(some 10), (some (7, true)), .nilck (.t 9)⟩, ⟨(some 11), (some (7, true)), .fad 0 (.t 10)⟩, ⟨(some 12), (some (7, true)), .load none (.t 11)⟩, ⟨(some 13), (some (7, true)), .len (.t 12)⟩, ⟨(some 14), (some (7, true)), .bin .lss (.t 8) (.t 13)⟩, ⟨(some 15), none, .pick (.t 7) (.t 14) (.c (.v (.bool false)))⟩, ⟨(some 4), none, .mv (.t 15)⟩])
  .ret))
def a_fuglemanref09_Bus_There : AFn := ⟨2, b_fuglemanref09_Bus_There, [.t 4], false, false⟩
theorem a_fuglemanref09_Bus_There_ok : compF Try.prog Try.f41 [] false false hv = some a_fuglemanref09_Bus_There := by kernel_rfl

/-! (*fugleman/fuglemanref09.Bus).without: 43 -/
def l_fuglemanref09_Bus_without_1 : AC :=
 (.reg [⟨(some 28), none, .mv (.t 0)⟩, ⟨(some 29), none, .mv (.t 4)⟩, ⟨(some 30), none, .nilck (.t 28)⟩, ⟨(some 31), none, .fad 0 (.t 30)⟩, ⟨none, none, .store 1 (.t 31) (.t 29)⟩])
def l_fuglemanref09_Bus_without_0 : AC :=
 (.seq (.seq (.reg [⟨(some 6), none, .mv (.t 5)⟩, ⟨(some 7), none, .mv (.t 0)⟩, ⟨(some 8), none, .nilck (.t 7)⟩, ⟨(some 9), none, .fad 0 (.t 8)⟩, ⟨(some 10), none, .load none (.t 9)⟩, ⟨(some 11), none, .len (.t 10)⟩, ⟨(some 12), none, .bin .lss (.t 6) (.t 11)⟩])
  (.cond (.t 12) .skip
   (.exit 0)))
 (.seq (.block 1 (.seq (.reg [⟨(some 15), none, .mv (.t 5)⟩, ⟨(some 16), none, .mv (.t 1)⟩, ⟨(some 17), none, .bin .neq (.t 15) (.t 16)⟩])
    (.cond (.t 17) (.reg [⟨(some 18), none, .mv (.t 4)⟩, ⟨(some 19), none, .mv (.t 0)⟩, ⟨(some 20), none, .nilck (.t 19)⟩, ⟨(some 21), none, .fad 0 (.t 20)⟩, ⟨(some 22), none, .load none (.t 21)⟩, ⟨(some 23), none, .mv (.t 5)⟩, ⟨(some 24), none, .ixs 4 (.t 22) (.t 23)⟩, ⟨(some 25), none, .load (some 4) (.t 24)⟩, ⟨(some 26), none, .row 4 1 [(.v (.string ⟨#[]⟩)), (.v (.int .i64 0)), (.v (.int .u32 0)), (.v (.bool false))] [(0, 4, (.t 25))]⟩, ⟨(some 27), none, .app 4 32 (.t 18) (.t 26)⟩, ⟨(some 4), none, .mv (.t 27)⟩])
     .skip)))
  (.reg [⟨(some 13), none, .mv (.t 5)⟩, ⟨(some 14), none, .bin .add (.t 13) (.c (.v (.int .i64 1)))⟩, ⟨(some 5), none, .mv (.t 14)⟩])))
def b_fuglemanref09_Bus_without : AC :=
 (.seq (.reg [⟨(some 4), none, .mv (.c (.v (.slice none 0 0)))⟩])
 (.seq (.seq (.reg [⟨(some 5), none, .mv (.c (.v (.int .i64 0)))⟩])
   (.block 0 (.loop [0, 1, 4, 5] l_fuglemanref09_Bus_without_0)))
  l_fuglemanref09_Bus_without_1))
def a_fuglemanref09_Bus_without : AFn := ⟨2, b_fuglemanref09_Bus_without, [], false, true⟩
theorem a_fuglemanref09_Bus_without_ok : compF Try.prog Try.f43 [[0, 1, 4, 5]] false true hv = some a_fuglemanref09_Bus_without := by kernel_rfl

/-! (*fugleman/fuglemanref09.Bus).Deliver: 32 -/
def b_fuglemanref09_Bus_Deliver : AC :=
 (.seq (.reg [⟨(some 6), none, .mv (.c (.v (.string ⟨#[]⟩)))⟩, ⟨(some 7), none, .mv (.c (.v (.int .i64 0)))⟩])
 (.seq (.seq (.reg [⟨(some 9), none, .mv (.t 0)⟩, ⟨(some 10), none, .mv (.t 1)⟩, ⟨(some 11), none, .call (.c (.fn 41 [])) [(.t 9), (.t 10)]⟩, ⟨(some 12), none, .un .not (.t 11)⟩, ⟨(some 13), none, .mv (.t 12)⟩, ⟨(some 14), (some (13, false)), .mv (.t 0)⟩, ⟨(some 15), (some (13, false)), .nilck (.t 14)⟩, ⟨(some 16), (some (13, false)), .fad 0 (.t 15)⟩, ⟨(some 17), (some (13, false)), .load none (.t 16)⟩, ⟨(some 18), (some (13, false)), .mv (.t 1)⟩, ⟨(some 19), (some (13, false)), .ixs 4 (.t 17) (.t 18)⟩, ⟨(some 20), (some (13, false)), .fad 2 (.t 19)⟩, ⟨(some 21), (some (13, false)), .load none (.t 20)⟩, ⟨(some 22), (some (13, false)), .mv (.t 2)⟩, ⟨(some 23), (some (13, false)), .call (.c (.fn 42 [])) [(.t 21), (.t 22)]⟩, ⟨(some 24), (some (13, false)), .un .not (.t 23)⟩, ⟨(some 25), none, .pick (.t 13) (.c (.v (.bool true))) (.t 24)⟩])
   (.cond (.t 25) (.seq (.reg [⟨(some 6), none, .mv (.c (.v (.string ⟨#[]⟩)))⟩, ⟨(some 7), none, .mv (.c (.v (.int .i64 1)))⟩])
     .ret)
    .skip))
  (.seq (.reg [⟨(some 26), none, .mv (.t 0)⟩, ⟨(some 27), none, .nilck (.t 26)⟩, ⟨(some 28), none, .fad 0 (.t 27)⟩, ⟨(some 29), none, .load none (.t 28)⟩, ⟨(some 30), none, .mv (.t 1)⟩, ⟨(some 31), none, .ixs 4 (.t 29) (.t 30)⟩, ⟨(some 32), none, .fad 0 (.t 31)⟩, ⟨(some 33), none, .load none (.t 32)⟩, ⟨(some 8), none, .mv (.t 33)⟩])
   (.seq (.regm [(false, ⟨(some 34), none, .mv (.t 0)⟩), (false, ⟨(some 35), none, .nilck (.t 34)⟩), (false, ⟨(some 36), none, .fad 0 (.t 35)⟩), (false, ⟨(some 37), none, .load none (.t 36)⟩), (false, ⟨(some 38), none, .mv (.t 1)⟩), (false, ⟨(some 39), none, .mv (.t 0)⟩), (false, ⟨(some 40), none, .nilck (.t 39)⟩), (false, ⟨(some 41), none, .fad 0 (.t 40)⟩), (false, ⟨(some 42), none, .load none (.t 41)⟩), (false, ⟨(some 43), none, .mv (.t 1)⟩), (false, ⟨(some 44), none, .ixs 4 (.t 42) (.t 43)⟩), (false, ⟨(some 45), none, .fad 2 (.t 44)⟩), (false, ⟨(some 46), none, .load none (.t 45)⟩), (false, ⟨(some 47), none, .mv (.t 2)⟩), (true, ⟨(some 48), none, .call (.c (.fn 40 [])) [(.t 46), (.t 47)]⟩), (false, ⟨(some 49), none, .ixs 4 (.t 37) (.t 38)⟩), (false, ⟨(some 50), none, .fad 2 (.t 49)⟩), (false, ⟨none, none, .store 1 (.t 50) (.t 48)⟩)])
    (.seq (.seq (.reg [⟨(some 51), none, .mv (.t 0)⟩, ⟨(some 52), none, .nilck (.t 51)⟩, ⟨(some 53), none, .fad 0 (.t 52)⟩, ⟨(some 54), none, .load none (.t 53)⟩, ⟨(some 55), none, .mv (.t 1)⟩, ⟨(some 56), none, .ixs 4 (.t 54) (.t 55)⟩, ⟨(some 57), none, .fad 2 (.t 56)⟩, ⟨(some 58), none, .load none (.t 57)⟩, ⟨(some 59), none, .bin .eql (.t 58) (.c (.v (.int .u32 0)))⟩])
      (.cond (.t 59) (.reg [⟨(some 60), none, .mv (.t 0)⟩, ⟨(some 61), none, .mv (.t 1)⟩, ⟨(some 62), none, .call (.c (.fn 43 [])) [(.t 60), (.t 61)]⟩])
       .skip))
     (.seq (.reg [⟨(some 63), none, .mv (.t 8)⟩, ⟨(some 6), none, .mv (.t 63)⟩, ⟨(some 7), none, .mv (.c (.v (.int .i64 0)))⟩])
      .ret))))))
def a_fuglemanref09_Bus_Deliver : AFn := ⟨3, b_fuglemanref09_Bus_Deliver, [.t 6, .t 7], false, true⟩
theorem a_fuglemanref09_Bus_Deliver_ok : compF Try.prog Try.f32 [] false true hv = some a_fuglemanref09_Bus_Deliver := by kernel_rfl

/-! (*fugleman/fuglemanref09.Bus).Drop: 33 -/
def b_fuglemanref09_Bus_Drop : AC :=
 (.seq (.reg [⟨(some 4), none, .mv (.c (.v (.int .i64 0)))⟩])
 (.seq (.seq (.reg [⟨(some 5), none, .mv (.t 0)⟩, ⟨(some 6), none, .mv (.t 1)⟩, ⟨(some 7), none, .call (.c (.fn 41 [])) [(.t 5), (.t 6)]⟩, ⟨(some 8), none, .un .not (.t 7)⟩])
   (.cond (.t 8) (.seq (.reg [⟨(some 4), none, .mv (.c (.v (.int .i64 1)))⟩])
     .ret)
    .skip))
  (.seq (.reg [⟨(some 9), none, .mv (.t 0)⟩, ⟨(some 10), none, .mv (.t 1)⟩, ⟨(some 11), none, .call (.c (.fn 43 [])) [(.t 9), (.t 10)]⟩])
   (.seq (.reg [⟨(some 4), none, .mv (.c (.v (.int .i64 0)))⟩])
    .ret))))
def a_fuglemanref09_Bus_Drop : AFn := ⟨2, b_fuglemanref09_Bus_Drop, [.t 4], false, true⟩
theorem a_fuglemanref09_Bus_Drop_ok : compF Try.prog Try.f33 [] false true hv = some a_fuglemanref09_Bus_Drop := by kernel_rfl

/-! (*fugleman/fuglemanref09.Bus).Twice: 34 -/
def b_fuglemanref09_Bus_Twice : AC :=
 (.seq (.reg [⟨(some 4), none, .mv (.c (.v (.int .i64 0)))⟩])
 (.seq (.seq (.reg [⟨(some 5), none, .mv (.t 0)⟩, ⟨(some 6), none, .mv (.t 1)⟩, ⟨(some 7), none, .call (.c (.fn 41 [])) [(.t 5), (.t 6)]⟩, ⟨(some 8), none, .un .not (.t 7)⟩])
   (.cond (.t 8) (.seq (.reg [⟨(some 4), none, .mv (.c (.v (.int .i64 1)))⟩])
     .ret)
    .skip))
  (.seq (.reg [⟨(some 9), none, .mv (.t 0)⟩, ⟨(some 10), none, .mv (.t 0)⟩, ⟨(some 11), none, .nilck (.t 10)⟩, ⟨(some 12), none, .fad 0 (.t 11)⟩, ⟨(some 13), none, .load none (.t 12)⟩, ⟨(some 14), none, .mv (.t 1)⟩, ⟨(some 15), none, .ixs 4 (.t 13) (.t 14)⟩, ⟨(some 16), none, .load (some 4) (.t 15)⟩, ⟨(some 17), none, .call (.c (.fn 39 [])) [(.t 9), (.t 16)]⟩, ⟨(some 4), none, .mv (.t 17)⟩])
   .ret)))
def a_fuglemanref09_Bus_Twice : AFn := ⟨2, b_fuglemanref09_Bus_Twice, [.t 4], false, true⟩
theorem a_fuglemanref09_Bus_Twice_ok : compF Try.prog Try.f34 [] false true hv = some a_fuglemanref09_Bus_Twice := by kernel_rfl

/-! fugleman/fuglemanref01.Burst: 44 -/
def l_fuglemanref01_Burst_1 : AC :=
 (.seq (.reg [⟨(some 61), none, .mv (.t 7)⟩, ⟨(some 62), none, .cvbs (.t 61)⟩, ⟨(some 6), none, .mv (.t 62)⟩])
 .ret)
def l_fuglemanref01_Burst_0 : AC :=
 (.seq (.seq (.reg [⟨(some 23), none, .mv (.t 8)⟩, ⟨(some 24), none, .bin .lss (.t 23) (.c (.v (.int .i64 16)))⟩])
  (.cond (.t 24) .skip
   (.exit 0)))
 (.seq (.block 1 (.seq (.reg [⟨(some 27), none, .mv (.t 2)⟩, ⟨(some 28), none, .cvi .i64 (.t 27)⟩, ⟨(some 29), none, .mv (.t 8)⟩, ⟨(some 30), none, .bin .sub (.c (.v (.int .i64 15))) (.t 29)⟩, ⟨(some 31), none, .bin .shr (.t 28) (.t 30)⟩, ⟨(some 32), none, .bin .rem (.t 31) (.c (.v (.int .i64 2)))⟩, ⟨(some 33), none, .bin .eql (.t 32) (.c (.v (.int .i64 1)))⟩, ⟨(some 9), none, .mv (.t 33)⟩])
    (.seq (.reg [⟨(some 34), none, .mv (.t 9)⟩, ⟨(some 35), none, .mv (.t 34)⟩, ⟨(some 36), (some (35, true)), .mv (.t 8)⟩, ⟨(some 37), (some (35, true)), .mv (.t 0)⟩, ⟨(some 38), (some (35, true)), .lens (.t 37)⟩, ⟨(some 39), (some (35, true)), .bin .mul (.c (.v (.int .i64 8))) (.t 38)⟩, ⟨(some 40), (some (35, true)), .mv (.t 1)⟩, ⟨(some 41), (some (35, true)), .bin .sub (.t 39) (.t 40)⟩, ⟨(some 42), (some (35, true)), .bin .lss (.t 36) (.t 41)⟩, ⟨(some 43), none, .pick (.t 35) (.t 42) (.c (.v (.bool false)))⟩])
     (.cond (.t 43) (.seq (.reg [⟨(some 44), none, .mv (.t 1)⟩, ⟨(some 45), none, .mv (.t 8)⟩, ⟨(some 46), none, .bin .add (.t 44) (.t 45)⟩, ⟨(some 10), none, .mv (.t 46)⟩])
       (.regm [(false, ⟨(some 47), none, .mv (.t 7)⟩), (false, ⟨(some 48), none, .mv (.t 10)⟩), (false, ⟨(some 49), none, .bin .quo (.t 48) (.c (.v (.int .i64 8)))⟩), (false, ⟨(some 50), none, .mv (.t 7)⟩), (false, ⟨(some 51), none, .mv (.t 10)⟩), (false, ⟨(some 52), none, .bin .quo (.t 51) (.c (.v (.int .i64 8)))⟩), (false, ⟨(some 53), none, .ixs 1 (.t 50) (.t 52)⟩), (false, ⟨(some 54), none, .load none (.t 53)⟩), (false, ⟨(some 55), none, .mv (.t 10)⟩), (false, ⟨(some 56), none, .bin .rem (.t 55) (.c (.v (.int .i64 8)))⟩), (false, ⟨(some 57), none, .bin .sub (.c (.v (.int .i64 7))) (.t 56)⟩), (false, ⟨(some 58), none, .bin .shl (.c (.v (.int .u8 1))) (.t 57)⟩), (false, ⟨(some 59), none, .bin .xor (.t 54) (.t 58)⟩), (false, ⟨(some 60), none, .ixs 1 (.t 47) (.t 49)⟩), (false, ⟨none, none, .store 1 (.t 60) (.t 59)⟩)]))
      .skip))))
  (.reg [⟨(some 25), none, .mv (.t 8)⟩, ⟨(some 26), none, .bin .add (.t 25) (.c (.v (.int .i64 1)))⟩, ⟨(some 8), none, .mv (.t 26)⟩])))
def b_fuglemanref01_Burst : AC :=
 (.seq (.reg [⟨(some 6), none, .mv (.c (.v (.string ⟨#[]⟩)))⟩])
 (.seq (.seq (.reg [⟨(some 11), none, .mv (.t 1)⟩, ⟨(some 12), none, .bin .lss (.t 11) (.c (.v (.int .i64 0)))⟩, ⟨(some 13), none, .mv (.t 12)⟩, ⟨(some 14), (some (13, false)), .mv (.t 1)⟩, ⟨(some 15), (some (13, false)), .mv (.t 0)⟩, ⟨(some 16), (some (13, false)), .lens (.t 15)⟩, ⟨(some 17), (some (13, false)), .bin .mul (.c (.v (.int .i64 8))) (.t 16)⟩, ⟨(some 18), (some (13, false)), .bin .geq (.t 14) (.t 17)⟩, ⟨(some 19), none, .pick (.t 13) (.c (.v (.bool true))) (.t 18)⟩])
   (.cond (.t 19) (.seq (.reg [⟨(some 20), none, .mv (.t 0)⟩, ⟨(some 6), none, .mv (.t 20)⟩])
     .ret)
    .skip))
  (.seq (.reg [⟨(some 21), none, .mv (.t 0)⟩, ⟨(some 22), none, .cvsb (.t 21)⟩, ⟨(some 7), none, .mv (.t 22)⟩])
   (.seq (.seq (.reg [⟨(some 8), none, .mv (.c (.v (.int .i64 0)))⟩])
     (.block 0 (.loop [0, 1, 2, 7, 8] l_fuglemanref01_Burst_0)))
    l_fuglemanref01_Burst_1))))
def a_fuglemanref01_Burst : AFn := ⟨3, b_fuglemanref01_Burst, [.t 6], false, false⟩
theorem a_fuglemanref01_Burst_ok : compF Try.prog Try.f44 [[0, 1, 2, 7, 8]] false false hv = some a_fuglemanref01_Burst := by kernel_rfl

/-! (*fugleman/fuglemanref09.Bus).Burst: 35 -/
def b_fuglemanref09_Bus_Burst : AC :=
 (.seq (.reg [⟨(some 8), none, .mv (.c (.v (.int .i64 0)))⟩])
 (.seq (.seq (.reg [⟨(some 10), none, .mv (.t 0)⟩, ⟨(some 11), none, .mv (.t 1)⟩, ⟨(some 12), none, .call (.c (.fn 41 [])) [(.t 10), (.t 11)]⟩, ⟨(some 13), none, .un .not (.t 12)⟩])
   (.cond (.t 13) (.seq (.reg [⟨(some 8), none, .mv (.c (.v (.int .i64 1)))⟩])
     .ret)
    .skip))
  (.seq (.seq (.reg [⟨(some 14), none, .mv (.t 0)⟩, ⟨(some 15), none, .nilck (.t 14)⟩, ⟨(some 16), none, .fad 0 (.t 15)⟩, ⟨(some 17), none, .load none (.t 16)⟩, ⟨(some 18), none, .mv (.t 1)⟩, ⟨(some 19), none, .ixs 4 (.t 17) (.t 18)⟩, ⟨(some 20), none, .fad 3 (.t 19)⟩, ⟨(some 21), none, .load none (.t 20)⟩])
    (.cond (.t 21) (.seq (.reg [⟨(some 8), none, .mv (.c (.v (.int .i64 11)))⟩])
      .ret)
     .skip))
   (.seq (.reg [⟨(some 22), none, .mv (.t 0)⟩, ⟨(some 23), none, .nilck (.t 22)⟩, ⟨(some 24), none, .fad 0 (.t 23)⟩, ⟨(some 25), none, .load none (.t 24)⟩, ⟨(some 26), none, .mv (.t 1)⟩, ⟨(some 27), none, .ixs 4 (.t 25) (.t 26)⟩, ⟨(some 28), none, .fad 0 (.t 27)⟩, ⟨(some 29), none, .load none (.t 28)⟩, ⟨(some 30), none, .mv (.t 2)⟩, ⟨(some 31), none, .mv (.t 3)⟩, ⟨(some 32), none, .call (.c (.fn 44 [])) [(.t 29), (.t 30), (.t 31)]⟩, ⟨(some 9), none, .mv (.t 32)⟩])
    (.seq (.regm [(false, ⟨(some 33), none, .mv (.t 0)⟩), (false, ⟨(some 34), none, .nilck (.t 33)⟩), (false, ⟨(some 35), none, .fad 0 (.t 34)⟩), (false, ⟨(some 36), none, .load none (.t 35)⟩), (false, ⟨(some 37), none, .mv (.t 1)⟩), (false, ⟨(some 38), none, .mv (.t 9)⟩), (false, ⟨(some 39), none, .mv (.t 0)⟩), (false, ⟨(some 40), none, .nilck (.t 39)⟩), (false, ⟨(some 41), none, .fad 0 (.t 40)⟩), (false, ⟨(some 42), none, .load none (.t 41)⟩), (false, ⟨(some 43), none, .mv (.t 1)⟩), (false, ⟨(some 44), none, .ixs 4 (.t 42) (.t 43)⟩), (false, ⟨(some 45), none, .fad 0 (.t 44)⟩), (false, ⟨(some 46), none, .load none (.t 45)⟩), (false, ⟨(some 47), none, .bin .neq (.t 38) (.t 46)⟩), (false, ⟨(some 48), none, .ixs 4 (.t 36) (.t 37)⟩), (false, ⟨(some 49), none, .fad 3 (.t 48)⟩), (false, ⟨none, none, .store 1 (.t 49) (.t 47)⟩)])
     (.seq (.reg [⟨(some 50), none, .mv (.t 0)⟩, ⟨(some 51), none, .nilck (.t 50)⟩, ⟨(some 52), none, .fad 0 (.t 51)⟩, ⟨(some 53), none, .load none (.t 52)⟩, ⟨(some 54), none, .mv (.t 1)⟩, ⟨(some 55), none, .mv (.t 9)⟩, ⟨(some 56), none, .ixs 4 (.t 53) (.t 54)⟩, ⟨(some 57), none, .fad 0 (.t 56)⟩, ⟨none, none, .store 1 (.t 57) (.t 55)⟩])
      (.seq (.reg [⟨(some 8), none, .mv (.c (.v (.int .i64 0)))⟩])
       .ret)))))))
def a_fuglemanref09_Bus_Burst : AFn := ⟨4, b_fuglemanref09_Bus_Burst, [.t 8], false, true⟩
theorem a_fuglemanref09_Bus_Burst_ok : compF Try.prog Try.f35 [] false true hv = some a_fuglemanref09_Bus_Burst := by kernel_rfl

/-! (*fugleman/fuglemanref09.Bus).Cut: 36 -/
def b_fuglemanref09_Bus_Cut : AC :=
 (.seq (.reg [⟨(some 6), none, .mv (.c (.v (.int .i64 0)))⟩])
 (.seq (.seq (.reg [⟨(some 8), none, .mv (.t 0)⟩, ⟨(some 9), none, .mv (.t 1)⟩, ⟨(some 10), none, .call (.c (.fn 41 [])) [(.t 8), (.t 9)]⟩, ⟨(some 11), none, .un .not (.t 10)⟩])
   (.cond (.t 11) (.seq (.reg [⟨(some 6), none, .mv (.c (.v (.int .i64 1)))⟩])
     .ret)
    .skip))
  (.seq (.seq (.reg [⟨(some 12), none, .mv (.t 0)⟩, ⟨(some 13), none, .nilck (.t 12)⟩, ⟨(some 14), none, .fad 0 (.t 13)⟩, ⟨(some 15), none, .load none (.t 14)⟩, ⟨(some 16), none, .mv (.t 1)⟩, ⟨(some 17), none, .ixs 4 (.t 15) (.t 16)⟩, ⟨(some 18), none, .fad 3 (.t 17)⟩, ⟨(some 19), none, .load none (.t 18)⟩])
    (.cond (.t 19) (.seq (.reg [⟨(some 6), none, .mv (.c (.v (.int .i64 11)))⟩])
      .ret)
     .skip))
   (.seq (.reg [⟨(some 20), none, .mv (.t 0)⟩, ⟨(some 21), none, .nilck (.t 20)⟩, ⟨(some 22), none, .fad 0 (.t 21)⟩, ⟨(some 23), none, .load none (.t 22)⟩, ⟨(some 24), none, .mv (.t 1)⟩, ⟨(some 25), none, .ixs 4 (.t 23) (.t 24)⟩, ⟨(some 26), none, .fad 0 (.t 25)⟩, ⟨(some 27), none, .load none (.t 26)⟩, ⟨(some 28), none, .lens (.t 27)⟩, ⟨(some 7), none, .mv (.t 28)⟩])
    (.seq (.seq (.reg [⟨(some 29), none, .mv (.t 2)⟩, ⟨(some 30), none, .bin .lss (.t 29) (.c (.v (.int .i64 1)))⟩, ⟨(some 31), none, .mv (.t 30)⟩, ⟨(some 32), (some (31, false)), .mv (.t 2)⟩, ⟨(some 33), (some (31, false)), .mv (.t 7)⟩, ⟨(some 34), (some (31, false)), .bin .geq (.t 32) (.t 33)⟩, ⟨(some 35), none, .pick (.t 31) (.c (.v (.bool true))) (.t 34)⟩])
      (.cond (.t 35) (.seq (.reg [⟨(some 6), none, .mv (.c (.v (.int .i64 1)))⟩])
        .ret)
       .skip))
     (.seq (.regm [(false, ⟨(some 36), none, .mv (.t 0)⟩), (false, ⟨(some 37), none, .nilck (.t 36)⟩), (false, ⟨(some 38), none, .fad 0 (.t 37)⟩), (false, ⟨(some 39), none, .load none (.t 38)⟩), (false, ⟨(some 40), none, .mv (.t 1)⟩), (false, ⟨(some 41), none, .mv (.t 0)⟩), (false, ⟨(some 42), none, .nilck (.t 41)⟩), (false, ⟨(some 43), none, .fad 0 (.t 42)⟩), (false, ⟨(some 44), none, .load none (.t 43)⟩), (false, ⟨(some 45), none, .mv (.t 1)⟩), (false, ⟨(some 46), none, .ixs 4 (.t 44) (.t 45)⟩), (false, ⟨(some 47), none, .fad 0 (.t 46)⟩), (false, ⟨(some 48), none, .load none (.t 47)⟩), (false, ⟨(some 49), none, .mv (.t 7)⟩), (false, ⟨(some 50), none, .mv (.t 2)⟩), (false, ⟨(some 51), none, .bin .sub (.t 49) (.t 50)⟩), (false, ⟨(some 52), none, .slstr (.t 48) none (some (.t 51))⟩), (false, ⟨(some 53), none, .ixs 4 (.t 39) (.t 40)⟩), (false, ⟨(some 54), none, .fad 0 (.t 53)⟩), (false, ⟨none, none, .store 1 (.t 54) (.t 52)⟩)])
      (.seq (.reg [⟨(some 55), none, .mv (.t 0)⟩, ⟨(some 56), none, .nilck (.t 55)⟩, ⟨(some 57), none, .fad 0 (.t 56)⟩, ⟨(some 58), none, .load none (.t 57)⟩, ⟨(some 59), none, .mv (.t 1)⟩, ⟨(some 60), none, .ixs 4 (.t 58) (.t 59)⟩, ⟨(some 61), none, .fad 3 (.t 60)⟩, ⟨none, none, .store 1 (.t 61) (.c (.v (.bool true)))⟩])
       (.seq (.reg [⟨(some 6), none, .mv (.c (.v (.int .i64 0)))⟩])
        .ret))))))))
def a_fuglemanref09_Bus_Cut : AFn := ⟨3, b_fuglemanref09_Bus_Cut, [.t 6], false, true⟩
theorem a_fuglemanref09_Bus_Cut_ok : compF Try.prog Try.f36 [] false true hv = some a_fuglemanref09_Bus_Cut := by kernel_rfl

/-! fugleman/fuglemanlaw09.should: 20 -/
def b_fuglemanlaw09_should : AC :=
 (.seq (.reg [⟨(some 3), none, .box (.t 1)⟩, ⟨(some 4), none, .mv (.c (.v (.string ⟨#[]⟩)))⟩, ⟨(some 5), none, .mv (.c (.v (.int .i64 0)))⟩])
 (.seq (.seq (.reg [⟨(some 8), none, .fad 0 (.t 3)⟩, ⟨(some 9), none, .load none (.t 8)⟩, ⟨(some 10), none, .bin .rem (.t 9) (.c (.v (.int .u8 7)))⟩])
   (.block 0 (.seq (.reg [⟨(some 12), none, .bin .eql (.t 10) (.c (.v (.int .u8 0)))⟩, ⟨(some 11), none, .mv (.t 12)⟩])
     (.cond (.t 11) (.seq (.reg [⟨(some 13), none, .mv (.t 0)⟩, ⟨(some 14), none, .fad 2 (.t 3)⟩, ⟨(some 15), none, .load none (.t 14)⟩, ⟨(some 16), none, .fad 4 (.t 3)⟩, ⟨(some 17), none, .load none (.t 16)⟩, ⟨(some 18), none, .call (.c (.fn 31 [])) [(.t 13), (.t 15), (.t 17)]⟩, ⟨(some 4), none, .mv (.c (.v (.string ⟨#[]⟩)))⟩, ⟨(some 5), none, .mv (.t 18)⟩])
       .ret)
      (.seq (.reg [⟨(some 20), none, .bin .eql (.t 10) (.c (.v (.int .u8 1)))⟩, ⟨(some 19), none, .mv (.t 20)⟩])
       (.cond (.t 19) (.seq (.reg [⟨(some 21), none, .mv (.t 0)⟩, ⟨(some 22), none, .fad 1 (.t 3)⟩, ⟨(some 23), none, .load none (.t 22)⟩, ⟨(some 24), none, .fad 2 (.t 3)⟩, ⟨(some 25), none, .load none (.t 24)⟩, ⟨(some 26), none, .call (.c (.fn 32 [])) [(.t 21), (.t 23), (.t 25)]⟩, ⟨(some 27), none, .ext 0 (.t 26)⟩, ⟨(some 28), none, .ext 1 (.t 26)⟩, ⟨(some 4), none, .mv (.t 27)⟩, ⟨(some 5), none, .mv (.t 28)⟩])
         .ret)
        (.seq (.reg [⟨(some 30), none, .bin .eql (.t 10) (.c (.v (.int .u8 2)))⟩, ⟨(some 29), none, .mv (.t 30)⟩])
         (.cond (.t 29) (.seq (.reg [⟨(some 32), none, .mv (.t 0)⟩, ⟨(some 33), none, .fad 1 (.t 3)⟩, ⟨(some 34), none, .load none (.t 33)⟩, ⟨(some 35), none, .fad 2 (.t 3)⟩, ⟨(some 36), none, .load none (.t 35)⟩, ⟨(some 37), none, .call (.c (.fn 32 [])) [(.t 32), (.t 34), (.t 36)]⟩, ⟨(some 31), none, .mv (.t 37)⟩, ⟨(some 38), none, .ext 0 (.t 31)⟩, ⟨(some 39), none, .ext 1 (.t 31)⟩, ⟨(some 6), none, .mv (.t 38)⟩, ⟨(some 7), none, .mv (.t 39)⟩])
           (.seq (.reg [⟨(some 40), none, .mv (.t 7)⟩, ⟨(some 4), none, .mv (.c (.v (.string ⟨#[]⟩)))⟩, ⟨(some 5), none, .mv (.t 40)⟩])
            .ret))
          (.seq (.reg [⟨(some 42), none, .bin .eql (.t 10) (.c (.v (.int .u8 3)))⟩, ⟨(some 41), none, .mv (.t 42)⟩])
           (.cond (.t 41) (.seq (.reg [⟨(some 43), none, .mv (.t 0)⟩, ⟨(some 44), none, .fad 1 (.t 3)⟩, ⟨(some 45), none, .load none (.t 44)⟩, ⟨(some 46), none, .call (.c (.fn 33 [])) [(.t 43), (.t 45)]⟩, ⟨(some 4), none, .mv (.c (.v (.string ⟨#[]⟩)))⟩, ⟨(some 5), none, .mv (.t 46)⟩])
             .ret)
            (.seq (.reg [⟨(some 48), none, .bin .eql (.t 10) (.c (.v (.int .u8 4)))⟩, ⟨(some 47), none, .mv (.t 48)⟩])
             (.cond (.t 47) (.seq (.reg [⟨(some 49), none, .mv (.t 0)⟩, ⟨(some 50), none, .fad 1 (.t 3)⟩, ⟨(some 51), none, .load none (.t 50)⟩, ⟨(some 52), none, .call (.c (.fn 34 [])) [(.t 49), (.t 51)]⟩, ⟨(some 4), none, .mv (.c (.v (.string ⟨#[]⟩)))⟩, ⟨(some 5), none, .mv (.t 52)⟩])
               .ret)
              (.seq (.reg [⟨(some 54), none, .bin .eql (.t 10) (.c (.v (.int .u8 5)))⟩, ⟨(some 53), none, .mv (.t 54)⟩])
               (.cond (.t 53) (.seq (.reg [⟨(some 55), none, .mv (.t 0)⟩, ⟨(some 56), none, .fad 1 (.t 3)⟩, ⟨(some 57), none, .load none (.t 56)⟩, ⟨(some 58), none, .fad 2 (.t 3)⟩, ⟨(some 59), none, .load none (.t 58)⟩, ⟨(some 60), none, .fad 3 (.t 3)⟩, ⟨(some 61), none, .load none (.t 60)⟩, ⟨(some 62), none, .call (.c (.fn 35 [])) [(.t 55), (.t 57), (.t 59), (.t 61)]⟩, ⟨(some 4), none, .mv (.c (.v (.string ⟨#[]⟩)))⟩, ⟨(some 5), none, .mv (.t 62)⟩])
                 .ret)
                .skip))))))))))))))
  (.seq (.reg [⟨(some 63), none, .mv (.t 0)⟩, ⟨(some 64), none, .fad 1 (.t 3)⟩, ⟨(some 65), none, .load none (.t 64)⟩, ⟨(some 66), none, .fad 2 (.t 3)⟩, ⟨(some 67), none, .load none (.t 66)⟩, ⟨(some 68), none, .call (.c (.fn 36 [])) [(.t 63), (.t 65), (.t 67)]⟩, ⟨(some 4), none, .mv (.c (.v (.string ⟨#[]⟩)))⟩, ⟨(some 5), none, .mv (.t 68)⟩])
   .ret)))
def a_fuglemanlaw09_should : AFn := ⟨2, b_fuglemanlaw09_should, [.t 4, .t 5], false, true⟩
theorem a_fuglemanlaw09_should_ok : compF Try.prog Try.f20 [] false true hv = some a_fuglemanlaw09_should := by kernel_rfl

/-! fugleman/fuglemanlaw09.BusRuns: 6 -/
def l_fuglemanlaw09_BusRuns_3 : AC :=
 (.seq (.reg [⟨(some 101), none, .mv (.t 3)⟩, ⟨(some 102), none, .call (.c (.fn 14 [])) [(.t 101), (.c (.v (.int .i64 (-1))))]⟩, ⟨(some 100), none, .mv (.t 102)⟩, ⟨(some 103), none, .ext 0 (.t 100)⟩, ⟨(some 104), none, .ext 1 (.t 100)⟩, ⟨(some 14), none, .alloc [(.v (.string ⟨#[]⟩)), (.v (.int .i64 0)), (.v (.int .u32 0)), (.v (.bool false))]⟩, ⟨none, none, .store 4 (.t 14) (.t 103)⟩, ⟨(some 15), none, .mv (.t 104)⟩])
 (.seq (.reg [⟨(some 106), none, .mv (.t 3)⟩, ⟨(some 107), none, .mv (.t 4)⟩, ⟨(some 108), none, .nilck (.t 107)⟩, ⟨(some 109), none, .fad 0 (.t 108)⟩, ⟨(some 110), none, .load none (.t 109)⟩, ⟨(some 111), none, .len (.t 110)⟩, ⟨(some 112), none, .call (.c (.fn 14 [])) [(.t 106), (.t 111)]⟩, ⟨(some 105), none, .mv (.t 112)⟩, ⟨(some 113), none, .ext 0 (.t 105)⟩, ⟨(some 114), none, .ext 1 (.t 105)⟩, ⟨(some 16), none, .alloc [(.v (.string ⟨#[]⟩)), (.v (.int .i64 0)), (.v (.int .u32 0)), (.v (.bool false))]⟩, ⟨none, none, .store 4 (.t 16) (.t 113)⟩, ⟨(some 17), none, .mv (.t 114)⟩])
  (.seq (.reg [⟨(some 115), none, .mv (.t 15)⟩, ⟨(some 116), none, .un .not (.t 115)⟩, ⟨(some 117), none, .mv (.t 116)⟩, ⟨(some 118), (some (117, true)), .mv (.t 17)⟩, ⟨(some 119), (some (117, true)), .un .not (.t 118)⟩, ⟨(some 120), none, .pick (.t 117) (.t 119) (.c (.v (.bool false)))⟩, ⟨(some 2), none, .mv (.t 120)⟩])
   .ret)))
def l_fuglemanlaw09_BusRuns_2 : AC :=
 (.seq (.reg [⟨(some 78), none, .bin .lss (.t 77) (.t 76)⟩])
 (.seq (.cond (.t 78) .skip
   (.exit 2))
  (.seq (.block 3 (.seq (.reg [⟨(some 79), none, .mv (.t 77)⟩, ⟨(some 11), none, .mv (.t 79)⟩])
     (.seq (.reg [⟨(some 81), none, .mv (.t 3)⟩, ⟨(some 82), none, .mv (.t 11)⟩, ⟨(some 83), none, .call (.c (.fn 14 [])) [(.t 81), (.t 82)]⟩, ⟨(some 80), none, .mv (.t 83)⟩, ⟨(some 84), none, .ext 0 (.t 80)⟩, ⟨(some 85), none, .ext 1 (.t 80)⟩, ⟨(some 12), none, .alloc [(.v (.string ⟨#[]⟩)), (.v (.int .i64 0)), (.v (.int .u32 0)), (.v (.bool false))]⟩, ⟨none, none, .store 4 (.t 12) (.t 84)⟩, ⟨(some 13), none, .mv (.t 85)⟩])
      (.seq (.regq [⟨(some 86), none, .mv (.t 13)⟩, ⟨(some 87), none, .un .not (.t 86)⟩, ⟨(some 88), none, .mv (.t 87)⟩, ⟨(some 89), (some (88, false)), .load (some 4) (.t 12)⟩, ⟨(some 90), (some (88, false)), .mv (.t 4)⟩, ⟨(some 91), (some (88, false)), .nilck (.t 90)⟩, ⟨(some 92), (some (88, false)), .fad 0 (.t 91)⟩, ⟨(some 93), (some (88, false)), .load none (.t 92)⟩, ⟨(some 94), (some (88, false)), .mv (.t 11)⟩, ⟨(some 95), (some (88, false)), .ixs 4 (.t 93) (.t 94)⟩, ⟨(some 96), (some (88, false)), .load (some 4) (.t 95)⟩, ⟨(some 97), (some (88, false)), .eqst true [(0, .s), (1, .i), (2, .i), (3, .b)] (.t 89) (.t 96)⟩, ⟨(some 98), none, .pick (.t 88) (.c (.v (.bool true))) (.t 97)⟩])
       (.cond (.t 98) (.seq (.reg [⟨(some 2), none, .mv (.c (.v (.bool false)))⟩])
         .ret)
        .skip)))))
   (.reg [⟨(some 99), none, .bin .add (.t 77) (.c (.v (.int .i64 1)))⟩, ⟨(some 77), none, .mv (.t 99)⟩]))))
def l_fuglemanlaw09_BusRuns_1 : AC :=
 (.seq (.seq (.reg [⟨(some 72), none, .mv (.t 4)⟩, ⟨(some 73), none, .nilck (.t 72)⟩, ⟨(some 74), none, .fad 0 (.t 73)⟩, ⟨(some 75), none, .load none (.t 74)⟩, ⟨(some 76), none, .len (.t 75)⟩, ⟨(some 77), none, .mv (.c (.v (.int .i64 0)))⟩])
  (.block 2 (.loop [3, 4, 76, 77] l_fuglemanlaw09_BusRuns_2)))
 l_fuglemanlaw09_BusRuns_3)
def l_fuglemanlaw09_BusRuns_0 : AC :=
 (.seq (.reg [⟨(some 29), none, .bin .lss (.t 28) (.t 27)⟩])
 (.seq (.cond (.t 29) .skip
   (.exit 0))
  (.seq (.block 1 (.seq (.reg [⟨(some 30), none, .ixs 5 (.t 26) (.t 28)⟩, ⟨(some 31), none, .load (some 5) (.t 30)⟩, ⟨(some 6), none, .alloc [(.v (.int .u8 0)), (.v (.int .i64 0)), (.v (.int .i64 0)), (.v (.int .u16 0)), (.v (.string ⟨#[]⟩))]⟩, ⟨none, none, .store 5 (.t 6) (.t 31)⟩])
     (.seq (.reg [⟨(some 33), none, .mv (.t 3)⟩, ⟨(some 34), none, .load (some 5) (.t 6)⟩, ⟨(some 35), none, .call (.c (.fn 18 [])) [(.t 33), (.t 34)]⟩, ⟨(some 32), none, .mv (.t 35)⟩, ⟨(some 36), none, .ext 0 (.t 32)⟩, ⟨(some 37), none, .ext 1 (.t 32)⟩, ⟨(some 7), none, .mv (.t 36)⟩, ⟨(some 8), none, .mv (.t 37)⟩])
      (.seq (.reg [⟨(some 39), none, .mv (.t 4)⟩, ⟨(some 40), none, .load (some 5) (.t 6)⟩, ⟨(some 41), none, .call (.c (.fn 20 [])) [(.t 39), (.t 40)]⟩, ⟨(some 38), none, .mv (.t 41)⟩, ⟨(some 42), none, .ext 0 (.t 38)⟩, ⟨(some 43), none, .ext 1 (.t 38)⟩, ⟨(some 9), none, .mv (.t 42)⟩, ⟨(some 10), none, .mv (.t 43)⟩])
       (.seq (.regq [⟨(some 44), none, .mv (.t 7)⟩, ⟨(some 45), none, .mv (.t 9)⟩, ⟨(some 46), none, .bin .neq (.t 44) (.t 45)⟩, ⟨(some 47), none, .mv (.t 46)⟩, ⟨(some 48), (some (47, false)), .mv (.t 8)⟩, ⟨(some 49), (some (47, false)), .mv (.t 10)⟩, ⟨(some 50), (some (47, false)), .bin .neq (.t 48) (.t 49)⟩, ⟨(some 51), none, .pick (.t 47) (.c (.v (.bool true))) (.t 50)⟩, ⟨(some 52), none, .mv (.t 51)⟩, ⟨(some 53), (some (52, false)), .mv (.t 3)⟩, ⟨(some 54), (some (52, false)), .call (.c (.fn 10 [])) [(.t 53)]⟩, ⟨(some 55), (some (52, false)), .mv (.t 4)⟩, ⟨(some 56), (some (52, false)), .nilck (.t 55)⟩, ⟨(some 57), (some (52, false)), .fad 0 (.t 56)⟩, ⟨(some 58), (some (52, false)), .load none (.t 57)⟩, ⟨(some 59), (some (52, false)), .len (.t 58)⟩, ⟨(some 60), (some (52, false)), .bin .neq (.t 54) (.t 59)⟩, ⟨(some 61), none, .pick (.t 52) (.c (.v (.bool true))) (.t 60)⟩, ⟨(some 62), none, .mv (.t 61)⟩, ⟨(some 63), (some (62, false)), .mv (.t 3)⟩, ⟨(some 64), (some (62, false)), .call (.c (.fn 11 [])) [(.t 63)]⟩, ⟨(some 65), (some (62, false)), .mv (.t 4)⟩, ⟨(some 66), (some (62, false)), .nilck (.t 65)⟩, ⟨(some 67), (some (62, false)), .fad 1 (.t 66)⟩, ⟨(some 68), (some (62, false)), .load none (.t 67)⟩, ⟨(some 69), (some (62, false)), .eqb true (.t 64) (.t 68)⟩, ⟨(some 70), none, .pick (.t 62) (.c (.v (.bool true))) (.t 69)⟩])
        (.cond (.t 70) (.seq (.reg [⟨(some 2), none, .mv (.c (.v (.bool false)))⟩])
          .ret)
         .skip))))))
   (.reg [⟨(some 71), none, .bin .add (.t 28) (.c (.v (.int .i64 1)))⟩, ⟨(some 28), none, .mv (.t 71)⟩]))))
def b_fuglemanlaw09_BusRuns : AC :=
 (.seq (.reg [⟨(some 2), none, .mv (.c (.v (.bool false)))⟩])
 (.seq (.seq (.reg [⟨(some 18), none, .call (.c (.fn 7 [])) []⟩, ⟨(some 19), none, .un .not (.t 18)⟩])
   (.cond (.t 19) (.seq (.reg [⟨(some 2), none, .mv (.c (.v (.bool false)))⟩])
     .ret)
    .skip))
  (.seq (.seq (.reg [⟨(some 20), none, .mv (.t 0)⟩, ⟨(some 21), none, .call (.c (.fn 17 [])) [(.t 20), (.c (.v (.int .i64 150)))]⟩, ⟨(some 22), none, .un .not (.t 21)⟩])
    (.cond (.t 22) (.seq (.reg [⟨(some 2), none, .mv (.c (.v (.bool true)))⟩])
      .ret)
     .skip))
   (.seq (.reg [⟨(some 23), none, .call (.c (.fn 8 [])) []⟩, ⟨(some 24), none, .build [(.v (.slice none 0 0)), (.v (.bool false))] []⟩, ⟨(some 25), none, .box (.t 24)⟩, ⟨(some 3), none, .mv (.t 23)⟩, ⟨(some 4), none, .mv (.t 25)⟩])
    (.seq (.seq (.reg [⟨(some 26), none, .mv (.t 0)⟩, ⟨(some 27), none, .len (.t 26)⟩, ⟨(some 28), none, .mv (.c (.v (.int .i64 0)))⟩])
      (.block 0 (.loop [3, 4, 26, 27, 28] l_fuglemanlaw09_BusRuns_0)))
     l_fuglemanlaw09_BusRuns_1)))))
def a_fuglemanlaw09_BusRuns : AFn := ⟨1, b_fuglemanlaw09_BusRuns, [.t 2], false, false⟩
theorem a_fuglemanlaw09_BusRuns_ok : compF Try.prog Try.f6 [[3, 4, 26, 27, 28], [3, 4, 76, 77]] false false hv = some a_fuglemanlaw09_BusRuns := by kernel_rfl

def T : Nat → Option AFn
  | 8 => some a_bus_New
  | 22 => some a_bus_Bus_add
  | 45 => some a_members_is
  | 38 => some a_members_one
  | 23 => some a_members_Without
  | 9 => some a_bus_Bus_Send
  | 10 => some a_bus_Bus_Len
  | 24 => some a_bus_Bus_at
  | 14 => some a_bus_Bus_Piece
  | 25 => some a_api_Piece
  | 12 => some a_bus_Bus_Drop
  | 37 => some a_members_Has
  | 21 => some a_bus_Bus_Deliver
  | 7 => some a_fuglemanlaw09_awake
  | 11 => some a_bus_Bus_Fault
  | 3 => some a_fuglemanlaw09_BusFull
  | 26 => some a_bus_Bus_whole
  | 27 => some a_bus_hurt
  | 28 => some a_crc_Burst
  | 13 => some a_bus_Bus_Burst
  | 15 => some a_bus_Bus_Twice
  | 16 => some a_bus_Bus_Cut
  | 4 => some a_fuglemanlaw09_BusHurts
  | 17 => some a_fuglemanlaw09_small
  | 29 => some a_bus_Bus_Lose
  | 18 => some a_fuglemanlaw09_do
  | 30 => some a_fuglemanref01_Bit
  | 39 => some a_fuglemanref09_Bus_add
  | 42 => some a_fuglemanref05_Has
  | 46 => some a_fuglemanref05_List
  | 47 => some a_fuglemanref05_With
  | 40 => some a_fuglemanref05_Without
  | 31 => some a_fuglemanref09_Bus_Send
  | 41 => some a_fuglemanref09_Bus_There
  | 43 => some a_fuglemanref09_Bus_without
  | 32 => some a_fuglemanref09_Bus_Deliver
  | 33 => some a_fuglemanref09_Bus_Drop
  | 34 => some a_fuglemanref09_Bus_Twice
  | 44 => some a_fuglemanref01_Burst
  | 35 => some a_fuglemanref09_Bus_Burst
  | 36 => some a_fuglemanref09_Bus_Cut
  | 20 => some a_fuglemanlaw09_should
  | 6 => some a_fuglemanlaw09_BusRuns
  | _ => none
theorem tableOK : TableOK Try.prog T := by
  intro f fn h
  unfold T at h
  split at h
  · cases h; exact ⟨_, _, _, _, _, Try.func8, a_bus_New_ok⟩
  · cases h; exact ⟨_, _, _, _, _, Try.func22, a_bus_Bus_add_ok⟩
  · cases h; exact ⟨_, _, _, _, _, Try.func45, a_members_is_ok⟩
  · cases h; exact ⟨_, _, _, _, _, Try.func38, a_members_one_ok⟩
  · cases h; exact ⟨_, _, _, _, _, Try.func23, a_members_Without_ok⟩
  · cases h; exact ⟨_, _, _, _, _, Try.func9, a_bus_Bus_Send_ok⟩
  · cases h; exact ⟨_, _, _, _, _, Try.func10, a_bus_Bus_Len_ok⟩
  · cases h; exact ⟨_, _, _, _, _, Try.func24, a_bus_Bus_at_ok⟩
  · cases h; exact ⟨_, _, _, _, _, Try.func14, a_bus_Bus_Piece_ok⟩
  · cases h; exact ⟨_, _, _, _, _, Try.func25, a_api_Piece_ok⟩
  · cases h; exact ⟨_, _, _, _, _, Try.func12, a_bus_Bus_Drop_ok⟩
  · cases h; exact ⟨_, _, _, _, _, Try.func37, a_members_Has_ok⟩
  · cases h; exact ⟨_, _, _, _, _, Try.func21, a_bus_Bus_Deliver_ok⟩
  · cases h; exact ⟨_, _, _, _, _, Try.func7, a_fuglemanlaw09_awake_ok⟩
  · cases h; exact ⟨_, _, _, _, _, Try.func11, a_bus_Bus_Fault_ok⟩
  · cases h; exact ⟨_, _, _, _, _, Try.func3, a_fuglemanlaw09_BusFull_ok⟩
  · cases h; exact ⟨_, _, _, _, _, Try.func26, a_bus_Bus_whole_ok⟩
  · cases h; exact ⟨_, _, _, _, _, Try.func27, a_bus_hurt_ok⟩
  · cases h; exact ⟨_, _, _, _, _, Try.func28, a_crc_Burst_ok⟩
  · cases h; exact ⟨_, _, _, _, _, Try.func13, a_bus_Bus_Burst_ok⟩
  · cases h; exact ⟨_, _, _, _, _, Try.func15, a_bus_Bus_Twice_ok⟩
  · cases h; exact ⟨_, _, _, _, _, Try.func16, a_bus_Bus_Cut_ok⟩
  · cases h; exact ⟨_, _, _, _, _, Try.func4, a_fuglemanlaw09_BusHurts_ok⟩
  · cases h; exact ⟨_, _, _, _, _, Try.func17, a_fuglemanlaw09_small_ok⟩
  · cases h; exact ⟨_, _, _, _, _, Try.func29, a_bus_Bus_Lose_ok⟩
  · cases h; exact ⟨_, _, _, _, _, Try.func18, a_fuglemanlaw09_do_ok⟩
  · cases h; exact ⟨_, _, _, _, _, Try.func30, a_fuglemanref01_Bit_ok⟩
  · cases h; exact ⟨_, _, _, _, _, Try.func39, a_fuglemanref09_Bus_add_ok⟩
  · cases h; exact ⟨_, _, _, _, _, Try.func42, a_fuglemanref05_Has_ok⟩
  · cases h; exact ⟨_, _, _, _, _, Try.func46, a_fuglemanref05_List_ok⟩
  · cases h; exact ⟨_, _, _, _, _, Try.func47, a_fuglemanref05_With_ok⟩
  · cases h; exact ⟨_, _, _, _, _, Try.func40, a_fuglemanref05_Without_ok⟩
  · cases h; exact ⟨_, _, _, _, _, Try.func31, a_fuglemanref09_Bus_Send_ok⟩
  · cases h; exact ⟨_, _, _, _, _, Try.func41, a_fuglemanref09_Bus_There_ok⟩
  · cases h; exact ⟨_, _, _, _, _, Try.func43, a_fuglemanref09_Bus_without_ok⟩
  · cases h; exact ⟨_, _, _, _, _, Try.func32, a_fuglemanref09_Bus_Deliver_ok⟩
  · cases h; exact ⟨_, _, _, _, _, Try.func33, a_fuglemanref09_Bus_Drop_ok⟩
  · cases h; exact ⟨_, _, _, _, _, Try.func34, a_fuglemanref09_Bus_Twice_ok⟩
  · cases h; exact ⟨_, _, _, _, _, Try.func44, a_fuglemanref01_Burst_ok⟩
  · cases h; exact ⟨_, _, _, _, _, Try.func35, a_fuglemanref09_Bus_Burst_ok⟩
  · cases h; exact ⟨_, _, _, _, _, Try.func36, a_fuglemanref09_Bus_Cut_ok⟩
  · cases h; exact ⟨_, _, _, _, _, Try.func20, a_fuglemanlaw09_should_ok⟩
  · cases h; exact ⟨_, _, _, _, _, Try.func6, a_fuglemanlaw09_BusRuns_ok⟩
  · cases h
theorem mixed : Try.prog.follows .mixedOrders = true := by kernel_rfl
theorem calls (k : Nat) : CallsOK Try.prog (acall T k) := acall_ok mixed tableOK k
end Go.Proofs.Ythmmgpdniijkeaa.Tab
