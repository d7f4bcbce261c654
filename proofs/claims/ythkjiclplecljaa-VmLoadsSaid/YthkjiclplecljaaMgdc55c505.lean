/- Texts of this claim, one behind the other. -/
import Derived.Test.YthkjiclplecljaaMg7923157a
import Derived.Test.YthkjiclplecljaaMg67b2a8e2
namespace Go.Proofs.Ythkjiclplecljaa.Tab
open Go Go.Proofs.Ythkjiclplecljaa.Sym
set_option linter.unusedVariables false

/-! (*fugleman/vm.run).timer: 58 -/
def c_vm_run_timer_0 : AC :=
 (.seq (.regq [⟨(some 10), none, .mv (.t 0)⟩, ⟨(some 11), none, .fad 2 (.t 3)⟩, ⟨(some 12), none, .load none (.t 11)⟩, ⟨(some 13), none, .fad 3 (.t 3)⟩, ⟨(some 14), none, .load none (.t 13)⟩, ⟨(some 15), none, .call (.c (.fn 88 [])) [(.t 10), (.t 12), (.t 14), (.c (.v (.int .i64 7)))]⟩, ⟨(some 16), none, .mv (.t 0)⟩, ⟨(some 17), none, .nilck (.t 16)⟩, ⟨(some 18), none, .fad 12 (.t 17)⟩, ⟨(some 19), none, .load none (.t 18)⟩, ⟨(some 20), none, .bin .add (.t 15) (.t 19)⟩, ⟨(some 21), none, .fad 4 (.t 3)⟩, ⟨(some 22), none, .load none (.t 21)⟩, ⟨(some 23), none, .min [(.t 20), (.t 22)]⟩, ⟨(some 4), none, .mv (.t 23)⟩]) (.drop [5, 23]))
def b_vm_run_timer : AC :=
 (.seq (.seq (.reg [⟨(some 3), none, .box (.t 1)⟩]) (.drop []))
 (.seq (.seq (.reg [⟨(some 4), none, .mv (.c (.v (.int .i64 0)))⟩]) (.drop []))
  (.seq (.seq (.seq (.reg [⟨(some 5), none, .mv (.t 0)⟩, ⟨(some 6), none, .nilck (.t 5)⟩, ⟨(some 7), none, .fad 5 (.t 6)⟩, ⟨(some 8), none, .load (some 2) (.t 7)⟩, ⟨(some 9), none, .call (.c (.fn 52 [])) [(.t 8)]⟩]) (.drop [5, 8]))
    (.cond (.t 9) c_vm_run_timer_0
     .skip))
   (.seq (.seq (.reg [⟨(some 24), none, .mv (.t 0)⟩, ⟨(some 25), none, .fad 2 (.t 3)⟩, ⟨(some 26), none, .load none (.t 25)⟩, ⟨(some 27), none, .fad 3 (.t 3)⟩, ⟨(some 28), none, .load none (.t 27)⟩, ⟨(some 29), none, .mv (.t 4)⟩, ⟨(some 30), none, .call (.c (.fn 55 [])) [(.t 24), (.t 26), (.t 28), (.c (.v (.int .i64 7))), (.t 29)]⟩]) (.drop [5, 30]))
    (.seq (.reg [⟨(some 31), none, .mv (.t 0)⟩, ⟨(some 32), none, .mv (.t 0)⟩, ⟨(some 33), none, .nilck (.t 32)⟩, ⟨(some 34), none, .fad 5 (.t 33)⟩, ⟨(some 35), none, .load (some 2) (.t 34)⟩, ⟨(some 36), none, .call (.c (.fn 52 [])) [(.t 35)]⟩, ⟨(some 37), none, .mv (.t 36)⟩, ⟨(some 38), (some (37, true)), .mv (.t 4)⟩, ⟨(some 39), (some (37, true)), .fad 4 (.t 3)⟩, ⟨(some 40), (some (37, true)), .load none (.t 39)⟩, ⟨(some 41), (some (37, true)), .bin .eql (.t 38) (.t 40)⟩, ⟨(some 42), none, .pick (.t 37) (.t 41) (.c (.v (.bool false)))⟩, ⟨(some 43), none, .call (.c (.fn 60 [])) [(.t 42)]⟩, ⟨(some 44), none, .nilck (.t 31)⟩, ⟨(some 45), none, .fad 5 (.t 44)⟩, ⟨none, none, .store 2 (.t 45) (.t 43)⟩]) (.drop [0, 45]))))))
def a_vm_run_timer : AFn := ⟨2, b_vm_run_timer, [], false, true⟩
theorem a_vm_run_timer_ok : compF Try.prog Try.f58 [[], [], [5, 8], [5, 23], [5, 30], [0, 45]] false true hv = some a_vm_run_timer := by kernel_rfl

/-! (*fugleman/vm.run).rises: 61 -/
def b_vm_run_rises : AC :=
 (.seq (.seq (.reg [⟨(some 6), none, .mv (.c (.v (.bool false)))⟩]) (.drop [3, 6]))
 (.seq (.seq (.reg [⟨(some 8), none, .mv (.t 0)⟩, ⟨(some 9), none, .mv (.t 1)⟩, ⟨(some 10), none, .mv (.t 2)⟩, ⟨(some 11), none, .call (.c (.fn 88 [])) [(.t 8), (.t 9), (.t 10), (.c (.v (.int .i64 1)))]⟩, ⟨(some 7), none, .mv (.t 11)⟩]) (.drop [8, 11]))
  (.seq (.seq (.reg [⟨(some 12), none, .mv (.t 0)⟩, ⟨(some 13), none, .mv (.t 1)⟩, ⟨(some 14), none, .mv (.t 2)⟩, ⟨(some 15), none, .mv (.t 0)⟩, ⟨(some 16), none, .nilck (.t 15)⟩, ⟨(some 17), none, .fad 5 (.t 16)⟩, ⟨(some 18), none, .fad 1 (.t 17)⟩, ⟨(some 19), none, .load none (.t 18)⟩, ⟨(some 20), none, .call (.c (.fn 55 [])) [(.t 12), (.t 13), (.t 14), (.c (.v (.int .i64 1))), (.t 19)]⟩]) (.drop [8, 20]))
   (.seq (.seq (.reg [⟨(some 21), none, .mv (.t 0)⟩, ⟨(some 22), none, .nilck (.t 21)⟩, ⟨(some 23), none, .fad 5 (.t 22)⟩, ⟨(some 24), none, .load (some 2) (.t 23)⟩, ⟨(some 25), none, .call (.c (.fn 52 [])) [(.t 24)]⟩, ⟨(some 26), none, .mv (.t 25)⟩, ⟨(some 27), (some (26, true)), .mv (.t 7)⟩, ⟨(some 28), (some (26, true)), .bin .eql (.t 27) (.c (.v (.int .i64 0)))⟩, ⟨(some 29), none, .pick (.t 26) (.t 28) (.c (.v (.bool false)))⟩, ⟨(some 6), none, .mv (.t 29)⟩]) (.drop [7, 29]))
    .ret))))
def a_vm_run_rises : AFn := ⟨3, b_vm_run_rises, [.t 6], false, true⟩
theorem a_vm_run_rises_ok : compF Try.prog Try.f61 [[3, 6], [8, 11], [8, 20], [7, 29]] false true hv = some a_vm_run_rises := by kernel_rfl

/-! (*fugleman/vm.run).counter: 59 -/
def c_vm_run_counter_0 : AC :=
 (.seq (.seq (.reg [⟨(some 18), none, .mv (.t 4)⟩, ⟨(some 19), none, .bin .add (.t 18) (.c (.v (.int .i64 1)))⟩, ⟨(some 20), none, .fad 4 (.t 3)⟩, ⟨(some 21), none, .load none (.t 20)⟩, ⟨(some 22), none, .min [(.t 19), (.t 21)]⟩, ⟨(some 4), none, .mv (.t 22)⟩]) (.drop [5, 22]))
      (.seq (.reg [⟨(some 23), none, .mv (.t 0)⟩, ⟨(some 24), none, .fad 2 (.t 3)⟩, ⟨(some 25), none, .load none (.t 24)⟩, ⟨(some 26), none, .fad 3 (.t 3)⟩, ⟨(some 27), none, .load none (.t 26)⟩, ⟨(some 28), none, .mv (.t 4)⟩, ⟨(some 29), none, .call (.c (.fn 55 [])) [(.t 23), (.t 25), (.t 27), (.c (.v (.int .i64 7))), (.t 28)]⟩]) (.drop [5, 29])))
def b_vm_run_counter : AC :=
 (.seq (.seq (.reg [⟨(some 3), none, .box (.t 1)⟩]) (.drop []))
 (.seq (.seq (.reg [⟨(some 5), none, .mv (.t 0)⟩, ⟨(some 6), none, .fad 2 (.t 3)⟩, ⟨(some 7), none, .load none (.t 6)⟩, ⟨(some 8), none, .fad 3 (.t 3)⟩, ⟨(some 9), none, .load none (.t 8)⟩, ⟨(some 10), none, .call (.c (.fn 88 [])) [(.t 5), (.t 7), (.t 9), (.c (.v (.int .i64 7)))]⟩, ⟨(some 4), none, .mv (.t 10)⟩]) (.drop [5, 10]))
  (.seq (.seq (.seq (.reg [⟨(some 11), none, .mv (.t 0)⟩, ⟨(some 12), none, .fad 2 (.t 3)⟩, ⟨(some 13), none, .load none (.t 12)⟩, ⟨(some 14), none, .fad 3 (.t 3)⟩, ⟨(some 15), none, .load none (.t 14)⟩, ⟨(some 16), none, .bin .add (.t 15) (.c (.v (.int .i64 4)))⟩, ⟨(some 17), none, .call (.c (.fn 61 [])) [(.t 11), (.t 13), (.t 16)]⟩]) (.drop [5, 16]))
    (.cond (.t 17) c_vm_run_counter_0
     .skip))
   (.seq (.reg [⟨(some 30), none, .mv (.t 0)⟩, ⟨(some 31), none, .mv (.t 4)⟩, ⟨(some 32), none, .fad 4 (.t 3)⟩, ⟨(some 33), none, .load none (.t 32)⟩, ⟨(some 34), none, .bin .geq (.t 31) (.t 33)⟩, ⟨(some 35), none, .call (.c (.fn 60 [])) [(.t 34)]⟩, ⟨(some 36), none, .nilck (.t 30)⟩, ⟨(some 37), none, .fad 5 (.t 36)⟩, ⟨none, none, .store 2 (.t 37) (.t 35)⟩]) (.drop [0, 37])))))
def a_vm_run_counter : AFn := ⟨2, b_vm_run_counter, [], false, true⟩
theorem a_vm_run_counter_ok : compF Try.prog Try.f59 [[], [5, 10], [5, 16], [5, 22], [5, 29], [0, 37]] false true hv = some a_vm_run_counter := by kernel_rfl

/-! (*fugleman/vm.run).step: 33 -/
def c_vm_run_step_0 : AC :=
 (.seq (.regm [(.o, ⟨(some 22), none, .mv (.t 0)⟩), (.o, ⟨(some 23), none, .fad 1 (.t 3)⟩), (.o, ⟨(some 24), none, .load none (.t 23)⟩), (.o, ⟨(some 25), none, .mv (.t 0)⟩), (.o, ⟨(some 26), none, .load (some 5) (.t 3)⟩), (.m, ⟨(some 27), none, .call (.c (.fn 53 [])) [(.t 25), (.t 26)]⟩), (.o, ⟨(some 28), none, .build [(.v (.int .i64 0)), (.v (.int .i64 0))] [(0, 1, (.t 24)), (1, 1, (.t 27))]⟩), (.o, ⟨(some 29), none, .nilck (.t 22)⟩), (.o, ⟨(some 30), none, .fad 5 (.t 29)⟩), (.o, ⟨none, none, .store 2 (.t 30) (.t 28)⟩)]) (.drop [0, 30]))
def c_vm_run_step_1 : AC :=
 (.seq (.regm [(.o, ⟨(some 33), none, .mv (.t 0)⟩), (.o, ⟨(some 34), none, .fad 1 (.t 3)⟩), (.o, ⟨(some 35), none, .load none (.t 34)⟩), (.o, ⟨(some 36), none, .fad 1 (.t 3)⟩), (.o, ⟨(some 37), none, .load none (.t 36)⟩), (.o, ⟨(some 38), none, .mv (.t 0)⟩), (.o, ⟨(some 39), none, .load (some 5) (.t 3)⟩), (.m, ⟨(some 40), none, .call (.c (.fn 53 [])) [(.t 38), (.t 39)]⟩), (.m, ⟨(some 41), none, .call (.c (.fn 54 [])) [(.t 37), (.t 40)]⟩), (.o, ⟨(some 42), none, .build [(.v (.int .i64 0)), (.v (.int .i64 0))] [(0, 1, (.t 35)), (1, 1, (.t 41))]⟩), (.o, ⟨(some 43), none, .nilck (.t 33)⟩), (.o, ⟨(some 44), none, .fad 5 (.t 43)⟩), (.o, ⟨none, none, .store 2 (.t 44) (.t 42)⟩)]) (.drop [0, 44]))
def c_vm_run_step_2 : AC :=
 (.seq (.reg [⟨(some 47), none, .mv (.t 0)⟩, ⟨(some 48), none, .fad 2 (.t 3)⟩, ⟨(some 49), none, .load none (.t 48)⟩, ⟨(some 50), none, .fad 3 (.t 3)⟩, ⟨(some 51), none, .load none (.t 50)⟩, ⟨(some 52), none, .fad 1 (.t 3)⟩, ⟨(some 53), none, .load none (.t 52)⟩, ⟨(some 54), none, .fad 1 (.t 4)⟩, ⟨(some 55), none, .load none (.t 54)⟩, ⟨(some 56), none, .call (.c (.fn 55 [])) [(.t 47), (.t 49), (.t 51), (.t 53), (.t 55)]⟩]) (.drop [0, 56]))
def c_vm_run_step_3 : AC :=
 (.seq (.regm [(.o, ⟨(some 59), none, .mv (.t 0)⟩), (.o, ⟨(some 60), none, .fad 2 (.t 3)⟩), (.o, ⟨(some 61), none, .load none (.t 60)⟩), (.o, ⟨(some 62), none, .fad 3 (.t 3)⟩), (.o, ⟨(some 63), none, .load none (.t 62)⟩), (.o, ⟨(some 64), none, .fad 1 (.t 3)⟩), (.o, ⟨(some 65), none, .load none (.t 64)⟩), (.o, ⟨(some 66), none, .fad 1 (.t 3)⟩), (.o, ⟨(some 67), none, .load none (.t 66)⟩), (.o, ⟨(some 68), none, .fad 1 (.t 4)⟩), (.o, ⟨(some 69), none, .load none (.t 68)⟩), (.m, ⟨(some 70), none, .call (.c (.fn 54 [])) [(.t 67), (.t 69)]⟩), (.o, ⟨(some 71), none, .call (.c (.fn 55 [])) [(.t 59), (.t 61), (.t 63), (.t 65), (.t 70)]⟩)]) (.drop [0, 71]))
def c_vm_run_step_4 : AC :=
 (.seq (.reg [⟨(some 77), none, .mv (.t 0)⟩, ⟨(some 78), none, .fad 2 (.t 3)⟩, ⟨(some 79), none, .load none (.t 78)⟩, ⟨(some 80), none, .fad 3 (.t 3)⟩, ⟨(some 81), none, .load none (.t 80)⟩, ⟨(some 82), none, .fad 0 (.t 3)⟩, ⟨(some 83), none, .load none (.t 82)⟩, ⟨(some 84), none, .bin .sub (.c (.v (.int .i64 6))) (.t 83)⟩, ⟨(some 85), none, .call (.c (.fn 55 [])) [(.t 77), (.t 79), (.t 81), (.c (.v (.int .i64 1))), (.t 84)]⟩]) (.drop [0, 85]))
def c_vm_run_step_5 : AC :=
 (.seq (.reg [⟨(some 88), none, .mv (.t 0)⟩, ⟨(some 89), none, .fad 0 (.t 4)⟩, ⟨(some 90), none, .load none (.t 89)⟩, ⟨(some 91), none, .fad 1 (.t 4)⟩, ⟨(some 92), none, .load none (.t 91)⟩, ⟨(some 93), none, .call (.c (.fn 54 [])) [(.t 90), (.t 92)]⟩, ⟨(some 94), none, .nilck (.t 88)⟩, ⟨(some 95), none, .fad 5 (.t 94)⟩, ⟨(some 96), none, .fad 1 (.t 95)⟩, ⟨none, none, .store 1 (.t 96) (.t 93)⟩]) (.drop [0, 96]))
def c_vm_run_step_6 : AC :=
 (.seq (.regm [(.o, ⟨(some 99), none, .mv (.t 0)⟩), (.o, ⟨(some 100), none, .fad 1 (.t 3)⟩), (.o, ⟨(some 101), none, .load none (.t 100)⟩), (.o, ⟨(some 102), none, .fad 1 (.t 3)⟩), (.o, ⟨(some 103), none, .load none (.t 102)⟩), (.o, ⟨(some 104), none, .fad 1 (.t 4)⟩), (.o, ⟨(some 105), none, .load none (.t 104)⟩), (.m, ⟨(some 106), none, .call (.c (.fn 56 [])) [(.t 103), (.t 105)]⟩), (.o, ⟨(some 107), none, .build [(.v (.int .i64 0)), (.v (.int .i64 0))] [(0, 1, (.t 101)), (1, 1, (.t 106))]⟩), (.o, ⟨(some 108), none, .nilck (.t 99)⟩), (.o, ⟨(some 109), none, .fad 5 (.t 108)⟩), (.o, ⟨none, none, .store 2 (.t 109) (.t 107)⟩)]) (.drop [0, 109]))
def c_vm_run_step_7 : AC :=
 (.seq (.seq (.regm [(.o, ⟨(some 112), none, .mv (.t 0)⟩), (.o, ⟨(some 113), none, .mv (.t 0)⟩), (.o, ⟨(some 114), none, .nilck (.t 113)⟩), (.o, ⟨(some 115), none, .fad 7 (.t 114)⟩), (.o, ⟨(some 116), none, .load none (.t 115)⟩), (.o, ⟨(some 117), none, .fad 3 (.t 3)⟩), (.o, ⟨(some 118), none, .load none (.t 117)⟩), (.o, ⟨(some 119), none, .load (some 2) (.t 4)⟩), (.o, ⟨(some 120), none, .build [(.v (.int .i64 0)), (.v (.int .i64 0)), (.v (.int .i64 0))] [(0, 1, (.t 118)), (1, 2, (.t 119))]⟩), (.o, ⟨(some 121), none, .row 3 1 [(.v (.int .i64 0)), (.v (.int .i64 0)), (.v (.int .i64 0))] [(0, 3, (.t 120))]⟩), (.o, ⟨(some 122), none, .app 3 24 (.t 116) (.t 121)⟩), (.o, ⟨(some 123), none, .nilck (.t 112)⟩), (.o, ⟨(some 124), none, .fad 7 (.t 123)⟩), (.o, ⟨none, none, .store 1 (.t 124) (.t 122)⟩)]) (.drop [1, 124]))
                     (.seq (.reg [⟨(some 125), none, .mv (.t 0)⟩, ⟨(some 126), none, .build [(.v (.int .i64 0)), (.v (.int .i64 0))] []⟩, ⟨(some 127), none, .nilck (.t 125)⟩, ⟨(some 128), none, .fad 5 (.t 127)⟩, ⟨none, none, .store 2 (.t 128) (.t 126)⟩]) (.drop [0, 128])))
def c_vm_run_step_8 : AC :=
 (.seq (.seq (.regm [(.o, ⟨(some 131), none, .mv (.t 0)⟩), (.o, ⟨(some 132), none, .nilck (.t 131)⟩), (.o, ⟨(some 133), none, .fad 7 (.t 132)⟩), (.o, ⟨(some 134), none, .load none (.t 133)⟩), (.o, ⟨(some 135), none, .mv (.t 0)⟩), (.o, ⟨(some 136), none, .nilck (.t 135)⟩), (.o, ⟨(some 137), none, .fad 7 (.t 136)⟩), (.o, ⟨(some 138), none, .load none (.t 137)⟩), (.o, ⟨(some 139), none, .len (.t 138)⟩), (.o, ⟨(some 140), none, .bin .sub (.t 139) (.c (.v (.int .i64 1)))⟩), (.o, ⟨(some 141), none, .ixs 3 (.t 134) (.t 140)⟩), (.o, ⟨(some 142), none, .load (some 3) (.t 141)⟩), (.o, ⟨(some 5), none, .alloc [(.v (.int .i64 0)), (.v (.int .i64 0)), (.v (.int .i64 0))]⟩), (.o, ⟨none, none, .store 3 (.t 5) (.t 142)⟩)]) (.drop [6, 142]))
                       (.seq (.seq (.regm [(.o, ⟨(some 143), none, .mv (.t 0)⟩), (.o, ⟨(some 144), none, .mv (.t 0)⟩), (.o, ⟨(some 145), none, .nilck (.t 144)⟩), (.o, ⟨(some 146), none, .fad 7 (.t 145)⟩), (.o, ⟨(some 147), none, .load none (.t 146)⟩), (.o, ⟨(some 148), none, .mv (.t 0)⟩), (.o, ⟨(some 149), none, .nilck (.t 148)⟩), (.o, ⟨(some 150), none, .fad 7 (.t 149)⟩), (.o, ⟨(some 151), none, .load none (.t 150)⟩), (.o, ⟨(some 152), none, .len (.t 151)⟩), (.o, ⟨(some 153), none, .bin .sub (.t 152) (.c (.v (.int .i64 1)))⟩), (.o, ⟨(some 154), none, .sls 3 (.t 147) none (some (.t 153)) none⟩), (.o, ⟨(some 155), none, .nilck (.t 143)⟩), (.o, ⟨(some 156), none, .fad 7 (.t 155)⟩), (.o, ⟨none, none, .store 1 (.t 156) (.t 154)⟩)]) (.drop [6, 156]))
                        (.seq (.reg [⟨(some 157), none, .mv (.t 0)⟩, ⟨(some 158), none, .fad 0 (.t 5)⟩, ⟨(some 159), none, .load none (.t 158)⟩, ⟨(some 160), none, .fad 1 (.t 5)⟩, ⟨(some 161), none, .load (some 2) (.t 160)⟩, ⟨(some 162), none, .fad 1 (.t 4)⟩, ⟨(some 163), none, .load none (.t 162)⟩, ⟨(some 164), none, .call (.c (.fn 57 [])) [(.t 157), (.t 159), (.t 161), (.t 163)]⟩]) (.drop [0, 164]))))
def c_vm_run_step_9 : AC :=
 (.seq (.reg [⟨(some 177), none, .mv (.t 0)⟩, ⟨(some 178), none, .mv (.t 0)⟩, ⟨(some 179), none, .fad 2 (.t 3)⟩, ⟨(some 180), none, .load none (.t 179)⟩, ⟨(some 181), none, .fad 3 (.t 3)⟩, ⟨(some 182), none, .load none (.t 181)⟩, ⟨(some 183), none, .call (.c (.fn 61 [])) [(.t 178), (.t 180), (.t 182)]⟩, ⟨(some 184), none, .call (.c (.fn 60 [])) [(.t 183)]⟩, ⟨(some 185), none, .nilck (.t 177)⟩, ⟨(some 186), none, .fad 5 (.t 185)⟩, ⟨none, none, .store 2 (.t 186) (.t 184)⟩]) (.drop [0, 186]))
def c_vm_run_step_10 : AC :=
 (.seq (.regm [(.o, ⟨(some 12), none, .mv (.t 0)⟩), (.o, ⟨(some 13), none, .fad 0 (.t 3)⟩), (.o, ⟨(some 14), none, .load none (.t 13)⟩), (.o, ⟨(some 15), none, .load (some 2) (.t 4)⟩), (.o, ⟨(some 16), none, .mv (.t 0)⟩), (.o, ⟨(some 17), none, .load (some 5) (.t 3)⟩), (.m, ⟨(some 18), none, .call (.c (.fn 53 [])) [(.t 16), (.t 17)]⟩), (.o, ⟨(some 19), none, .call (.c (.fn 57 [])) [(.t 12), (.t 14), (.t 15), (.t 18)]⟩)]) (.drop [0, 19]))
def c_vm_run_step_11 : AC :=
 (.seq (.seq (.reg [⟨(some 171), none, .bin .eql (.t 11) (.c (.v (.int .i64 35)))⟩, ⟨(some 170), none, .mv (.t 171)⟩]) (.drop [171, 171]))
                         (.cond (.t 170) (.seq (.reg [⟨(some 172), none, .mv (.t 0)⟩, ⟨(some 173), none, .load (some 5) (.t 3)⟩, ⟨(some 174), none, .call (.c (.fn 59 [])) [(.t 172), (.t 173)]⟩]) (.drop [0, 174]))
                          (.seq (.seq (.reg [⟨(some 176), none, .bin .eql (.t 11) (.c (.v (.int .i64 36)))⟩, ⟨(some 175), none, .mv (.t 176)⟩]) (.drop [176, 176]))
                           (.cond (.t 175) c_vm_run_step_9
                            c_vm_run_step_10))))
def c_vm_run_step_12 : AC :=
 (.seq (.seq (.reg [⟨(some 166), none, .bin .eql (.t 11) (.c (.v (.int .i64 34)))⟩, ⟨(some 165), none, .mv (.t 166)⟩]) (.drop [166, 166]))
                       (.cond (.t 165) (.seq (.reg [⟨(some 167), none, .mv (.t 0)⟩, ⟨(some 168), none, .load (some 5) (.t 3)⟩, ⟨(some 169), none, .call (.c (.fn 58 [])) [(.t 167), (.t 168)]⟩]) (.drop [0, 169]))
                        c_vm_run_step_11))
def c_vm_run_step_13 : AC :=
 (.seq (.seq (.reg [⟨(some 111), none, .bin .eql (.t 11) (.c (.v (.int .i64 32)))⟩, ⟨(some 110), none, .mv (.t 111)⟩]) (.drop [111, 111]))
                   (.cond (.t 110) c_vm_run_step_7
                    (.seq (.seq (.reg [⟨(some 130), none, .bin .eql (.t 11) (.c (.v (.int .i64 33)))⟩, ⟨(some 129), none, .mv (.t 130)⟩]) (.drop [130, 130]))
                     (.cond (.t 129) c_vm_run_step_8
                      c_vm_run_step_12))))
def c_vm_run_step_14 : AC :=
 (.seq (.seq (.reg [⟨(some 87), none, .bin .eql (.t 11) (.c (.v (.int .i64 13)))⟩, ⟨(some 86), none, .mv (.t 87)⟩]) (.drop [87, 87]))
               (.cond (.t 86) c_vm_run_step_5
                (.seq (.seq (.reg [⟨(some 98), none, .bin .eql (.t 11) (.c (.v (.int .i64 31)))⟩, ⟨(some 97), none, .mv (.t 98)⟩]) (.drop [98, 98]))
                 (.cond (.t 97) c_vm_run_step_6
                  c_vm_run_step_13))))
def c_vm_run_step_15 : AC :=
 (.seq (.seq (.seq (.reg [⟨(some 73), none, .bin .eql (.t 11) (.c (.v (.int .i64 5)))⟩, ⟨(some 72), none, .mv (.t 73)⟩]) (.drop [73, 73]))
              (.cond (.t 72) .skip
               (.seq (.reg [⟨(some 74), none, .bin .eql (.t 11) (.c (.v (.int .i64 6)))⟩, ⟨(some 72), none, .mv (.t 74)⟩]) (.drop [73, 74]))))
             (.cond (.t 72) (.seq (.seq (.reg [⟨(some 75), none, .load (some 2) (.t 4)⟩, ⟨(some 76), none, .call (.c (.fn 52 [])) [(.t 75)]⟩]) (.drop [4, 75]))
               (.cond (.t 76) c_vm_run_step_4
                .skip))
              c_vm_run_step_14))
def c_vm_run_step_16 : AC :=
 (.seq (.seq (.reg [⟨(some 46), none, .bin .eql (.t 11) (.c (.v (.int .i64 3)))⟩, ⟨(some 45), none, .mv (.t 46)⟩]) (.drop [46, 46]))
         (.cond (.t 45) c_vm_run_step_2
          (.seq (.seq (.reg [⟨(some 58), none, .bin .eql (.t 11) (.c (.v (.int .i64 4)))⟩, ⟨(some 57), none, .mv (.t 58)⟩]) (.drop [58, 58]))
           (.cond (.t 57) c_vm_run_step_3
            c_vm_run_step_15))))
def b_vm_run_step : AC :=
 (.seq (.seq (.reg [⟨(some 3), none, .box (.t 1)⟩]) (.drop []))
 (.seq (.seq (.reg [⟨(some 6), none, .mv (.t 0)⟩, ⟨(some 7), none, .nilck (.t 6)⟩, ⟨(some 8), none, .fad 5 (.t 7)⟩, ⟨(some 9), none, .load (some 2) (.t 8)⟩, ⟨(some 4), none, .alloc [(.v (.int .i64 0)), (.v (.int .i64 0))]⟩, ⟨none, none, .store 2 (.t 4) (.t 9)⟩]) (.drop [5, 9]))
  (.seq (.seq (.reg [⟨(some 10), none, .fad 0 (.t 3)⟩, ⟨(some 11), none, .load none (.t 10)⟩]) (.drop [5, 10]))
   (.block 0 (.seq (.seq (.reg [⟨(some 21), none, .bin .eql (.t 11) (.c (.v (.int .i64 1)))⟩, ⟨(some 20), none, .mv (.t 21)⟩]) (.drop [21, 21]))
     (.cond (.t 20) c_vm_run_step_0
      (.seq (.seq (.reg [⟨(some 32), none, .bin .eql (.t 11) (.c (.v (.int .i64 2)))⟩, ⟨(some 31), none, .mv (.t 32)⟩]) (.drop [32, 32]))
       (.cond (.t 31) c_vm_run_step_1
        c_vm_run_step_16))))))))
def a_vm_run_step : AFn := ⟨2, b_vm_run_step, [], false, true⟩
theorem a_vm_run_step_ok : compF Try.prog Try.f33 [[], [5, 9], [5, 10], [21, 21], [0, 30], [32, 32], [0, 44], [46, 46], [0, 56], [58, 58], [0, 71], [73, 73], [73, 74], [4, 75], [0, 85], [87, 87], [0, 96], [98, 98], [0, 109], [111, 111], [1, 124], [0, 128], [130, 130], [6, 142], [6, 156], [0, 164], [166, 166], [0, 169], [171, 171], [0, 174], [176, 176], [0, 186], [0, 19]] false true hv = some a_vm_run_step := by kernel_rfl

/-! (*fugleman/vm.run).all: 23 -/
def c_vm_run_all_0 : AC :=
 (.seq (.seq (.reg [⟨(some 37), none, .mv (.t 0)⟩, ⟨(some 38), none, .fad 0 (.t 5)⟩, ⟨(some 39), none, .load none (.t 38)⟩, ⟨(some 40), none, .call (.c (.fn 32 [])) [(.t 37), (.t 39)]⟩]) (.drop [6, 39]))
         (.cond (.t 40) (.seq (.reg [⟨(some 41), none, .fad 3 (.t 5)⟩, ⟨(some 42), none, .load none (.t 41)⟩, ⟨(some 4), none, .mv (.t 42)⟩]) (.drop [5, 42]))
          .skip))
def c_vm_run_all_1 : AC :=
 (.seq (.seq (.reg [⟨(some 52), none, .mv (.t 0)⟩, ⟨(some 53), none, .fad 0 (.t 5)⟩, ⟨(some 54), none, .load none (.t 53)⟩, ⟨(some 55), none, .call (.c (.fn 32 [])) [(.t 52), (.t 54)]⟩]) (.drop [5, 54]))
           (.cond (.t 55) .ret
            .skip))
def c_vm_run_all_2 : AC :=
 (.seq (.seq (.reg [⟨(some 44), none, .fad 0 (.t 5)⟩, ⟨(some 45), none, .load none (.t 44)⟩, ⟨(some 46), none, .bin .geq (.t 45) (.c (.v (.int .i64 28)))⟩, ⟨(some 47), none, .mv (.t 46)⟩, ⟨(some 48), (some (47, true)), .fad 0 (.t 5)⟩, ⟨(some 49), (some (47, true)), .load none (.t 48)⟩, ⟨(some 50), (some (47, true)), .bin .leq (.t 49) (.c (.v (.int .i64 30)))⟩, ⟨(some 51), none, .pick (.t 47) (.t 50) (.c (.v (.bool false)))⟩, ⟨(some 43), none, .mv (.t 51)⟩]) (.drop [44, 51]))
         (.cond (.t 43) c_vm_run_all_1
          (.seq (.reg [⟨(some 25), none, .mv (.t 0)⟩, ⟨(some 26), none, .load (some 5) (.t 5)⟩, ⟨(some 27), none, .call (.c (.fn 33 [])) [(.t 25), (.t 26)]⟩]) (.drop [5, 27]))))
def l_vm_run_all_0 : AC :=
 (.seq (.seq (.seq (.reg [⟨(some 6), none, .mv (.t 4)⟩, ⟨(some 7), none, .mv (.t 1)⟩, ⟨(some 8), none, .len (.t 7)⟩, ⟨(some 9), none, .bin .lss (.t 6) (.t 8)⟩]) (.drop [5, 8]))
  (.cond (.t 9) .skip
   (.exit 0)))
 (.block 1 (.seq (.seq (.reg [⟨(some 10), none, .mv (.t 1)⟩, ⟨(some 11), none, .mv (.t 4)⟩, ⟨(some 12), none, .ixs 5 (.t 10) (.t 11)⟩, ⟨(some 13), none, .load (some 5) (.t 12)⟩, ⟨(some 5), none, .alloc [(.v (.int .i64 0)), (.v (.int .i64 0)), (.v (.int .i64 0)), (.v (.int .i64 0)), (.v (.int .i64 0))]⟩, ⟨none, none, .store 5 (.t 5) (.t 13)⟩]) (.drop [6, 13]))
   (.seq (.seq (.reg [⟨(some 14), none, .mv (.t 0)⟩, ⟨(some 15), none, .nilck (.t 14)⟩, ⟨(some 16), none, .fad 8 (.t 15)⟩, ⟨(some 17), none, .fad 0 (.t 16)⟩, ⟨(some 18), none, .load none (.t 17)⟩, ⟨(some 19), none, .bin .add (.t 18) (.c (.v (.int .i64 1)))⟩, ⟨(some 20), none, .nilck (.t 14)⟩, ⟨(some 21), none, .fad 8 (.t 20)⟩, ⟨(some 22), none, .fad 0 (.t 21)⟩, ⟨none, none, .store 1 (.t 22) (.t 19)⟩]) (.drop [6, 22]))
    (.seq (.seq (.reg [⟨(some 23), none, .mv (.t 4)⟩, ⟨(some 24), none, .bin .add (.t 23) (.c (.v (.int .i64 1)))⟩, ⟨(some 4), none, .mv (.t 24)⟩]) (.drop [6, 24]))
     (.block 2 (.seq (.seq (.reg [⟨(some 29), none, .fad 0 (.t 5)⟩, ⟨(some 30), none, .load none (.t 29)⟩, ⟨(some 31), none, .bin .geq (.t 30) (.c (.v (.int .i64 25)))⟩, ⟨(some 32), none, .mv (.t 31)⟩, ⟨(some 33), (some (32, true)), .fad 0 (.t 5)⟩, ⟨(some 34), (some (32, true)), .load none (.t 33)⟩, ⟨(some 35), (some (32, true)), .bin .leq (.t 34) (.c (.v (.int .i64 27)))⟩, ⟨(some 36), none, .pick (.t 32) (.t 35) (.c (.v (.bool false)))⟩, ⟨(some 28), none, .mv (.t 36)⟩]) (.drop [29, 36]))
       (.cond (.t 28) c_vm_run_all_0
        c_vm_run_all_2))))))))
def b_vm_run_all : AC :=
 (.seq (.seq (.reg [⟨(some 4), none, .mv (.c (.v (.int .i64 0)))⟩]) (.drop []))
 (.block 0 (.loop [0, 1, 4] l_vm_run_all_0)))
def a_vm_run_all : AFn := ⟨2, b_vm_run_all, [], false, true⟩
theorem a_vm_run_all_ok : compF Try.prog Try.f23 [[], [0, 1, 4], [5, 8], [6, 13], [6, 22], [6, 24], [29, 36], [6, 39], [5, 42], [44, 51], [5, 54], [5, 27]] false true hv = some a_vm_run_all := by kernel_rfl

/-! (*fugleman/vm.Program).Run: 11 -/
def c_vm_Program_Run_0 : AC :=
 (.seq (.seq (.reg [⟨(some 13), none, .load (some 4) (.t 4)⟩, ⟨(some 14), none, .build [(.v (.int .i64 0)), (.v (.int .i64 0)), (.v (.int .i64 0)), (.v (.int .i64 0))] []⟩, ⟨none, none, .store 4 (.t 6) (.t 13)⟩, ⟨none, none, .store 4 (.t 7) (.t 14)⟩]) (.drop [8, 14]))
      .ret)
theorem g_vm_Program_Run_0 {C : CT} {lf : Nat} {ks : List It} {s : St} : type_of% (@Sym.go_as C lf ks s _ _ c_vm_Program_Run_0.eq_1) := Sym.go_as c_vm_Program_Run_0.eq_1
def b_vm_Program_Run : AC :=
 (.seq (.seq (.reg [⟨(some 4), none, .box (.t 1)⟩, ⟨(some 6), none, .alloc [(.v (.string ⟨#[]⟩)), (.v (.string ⟨#[]⟩)), (.v (.string ⟨#[]⟩)), (.v (.string ⟨#[]⟩))]⟩, ⟨(some 7), none, .alloc [(.v (.int .i64 0)), (.v (.int .i64 0)), (.v (.int .i64 0)), (.v (.int .i64 0))]⟩]) (.drop []))
 (.seq (.seq (.reg [⟨(some 9), none, .load (some 4) (.t 4)⟩, ⟨(some 10), none, .call (.c (.fn 14 [])) [(.t 9)]⟩, ⟨none, none, .store 4 (.t 4) (.t 10)⟩]) (.drop [8, 10]))
  (.seq (.seq (.seq (.reg [⟨(some 11), none, .mv (.t 0)⟩, ⟨(some 12), none, .eqp false (.t 11) (.c (.v (.pointer none)))⟩]) (.drop [8, 11]))
    (.cond (.t 12) c_vm_Program_Run_0
     .skip))
   (.seq (.seq (.reg [⟨(some 15), none, .mv (.t 2)⟩, ⟨(some 16), none, .max [(.t 15), (.c (.v (.int .i64 0)))]⟩, ⟨(some 17), none, .min [(.t 16), (.c (.v (.int .i64 10000)))]⟩, ⟨(some 18), none, .build [(.v (.slice none 0 0)), (.v (.slice none 0 0)), (.v (.slice none 0 0)), (.v (.slice none 0 0)), (.v (.slice none 0 0)), (.v (.int .i64 0)), (.v (.int .i64 0)), (.v (.slice none 0 0)), (.v (.int .i64 0)), (.v (.int .i64 0)), (.v (.int .i64 0)), (.v (.int .i64 0)), (.v (.int .i64 0))] [(12, 1, (.t 17))]⟩, ⟨(some 19), none, .box (.t 18)⟩, ⟨(some 8), none, .mv (.t 19)⟩]) (.drop [9, 19]))
    (.seq (.seq (.reg [⟨(some 20), none, .mv (.t 8)⟩, ⟨(some 21), none, .fad 0 (.t 4)⟩, ⟨(some 22), none, .load none (.t 21)⟩, ⟨(some 23), none, .cvsb (.t 22)⟩, ⟨(some 24), none, .fad 1 (.t 4)⟩, ⟨(some 25), none, .load none (.t 24)⟩, ⟨(some 26), none, .cvsb (.t 25)⟩, ⟨(some 27), none, .fad 2 (.t 4)⟩, ⟨(some 28), none, .load none (.t 27)⟩, ⟨(some 29), none, .cvsb (.t 28)⟩, ⟨(some 30), none, .fad 3 (.t 4)⟩, ⟨(some 31), none, .load none (.t 30)⟩, ⟨(some 32), none, .cvsb (.t 31)⟩, ⟨(some 33), none, .build [(.v (.slice none 0 0)), (.v (.slice none 0 0)), (.v (.slice none 0 0)), (.v (.slice none 0 0)), (.v (.slice none 0 0))] [(0, 1, (.c (.v (.slice none 0 0)))), (1, 1, (.t 23)), (2, 1, (.t 26)), (3, 1, (.t 29)), (4, 1, (.t 32))]⟩, ⟨(some 34), none, .nilck (.t 20)⟩, ⟨(some 35), none, .fad 0 (.t 34)⟩, ⟨none, none, .store 5 (.t 35) (.t 33)⟩]) (.drop [9, 35]))
     (.seq (.seq (.reg [⟨(some 36), none, .mv (.t 8)⟩, ⟨(some 37), none, .mv (.t 0)⟩, ⟨(some 38), none, .nilck (.t 37)⟩, ⟨(some 39), none, .fad 0 (.t 38)⟩, ⟨(some 40), none, .load none (.t 39)⟩, ⟨(some 41), none, .call (.c (.fn 23 [])) [(.t 36), (.t 40)]⟩]) (.drop [9, 41]))
      (.seq (.seq (.regm [(.o, ⟨(some 42), none, .mv (.t 8)⟩), (.o, ⟨(some 43), none, .mv (.t 8)⟩), (.o, ⟨(some 44), none, .mv (.t 8)⟩), (.o, ⟨(some 45), none, .nilck (.t 44)⟩), (.o, ⟨(some 46), none, .fad 5 (.t 45)⟩), (.o, ⟨(some 47), none, .fad 0 (.t 46)⟩), (.o, ⟨(some 48), none, .load none (.t 47)⟩), (.o, ⟨(some 49), none, .mv (.t 8)⟩), (.o, ⟨(some 50), none, .nilck (.t 49)⟩), (.o, ⟨(some 51), none, .fad 5 (.t 50)⟩), (.o, ⟨(some 52), none, .fad 1 (.t 51)⟩), (.o, ⟨(some 53), none, .load none (.t 52)⟩), (.o, ⟨(some 54), none, .nilck (.t 42)⟩), (.o, ⟨(some 55), none, .fad 8 (.t 54)⟩), (.o, ⟨(some 56), none, .fad 2 (.t 55)⟩), (.o, ⟨none, none, .store 1 (.t 56) (.t 48)⟩), (.o, ⟨(some 57), none, .nilck (.t 43)⟩), (.o, ⟨(some 58), none, .fad 8 (.t 57)⟩), (.o, ⟨(some 59), none, .fad 3 (.t 58)⟩), (.o, ⟨none, none, .store 1 (.t 59) (.t 53)⟩)]) (.drop [9, 59]))
       (.seq (.seq (.regx (.op .o ⟨(some 60), none, .fad 0 (.t 4)⟩
           (.op .o ⟨(some 61), none, .load none (.t 60)⟩
            (.op .o ⟨(some 62), none, .mv (.t 8)⟩
             (.op .o ⟨(some 63), none, .nilck (.t 62)⟩
              (.op .o ⟨(some 64), none, .fad 0 (.t 63)⟩
               (.op .o ⟨(some 65), none, .ixa 5 1 (.t 64) (.c (.v (.int .i64 2)))⟩
                (.op .o ⟨(some 66), none, .load none (.t 65)⟩
                 (.op .o ⟨(some 67), none, .cvbs (.t 66)⟩
                  (.op .o ⟨(some 68), none, .mv (.t 8)⟩
                   (.op .o ⟨(some 69), none, .nilck (.t 68)⟩
                    (.op .o ⟨(some 70), none, .fad 0 (.t 69)⟩
                     (.op .o ⟨(some 71), none, .ixa 5 1 (.t 70) (.c (.v (.int .i64 3)))⟩
                      (.op .o ⟨(some 72), none, .load none (.t 71)⟩
                       (.op .o ⟨(some 73), none, .cvbs (.t 72)⟩
                        (.op .o ⟨(some 74), none, .mv (.t 8)⟩
                         (.op .o ⟨(some 75), none, .nilck (.t 74)⟩
                          (.op .o ⟨(some 76), none, .fad 0 (.t 75)⟩
                           (.op .o ⟨(some 77), none, .ixa 5 1 (.t 76) (.c (.v (.int .i64 4)))⟩
                            (.op .o ⟨(some 78), none, .load none (.t 77)⟩
                             (.op .o ⟨(some 79), none, .cvbs (.t 78)⟩
                              (.op .o ⟨(some 80), none, .build [(.v (.string ⟨#[]⟩)), (.v (.string ⟨#[]⟩)), (.v (.string ⟨#[]⟩)), (.v (.string ⟨#[]⟩))] [(0, 1, (.t 61)), (1, 1, (.t 67)), (2, 1, (.t 73)), (3, 1, (.t 79))]⟩
                               (.op .o ⟨(some 81), none, .mv (.t 8)⟩
                                (.op .o ⟨(some 82), none, .nilck (.t 81)⟩
                                 (.op .o ⟨(some 83), none, .fad 8 (.t 82)⟩
                                  (.alt (.op .o ⟨(some 84), none, .load (some 4) (.t 83)⟩
                                    (.op .o ⟨none, none, .store 4 (.t 6) (.t 80)⟩
                                     (.op .o ⟨none, none, .store 4 (.t 7) (.t 84)⟩
                                      .nil)))
                                   (.op .o ⟨none, none, .store 4 (.t 6) (.t 80)⟩
                                    (.op .o ⟨(some 84), none, .load (some 4) (.t 83)⟩
                                     (.op .o ⟨none, none, .store 4 (.t 7) (.t 84)⟩
                                      .nil))))))))))))))))))))))))))))) (.drop [8, 84]))
        .ret))))))))
def a_vm_Program_Run : AFn := ⟨3, b_vm_Program_Run, [.cell 6 (some 4), .cell 7 (some 4)], false, false⟩
theorem a_vm_Program_Run_ok : compF Try.prog Try.f11 [[], [8, 10], [8, 11], [8, 14], [9, 19], [9, 35], [9, 41], [9, 59], [8, 84]] false false hv = some a_vm_Program_Run := by kernel_rfl

/-! fugleman/vm.Blank: 17 -/
def b_vm_Blank : AC :=
 (.seq (.seq (.reg [⟨(some 0), none, .alloc [(.v (.string ⟨#[]⟩)), (.v (.string ⟨#[]⟩)), (.v (.string ⟨#[]⟩)), (.v (.string ⟨#[]⟩))]⟩]) (.drop []))
 (.seq (.seq (.reg [⟨(some 1), none, .build [(.v (.string ⟨#[]⟩)), (.v (.string ⟨#[]⟩)), (.v (.string ⟨#[]⟩)), (.v (.string ⟨#[]⟩))] []⟩, ⟨(some 2), none, .call (.c (.fn 14 [])) [(.t 1)]⟩, ⟨none, none, .store 4 (.t 0) (.t 2)⟩]) (.drop [1, 2]))
  .ret))
def a_vm_Blank : AFn := ⟨0, b_vm_Blank, [.cell 0 (some 4)], false, false⟩
theorem a_vm_Blank_ok : compF Try.prog Try.f17 [[], [1, 2]] false false hv = some a_vm_Blank := by kernel_rfl

/-! fugleman/fuglemanlaw15.awake: 8 -/
def b_fuglemanlaw15_awake : AC :=
 (.seq (.seq (.reg [⟨(some 0), none, .mv (.c (.v (.bool false)))⟩]) (.drop [0, 0]))
 (.seq (.seq (.reg [⟨(some 7), none, .build [(.v (.int .i64 0)), (.v (.int .i64 0)), (.v (.int .i64 0)), (.v (.int .i64 0)), (.v (.int .i64 0))] [(0, 1, (.c (.v (.int .i64 1)))), (1, 1, (.c (.v (.int .i64 3)))), (4, 1, (.c (.v (.int .i64 2))))]⟩, ⟨(some 8), none, .build [(.v (.int .i64 0)), (.v (.int .i64 0)), (.v (.int .i64 0)), (.v (.int .i64 0)), (.v (.int .i64 0))] [(0, 1, (.c (.v (.int .i64 32)))), (3, 1, (.c (.v (.int .i64 16))))]⟩, ⟨(some 9), none, .build [(.v (.int .i64 0)), (.v (.int .i64 0)), (.v (.int .i64 0)), (.v (.int .i64 0)), (.v (.int .i64 0))] [(0, 1, (.c (.v (.int .i64 1)))), (1, 1, (.c (.v (.int .i64 3)))), (4, 1, (.c (.v (.int .i64 3))))]⟩, ⟨(some 10), none, .build [(.v (.int .i64 0)), (.v (.int .i64 0)), (.v (.int .i64 0)), (.v (.int .i64 0)), (.v (.int .i64 0))] [(0, 1, (.c (.v (.int .i64 33))))]⟩, ⟨(some 11), none, .build [(.v (.int .i64 0)), (.v (.int .i64 0)), (.v (.int .i64 0)), (.v (.int .i64 0)), (.v (.int .i64 0))] [(0, 1, (.c (.v (.int .i64 3)))), (1, 1, (.c (.v (.int .i64 3)))), (2, 1, (.c (.v (.int .i64 2))))]⟩, ⟨(some 12), none, .row 5 5 [(.v (.int .i64 0)), (.v (.int .i64 0)), (.v (.int .i64 0)), (.v (.int .i64 0)), (.v (.int .i64 0))] [(0, 5, (.t 7)), (5, 5, (.t 8)), (10, 5, (.t 9)), (15, 5, (.t 10)), (20, 5, (.t 11))]⟩, ⟨(some 13), none, .call (.c (.fn 10 [])) [(.t 12)]⟩, ⟨(some 6), none, .mv (.t 13)⟩, ⟨(some 14), none, .ext 0 (.t 6)⟩, ⟨(some 15), none, .ext 1 (.t 6)⟩, ⟨(some 16), none, .ext 2 (.t 6)⟩, ⟨(some 1), none, .mv (.t 14)⟩, ⟨(some 2), none, .mv (.t 15)⟩, ⟨(some 3), none, .mv (.t 16)⟩]) (.drop [3, 16]))
  (.seq (.seq (.reg [⟨(some 18), none, .mv (.t 1)⟩, ⟨(some 19), none, .call (.c (.fn 17 [])) []⟩, ⟨(some 20), none, .call (.c (.fn 11 [])) [(.t 18), (.t 19), (.c (.v (.int .i64 0)))]⟩, ⟨(some 17), none, .mv (.t 20)⟩, ⟨(some 21), none, .ext 0 (.t 17)⟩, ⟨(some 22), none, .ext 1 (.t 17)⟩, ⟨(some 4), none, .alloc [(.v (.string ⟨#[]⟩)), (.v (.string ⟨#[]⟩)), (.v (.string ⟨#[]⟩)), (.v (.string ⟨#[]⟩))]⟩, ⟨(some 5), none, .alloc [(.v (.int .i64 0)), (.v (.int .i64 0)), (.v (.int .i64 0)), (.v (.int .i64 0))]⟩, ⟨none, none, .store 4 (.t 4) (.t 21)⟩, ⟨none, none, .store 4 (.t 5) (.t 22)⟩]) (.drop [6, 22]))
   (.seq (.seq (.reg [⟨(some 23), none, .mv (.t 2)⟩, ⟨(some 24), none, .bin .eql (.t 23) (.c (.v (.int .i64 0)))⟩, ⟨(some 25), none, .mv (.t 24)⟩, ⟨(some 26), (some (25, true)), .fad 1 (.t 4)⟩, ⟨(some 27), (some (25, true)), .load none (.t 26)⟩, ⟨(some 28), (some (25, true)), .lens (.t 27)⟩, ⟨(some 29), (some (25, true)), .bin .eql (.t 28) (.c (.v (.int .i64 64)))⟩, ⟨(some 30), none, .pick (.t 25) (.t 29) (.c (.v (.bool false)))⟩, ⟨(some 31), none, .mv (.t 30)⟩, ⟨(some 32), (some (31, true)), .fad 1 (.t 4)⟩, ⟨(some 33), (some (31, true)), .load none (.t 32)⟩, ⟨(some 34), (some (31, true)), .slstr (.t 33) none (some (.c (.v (.int .i64 2))))⟩, ⟨(some 35), (some (31, true)), .bin .eql (.t 34) (.c (.v (.string ⟨#[0, 6]⟩)))⟩, ⟨(some 36), none, .pick (.t 31) (.t 35) (.c (.v (.bool false)))⟩, ⟨(some 37), none, .mv (.t 36)⟩, ⟨(some 38), (some (37, true)), .load (some 4) (.t 5)⟩, ⟨(some 39), (some (37, true)), .build [(.v (.int .i64 0)), (.v (.int .i64 0)), (.v (.int .i64 0)), (.v (.int .i64 0))] [(0, 1, (.c (.v (.int .i64 5)))), (2, 1, (.c (.v (.int .i64 3)))), (3, 1, (.c (.v (.int .i64 6))))]⟩, ⟨(some 40), (some (37, true)), .eqst false [(0, .i), (1, .i), (2, .i), (3, .i)] (.t 38) (.t 39)⟩, ⟨(some 41), none, .pick (.t 37) (.t 40) (.c (.v (.bool false)))⟩, ⟨(some 0), none, .mv (.t 41)⟩]) (.drop [1, 41]))
    .ret))))
def a_fuglemanlaw15_awake : AFn := ⟨0, b_fuglemanlaw15_awake, [.t 0], false, false⟩
theorem a_fuglemanlaw15_awake_ok : compF Try.prog Try.f8 [[0, 0], [3, 16], [6, 22], [1, 41]] false false hv = some a_fuglemanlaw15_awake := by kernel_rfl

/-! fugleman/fuglemanref11.Size: 27 -/
def b_fuglemanref11_Size : AC :=
 (.seq (.seq (.reg [⟨(some 2), none, .mv (.c (.v (.int .i64 0)))⟩]) (.drop [1, 2]))
 (.seq (.seq (.reg [⟨(some 4), none, .row 1 8 [(.v (.int .i64 0))] [(0, 1, (.c (.v (.int .i64 0)))), (1, 1, (.c (.v (.int .i64 1)))), (2, 1, (.c (.v (.int .i64 1)))), (3, 1, (.c (.v (.int .i64 2)))), (4, 1, (.c (.v (.int .i64 4)))), (5, 1, (.c (.v (.int .i64 2)))), (6, 1, (.c (.v (.int .i64 2)))), (7, 1, (.c (.v (.int .i64 4))))]⟩, ⟨(some 3), none, .mv (.t 4)⟩]) (.drop [4, 4]))
  (.seq (.seq (.seq (.reg [⟨(some 5), none, .mv (.t 0)⟩, ⟨(some 6), none, .bin .lss (.t 5) (.c (.v (.int .i64 0)))⟩, ⟨(some 7), none, .mv (.t 6)⟩, ⟨(some 8), (some (7, false)), .mv (.t 0)⟩, ⟨(some 9), (some (7, false)), .bin .gtr (.t 8) (.c (.v (.int .i64 7)))⟩, ⟨(some 10), none, .pick (.t 7) (.c (.v (.bool true))) (.t 9)⟩]) (.drop [4, 9]))
    (.cond (.t 10) (.seq (.seq (.reg [⟨(some 2), none, .mv (.c (.v (.int .i64 0)))⟩]) (.drop []))
      .ret)
     .skip))
   (.seq (.seq (.reg [⟨(some 11), none, .mv (.t 3)⟩, ⟨(some 12), none, .mv (.t 0)⟩, ⟨(some 13), none, .ixs 1 (.t 11) (.t 12)⟩, ⟨(some 14), none, .load none (.t 13)⟩, ⟨(some 2), none, .mv (.t 14)⟩]) (.drop [3, 14]))
    .ret))))
def a_fuglemanref11_Size : AFn := ⟨1, b_fuglemanref11_Size, [.t 2], false, false⟩
theorem a_fuglemanref11_Size_ok : compF Try.prog Try.f27 [[1, 2], [4, 4], [4, 9], [], [3, 14]] false false hv = some a_fuglemanref11_Size := by kernel_rfl

/-! fugleman/fuglemanref11.many: 63 -/
def l_fuglemanref11_many_1 : AC :=
 (.seq (.seq (.reg [⟨(some 15), none, .mv (.t 3)⟩, ⟨(some 2), none, .mv (.t 15)⟩]) (.drop [3, 15]))
 .ret)
def l_fuglemanref11_many_0 : AC :=
 (.seq (.seq (.seq (.reg [⟨(some 7), none, .mv (.t 4)⟩, ⟨(some 8), none, .mv (.t 0)⟩, ⟨(some 9), none, .call (.c (.fn 27 [])) [(.t 8)]⟩, ⟨(some 10), none, .bin .lss (.t 7) (.t 9)⟩]) (.drop [5, 9]))
  (.cond (.t 10) .skip
   (.exit 0)))
 (.seq (.block 1 (.seq (.reg [⟨(some 13), none, .mv (.t 3)⟩, ⟨(some 14), none, .bin .mul (.t 13) (.c (.v (.int .i64 256)))⟩, ⟨(some 3), none, .mv (.t 14)⟩]) (.drop [5, 14])))
  (.seq (.reg [⟨(some 11), none, .mv (.t 4)⟩, ⟨(some 12), none, .bin .add (.t 11) (.c (.v (.int .i64 1)))⟩, ⟨(some 4), none, .mv (.t 12)⟩]) (.drop [5, 12]))))
def b_fuglemanref11_many : AC :=
 (.seq (.seq (.reg [⟨(some 2), none, .mv (.c (.v (.int .i64 0)))⟩]) (.drop [1, 2]))
 (.seq (.seq (.seq (.reg [⟨(some 5), none, .mv (.t 0)⟩, ⟨(some 6), none, .bin .eql (.t 5) (.c (.v (.int .i64 1)))⟩]) (.drop [1, 5]))
   (.cond (.t 6) (.seq (.seq (.reg [⟨(some 2), none, .mv (.c (.v (.int .i64 2)))⟩]) (.drop []))
     .ret)
    .skip))
  (.seq (.seq (.reg [⟨(some 3), none, .mv (.c (.v (.int .i64 1)))⟩]) (.drop []))
   (.seq (.seq (.seq (.reg [⟨(some 4), none, .mv (.c (.v (.int .i64 0)))⟩]) (.drop []))
     (.block 0 (.loop [0, 3, 4] l_fuglemanref11_many_0)))
    l_fuglemanref11_many_1))))
def a_fuglemanref11_many : AFn := ⟨1, b_fuglemanref11_many, [.t 2], false, false⟩
theorem a_fuglemanref11_many_ok : compF Try.prog Try.f63 [[1, 2], [1, 5], [], [], [], [0, 3, 4], [5, 9], [5, 14], [5, 12], [3, 15]] false false hv = some a_fuglemanref11_many := by kernel_rfl

/-! fugleman/fuglemanref11.least: 66 -/
def c_fuglemanref11_least_0 : AC :=
 (.seq (.seq (.reg [⟨(some 9), none, .mv (.t 0)⟩, ⟨(some 10), none, .call (.c (.fn 63 [])) [(.t 9)]⟩, ⟨(some 11), none, .un .neg (.t 10)⟩, ⟨(some 12), none, .bin .quo (.t 11) (.c (.v (.int .i64 2)))⟩, ⟨(some 2), none, .mv (.t 12)⟩]) (.drop [3, 12]))
     .ret)
def b_fuglemanref11_least : AC :=
 (.seq (.seq (.reg [⟨(some 2), none, .mv (.c (.v (.int .i64 0)))⟩]) (.drop [1, 2]))
 (.seq (.seq (.seq (.reg [⟨(some 3), none, .mv (.t 0)⟩, ⟨(some 4), none, .bin .geq (.t 3) (.c (.v (.int .i64 2)))⟩, ⟨(some 5), none, .mv (.t 4)⟩, ⟨(some 6), (some (5, true)), .mv (.t 0)⟩, ⟨(some 7), (some (5, true)), .bin .leq (.t 6) (.c (.v (.int .i64 4)))⟩, ⟨(some 8), none, .pick (.t 5) (.t 7) (.c (.v (.bool false)))⟩]) (.drop [1, 7]))
   (.cond (.t 8) c_fuglemanref11_least_0
    .skip))
  (.seq (.seq (.reg [⟨(some 2), none, .mv (.c (.v (.int .i64 0)))⟩]) (.drop []))
   .ret)))
def a_fuglemanref11_least : AFn := ⟨1, b_fuglemanref11_least, [.t 2], false, false⟩
theorem a_fuglemanref11_least_ok : compF Try.prog Try.f66 [[1, 2], [1, 7], [3, 12], []] false false hv = some a_fuglemanref11_least := by kernel_rfl

/-! fugleman/fuglemanref11.Is: 42 -/
def b_fuglemanref11_Is : AC :=
 (.seq (.seq (.reg [⟨(some 4), none, .mv (.c (.v (.bool false)))⟩]) (.drop [2, 4]))
 (.seq (.seq (.reg [⟨(some 5), none, .mv (.t 0)⟩, ⟨(some 6), none, .call (.c (.fn 27 [])) [(.t 5)]⟩, ⟨(some 7), none, .bin .gtr (.t 6) (.c (.v (.int .i64 0)))⟩, ⟨(some 8), none, .mv (.t 7)⟩, ⟨(some 9), (some (8, true)), .mv (.t 1)⟩, ⟨(some 10), (some (8, true)), .mv (.t 0)⟩, ⟨(some 11), (some (8, true)), .call (.c (.fn 66 [])) [(.t 10)]⟩, ⟨(some 12), (some (8, true)), .bin .geq (.t 9) (.t 11)⟩, ⟨(some 13), none, .pick (.t 8) (.t 12) (.c (.v (.bool false)))⟩, ⟨(some 14), none, .mv (.t 13)⟩, ⟨(some 15), (some (14, true)), .mv (.t 1)⟩, ⟨(some 16), (some (14, true)), .mv (.t 0)⟩, ⟨(some 17), (some (14, true)), .call (.c (.fn 66 [])) [(.t 16)]⟩, ⟨(some 18), (some (14, true)), .mv (.t 0)⟩, ⟨(some 19), (some (14, true)), .call (.c (.fn 63 [])) [(.t 18)]⟩, ⟨(some 20), (some (14, true)), .bin .add (.t 17) (.t 19)⟩, ⟨(some 21), (some (14, true)), .bin .sub (.t 20) (.c (.v (.int .i64 1)))⟩, ⟨(some 22), (some (14, true)), .bin .leq (.t 15) (.t 21)⟩, ⟨(some 23), none, .pick (.t 14) (.t 22) (.c (.v (.bool false)))⟩, ⟨(some 4), none, .mv (.t 23)⟩]) (.drop [5, 23]))
  .ret))
def a_fuglemanref11_Is : AFn := ⟨2, b_fuglemanref11_Is, [.t 4], false, false⟩
theorem a_fuglemanref11_Is_ok : compF Try.prog Try.f42 [[2, 4], [5, 23]] false false hv = some a_fuglemanref11_Is := by kernel_rfl

/-! fugleman/fuglemanref11.May: 46 -/
def b_fuglemanref11_May : AC :=
 (.seq (.seq (.reg [⟨(some 4), none, .mv (.c (.v (.bool false)))⟩]) (.drop [2, 4]))
 (.seq (.seq (.reg [⟨(some 8), none, .mv (.t 0)⟩, ⟨(some 9), none, .bin .geq (.t 8) (.c (.v (.int .i64 14)))⟩, ⟨(some 10), none, .mv (.t 9)⟩, ⟨(some 11), (some (10, true)), .mv (.t 0)⟩, ⟨(some 12), (some (10, true)), .bin .leq (.t 11) (.c (.v (.int .i64 18)))⟩, ⟨(some 13), none, .pick (.t 10) (.t 12) (.c (.v (.bool false)))⟩, ⟨(some 5), none, .mv (.t 13)⟩]) (.drop [6, 13]))
  (.seq (.seq (.reg [⟨(some 14), none, .mv (.t 0)⟩, ⟨(some 15), none, .bin .geq (.t 14) (.c (.v (.int .i64 7)))⟩, ⟨(some 16), none, .mv (.t 15)⟩, ⟨(some 17), (some (16, true)), .mv (.t 0)⟩, ⟨(some 18), (some (16, true)), .bin .leq (.t 17) (.c (.v (.int .i64 13)))⟩, ⟨(some 19), none, .pick (.t 16) (.t 18) (.c (.v (.bool false)))⟩, ⟨(some 6), none, .mv (.t 19)⟩]) (.drop [7, 19]))
   (.seq (.seq (.reg [⟨(some 20), none, .mv (.t 0)⟩, ⟨(some 21), none, .bin .geq (.t 20) (.c (.v (.int .i64 19)))⟩, ⟨(some 22), none, .mv (.t 21)⟩, ⟨(some 23), (some (22, true)), .mv (.t 0)⟩, ⟨(some 24), (some (22, true)), .bin .leq (.t 23) (.c (.v (.int .i64 24)))⟩, ⟨(some 25), none, .pick (.t 22) (.t 24) (.c (.v (.bool false)))⟩, ⟨(some 7), none, .mv (.t 25)⟩]) (.drop [8, 25]))
    (.seq (.seq (.seq (.reg [⟨(some 26), none, .mv (.t 1)⟩, ⟨(some 27), none, .call (.c (.fn 27 [])) [(.t 26)]⟩, ⟨(some 28), none, .bin .eql (.t 27) (.c (.v (.int .i64 0)))⟩]) (.drop [8, 27]))
      (.cond (.t 28) (.seq (.seq (.reg [⟨(some 4), none, .mv (.c (.v (.bool false)))⟩]) (.drop []))
        .ret)
       .skip))
     (.seq (.seq (.reg [⟨(some 29), none, .mv (.t 5)⟩, ⟨(some 30), none, .mv (.t 29)⟩, ⟨(some 31), (some (30, true)), .mv (.t 1)⟩, ⟨(some 32), (some (30, true)), .bin .geq (.t 31) (.c (.v (.int .i64 2)))⟩, ⟨(some 33), none, .pick (.t 30) (.t 32) (.c (.v (.bool false)))⟩, ⟨(some 34), none, .mv (.t 33)⟩, ⟨(some 35), (some (34, true)), .mv (.t 1)⟩, ⟨(some 36), (some (34, true)), .bin .leq (.t 35) (.c (.v (.int .i64 5)))⟩, ⟨(some 37), none, .pick (.t 34) (.t 36) (.c (.v (.bool false)))⟩, ⟨(some 38), none, .mv (.t 37)⟩, ⟨(some 39), (some (38, false)), .mv (.t 6)⟩, ⟨(some 40), (some (38, false)), .mv (.t 39)⟩, ⟨(some 41), (some (40, true)), .mv (.t 1)⟩, ⟨(some 42), (some (40, true)), .bin .eql (.t 41) (.c (.v (.int .i64 1)))⟩, ⟨(some 43), (some (40, true)), .mv (.t 42)⟩, ⟨(some 44), (some (43, false)), .mv (.t 1)⟩, ⟨(some 45), (some (43, false)), .bin .geq (.t 44) (.c (.v (.int .i64 6)))⟩, ⟨(some 46), (some (40, true)), .pick (.t 43) (.c (.v (.bool true))) (.t 45)⟩, ⟨(some 47), (some (38, false)), .pick (.t 40) (.t 46) (.c (.v (.bool false)))⟩, ⟨(some 48), none, .pick (.t 38) (.c (.v (.bool true))) (.t 47)⟩, ⟨(some 49), none, .mv (.t 48)⟩, ⟨(some 50), (some (49, false)), .mv (.t 7)⟩, ⟨(some 51), none, .pick (.t 49) (.c (.v (.bool true))) (.t 50)⟩, ⟨(some 4), none, .mv (.t 51)⟩]) (.drop [5, 51]))
      .ret))))))
def a_fuglemanref11_May : AFn := ⟨2, b_fuglemanref11_May, [.t 4], false, false⟩
theorem a_fuglemanref11_May_ok : compF Try.prog Try.f46 [[2, 4], [6, 13], [7, 19], [8, 25], [8, 27], [], [5, 51]] false false hv = some a_fuglemanref11_May := by kernel_rfl

/-! fugleman/fuglemanref12.reads: 41 -/
def b_fuglemanref12_reads : AC :=
 (.seq (.seq (.reg [⟨(some 2), none, .mv (.c (.v (.bool false)))⟩]) (.drop [1, 2]))
 (.seq (.seq (.reg [⟨(some 3), none, .mv (.t 0)⟩, ⟨(some 4), none, .bin .eql (.t 3) (.c (.v (.int .i64 1)))⟩, ⟨(some 5), none, .mv (.t 4)⟩, ⟨(some 6), (some (5, false)), .mv (.t 0)⟩, ⟨(some 7), (some (5, false)), .bin .eql (.t 6) (.c (.v (.int .i64 2)))⟩, ⟨(some 8), none, .pick (.t 5) (.c (.v (.bool true))) (.t 7)⟩, ⟨(some 9), none, .mv (.t 8)⟩, ⟨(some 10), (some (9, false)), .mv (.t 0)⟩, ⟨(some 11), (some (9, false)), .bin .geq (.t 10) (.c (.v (.int .i64 7)))⟩, ⟨(some 12), (some (9, false)), .mv (.t 11)⟩, ⟨(some 13), (some (12, true)), .mv (.t 0)⟩, ⟨(some 14), (some (12, true)), .bin .leq (.t 13) (.c (.v (.int .i64 12)))⟩, ⟨(some 15), (some (9, false)), .pick (.t 12) (.t 14) (.c (.v (.bool false)))⟩, ⟨(some 16), none, .pick (.t 9) (.c (.v (.bool true))) (.t 15)⟩, ⟨(some 17), none, .mv (.t 16)⟩, ⟨(some 18), (some (17, false)), .mv (.t 0)⟩, ⟨(some 19), (some (17, false)), .bin .geq (.t 18) (.c (.v (.int .i64 14)))⟩, ⟨(some 20), (some (17, false)), .mv (.t 19)⟩, ⟨(some 21), (some (20, true)), .mv (.t 0)⟩, ⟨(some 22), (some (20, true)), .bin .leq (.t 21) (.c (.v (.int .i64 24)))⟩, ⟨(some 23), (some (17, false)), .pick (.t 20) (.t 22) (.c (.v (.bool false)))⟩, ⟨(some 24), none, .pick (.t 17) (.c (.v (.bool true))) (.t 23)⟩, ⟨(some 2), none, .mv (.t 24)⟩]) (.drop [3, 24]))
  .ret))
def a_fuglemanref12_reads : AFn := ⟨1, b_fuglemanref12_reads, [.t 2], false, false⟩
theorem a_fuglemanref12_reads_ok : compF Try.prog Try.f41 [[1, 2], [3, 24]] false false hv = some a_fuglemanref12_reads := by kernel_rfl

/-! fugleman/fuglemanref12.writes: 43 -/
def b_fuglemanref12_writes : AC :=
 (.seq (.seq (.reg [⟨(some 2), none, .mv (.c (.v (.bool false)))⟩]) (.drop [1, 2]))
 (.seq (.seq (.reg [⟨(some 3), none, .mv (.t 0)⟩, ⟨(some 4), none, .bin .geq (.t 3) (.c (.v (.int .i64 3)))⟩, ⟨(some 5), none, .mv (.t 4)⟩, ⟨(some 6), (some (5, true)), .mv (.t 0)⟩, ⟨(some 7), (some (5, true)), .bin .leq (.t 6) (.c (.v (.int .i64 6)))⟩, ⟨(some 8), none, .pick (.t 5) (.t 7) (.c (.v (.bool false)))⟩, ⟨(some 2), none, .mv (.t 8)⟩]) (.drop [3, 8]))
  .ret))
def a_fuglemanref12_writes : AFn := ⟨1, b_fuglemanref12_writes, [.t 2], false, false⟩
theorem a_fuglemanref12_writes_ok : compF Try.prog Try.f43 [[1, 2], [3, 8]] false false hv = some a_fuglemanref12_writes := by kernel_rfl

/-! fugleman/fuglemanref11.There: 44 -/
def b_fuglemanref11_There : AC :=
 (.seq (.seq (.reg [⟨(some 6), none, .mv (.c (.v (.bool false)))⟩]) (.drop [3, 6]))
 (.seq (.seq (.reg [⟨(some 8), none, .mv (.t 2)⟩, ⟨(some 9), none, .call (.c (.fn 27 [])) [(.t 8)]⟩, ⟨(some 7), none, .mv (.t 9)⟩]) (.drop [8, 9]))
  (.seq (.seq (.reg [⟨(some 10), none, .mv (.t 7)⟩, ⟨(some 11), none, .bin .gtr (.t 10) (.c (.v (.int .i64 0)))⟩, ⟨(some 12), none, .mv (.t 11)⟩, ⟨(some 13), (some (12, true)), .mv (.t 1)⟩, ⟨(some 14), (some (12, true)), .bin .geq (.t 13) (.c (.v (.int .i64 0)))⟩, ⟨(some 15), none, .pick (.t 12) (.t 14) (.c (.v (.bool false)))⟩, ⟨(some 16), none, .mv (.t 15)⟩, ⟨(some 17), (some (16, true)), .mv (.t 1)⟩, ⟨(some 18), (some (16, true)), .mv (.t 0)⟩, ⟨(some 19), (some (16, true)), .bin .leq (.t 17) (.t 18)⟩, ⟨(some 20), none, .pick (.t 16) (.t 19) (.c (.v (.bool false)))⟩, ⟨(some 21), none, .mv (.t 20)⟩, ⟨(some 22), (some (21, true)), .mv (.t 7)⟩, ⟨(some 23), (some (21, true)), .mv (.t 0)⟩, ⟨(some 24), (some (21, true)), .mv (.t 1)⟩, ⟨(some 25), (some (21, true)), .bin .sub (.t 23) (.t 24)⟩, ⟨(some 26), (some (21, true)), .bin .leq (.t 22) (.t 25)⟩, ⟨(some 27), none, .pick (.t 21) (.t 26) (.c (.v (.bool false)))⟩, ⟨(some 6), none, .mv (.t 27)⟩]) (.drop [7, 27]))
   .ret)))
def a_fuglemanref11_There : AFn := ⟨3, b_fuglemanref11_There, [.t 6], false, false⟩
theorem a_fuglemanref11_There_ok : compF Try.prog Try.f44 [[3, 6], [8, 9], [7, 27]] false false hv = some a_fuglemanref11_There := by kernel_rfl

/-! fugleman/fuglemanref12.Right: 28 -/
def c_fuglemanref12_Right_0 : AC :=
 (.seq (.seq (.reg [⟨(some 17), none, .fad 1 (.t 1)⟩, ⟨(some 18), none, .load none (.t 17)⟩, ⟨(some 19), none, .fad 1 (.t 3)⟩, ⟨none, none, .store 1 (.t 19) (.t 18)⟩]) (.drop [4, 19]))
        (.seq (.seq (.reg [⟨(some 20), none, .fad 4 (.t 1)⟩, ⟨(some 21), none, .load none (.t 20)⟩, ⟨(some 22), none, .fad 4 (.t 3)⟩, ⟨none, none, .store 1 (.t 22) (.t 21)⟩]) (.drop [4, 22]))
         (.seq (.reg [⟨(some 23), none, .fad 1 (.t 1)⟩, ⟨(some 24), none, .load none (.t 23)⟩, ⟨(some 25), none, .fad 4 (.t 1)⟩, ⟨(some 26), none, .load none (.t 25)⟩, ⟨(some 27), none, .call (.c (.fn 42 [])) [(.t 24), (.t 26)]⟩, ⟨(some 4), none, .mv (.t 27)⟩]) (.drop [5, 27]))))
theorem g_fuglemanref12_Right_0 {C : CT} {lf : Nat} {ks : List It} {s : St} : type_of% (@Sym.go_as C lf ks s _ _ c_fuglemanref12_Right_0.eq_1) := Sym.go_as c_fuglemanref12_Right_0.eq_1
def c_fuglemanref12_Right_1 : AC :=
 (.seq (.seq (.reg [⟨(some 37), none, .fad 1 (.t 1)⟩, ⟨(some 38), none, .load none (.t 37)⟩, ⟨(some 39), none, .fad 1 (.t 3)⟩, ⟨none, none, .store 1 (.t 39) (.t 38)⟩]) (.drop [4, 39]))
          (.seq (.seq (.reg [⟨(some 40), none, .fad 2 (.t 1)⟩, ⟨(some 41), none, .load none (.t 40)⟩, ⟨(some 42), none, .fad 2 (.t 3)⟩, ⟨none, none, .store 1 (.t 42) (.t 41)⟩]) (.drop [4, 42]))
           (.seq (.seq (.reg [⟨(some 43), none, .fad 3 (.t 1)⟩, ⟨(some 44), none, .load none (.t 43)⟩, ⟨(some 45), none, .fad 3 (.t 3)⟩, ⟨none, none, .store 1 (.t 45) (.t 44)⟩]) (.drop [4, 45]))
            (.seq (.reg [⟨(some 46), none, .fad 3 (.t 1)⟩, ⟨(some 47), none, .load none (.t 46)⟩, ⟨(some 48), none, .fad 1 (.t 1)⟩, ⟨(some 49), none, .load none (.t 48)⟩, ⟨(some 50), none, .call (.c (.fn 44 [])) [(.c (.v (.int .i64 64))), (.t 47), (.t 49)]⟩, ⟨(some 51), none, .mv (.t 50)⟩, ⟨(some 52), (some (51, true)), .fad 2 (.t 1)⟩, ⟨(some 53), (some (51, true)), .load none (.t 52)⟩, ⟨(some 54), (some (51, true)), .bin .geq (.t 53) (.c (.v (.int .i64 1)))⟩, ⟨(some 55), none, .pick (.t 51) (.t 54) (.c (.v (.bool false)))⟩, ⟨(some 56), none, .mv (.t 55)⟩, ⟨(some 57), (some (56, true)), .fad 2 (.t 1)⟩, ⟨(some 58), (some (56, true)), .load none (.t 57)⟩, ⟨(some 59), (some (56, true)), .bin .leq (.t 58) (.c (.v (.int .i64 4)))⟩, ⟨(some 60), none, .pick (.t 56) (.t 59) (.c (.v (.bool false)))⟩, ⟨(some 61), none, .mv (.t 60)⟩, ⟨(some 62), (some (61, true)), .fad 0 (.t 1)⟩, ⟨(some 63), (some (61, true)), .load none (.t 62)⟩, ⟨(some 64), (some (61, true)), .call (.c (.fn 43 [])) [(.t 63)]⟩, ⟨(some 65), (some (61, true)), .mv (.t 64)⟩, ⟨(some 66), (some (65, true)), .fad 2 (.t 1)⟩, ⟨(some 67), (some (65, true)), .load none (.t 66)⟩, ⟨(some 68), (some (65, true)), .bin .eql (.t 67) (.c (.v (.int .i64 1)))⟩, ⟨(some 69), (some (61, true)), .pick (.t 65) (.t 68) (.c (.v (.bool false)))⟩, ⟨(some 70), (some (61, true)), .un .not (.t 69)⟩, ⟨(some 71), none, .pick (.t 61) (.t 70) (.c (.v (.bool false)))⟩, ⟨(some 4), none, .mv (.t 71)⟩]) (.drop [5, 71])))))
theorem g_fuglemanref12_Right_1 {C : CT} {lf : Nat} {ks : List It} {s : St} : type_of% (@Sym.go_as C lf ks s _ _ c_fuglemanref12_Right_1.eq_1) := Sym.go_as c_fuglemanref12_Right_1.eq_1
def c_fuglemanref12_Right_2 : AC :=
 (.seq (.seq (.reg [⟨(some 81), none, .fad 3 (.t 1)⟩, ⟨(some 82), none, .load none (.t 81)⟩, ⟨(some 83), none, .fad 3 (.t 3)⟩, ⟨none, none, .store 1 (.t 83) (.t 82)⟩]) (.drop [4, 83]))
            (.seq (.reg [⟨(some 84), none, .fad 3 (.t 1)⟩, ⟨(some 85), none, .load none (.t 84)⟩, ⟨(some 86), none, .bin .geq (.t 85) (.c (.v (.int .i64 0)))⟩, ⟨(some 87), none, .mv (.t 86)⟩, ⟨(some 88), (some (87, true)), .fad 3 (.t 1)⟩, ⟨(some 89), (some (87, true)), .load none (.t 88)⟩, ⟨(some 90), (some (87, true)), .bin .leq (.t 89) (.c (.v (.int .i64 200)))⟩, ⟨(some 91), none, .pick (.t 87) (.t 90) (.c (.v (.bool false)))⟩, ⟨(some 4), none, .mv (.t 91)⟩]) (.drop [5, 91])))
theorem g_fuglemanref12_Right_2 {C : CT} {lf : Nat} {ks : List It} {s : St} : type_of% (@Sym.go_as C lf ks s _ _ c_fuglemanref12_Right_2.eq_1) := Sym.go_as c_fuglemanref12_Right_2.eq_1
def c_fuglemanref12_Right_3 : AC :=
 (.seq (.seq (.reg [⟨(some 115), none, .fad 1 (.t 1)⟩, ⟨(some 116), none, .load none (.t 115)⟩, ⟨(some 117), none, .fad 1 (.t 3)⟩, ⟨none, none, .store 1 (.t 117) (.t 116)⟩]) (.drop [4, 117]))
                (.seq (.reg [⟨(some 118), none, .fad 1 (.t 1)⟩, ⟨(some 119), none, .load none (.t 118)⟩, ⟨(some 120), none, .call (.c (.fn 27 [])) [(.t 119)]⟩, ⟨(some 121), none, .bin .gtr (.t 120) (.c (.v (.int .i64 0)))⟩, ⟨(some 4), none, .mv (.t 121)⟩]) (.drop [5, 121])))
theorem g_fuglemanref12_Right_3 {C : CT} {lf : Nat} {ks : List It} {s : St} : type_of% (@Sym.go_as C lf ks s _ _ c_fuglemanref12_Right_3.eq_1) := Sym.go_as c_fuglemanref12_Right_3.eq_1
def c_fuglemanref12_Right_4 : AC :=
 (.seq (.seq (.reg [⟨(some 126), none, .fad 3 (.t 1)⟩, ⟨(some 127), none, .load none (.t 126)⟩, ⟨(some 128), none, .fad 3 (.t 3)⟩, ⟨none, none, .store 1 (.t 128) (.t 127)⟩]) (.drop [4, 128]))
                  (.seq (.reg [⟨(some 129), none, .fad 3 (.t 1)⟩, ⟨(some 130), none, .load none (.t 129)⟩, ⟨(some 131), none, .call (.c (.fn 41 [])) [(.t 130)]⟩, ⟨(some 132), none, .mv (.t 131)⟩, ⟨(some 133), (some (132, true)), .fad 3 (.t 1)⟩, ⟨(some 134), (some (132, true)), .load none (.t 133)⟩, ⟨(some 135), (some (132, true)), .bin .gtr (.t 134) (.c (.v (.int .i64 2)))⟩, ⟨(some 136), none, .pick (.t 132) (.t 135) (.c (.v (.bool false)))⟩, ⟨(some 4), none, .mv (.t 136)⟩]) (.drop [5, 136])))
theorem g_fuglemanref12_Right_4 {C : CT} {lf : Nat} {ks : List It} {s : St} : type_of% (@Sym.go_as C lf ks s _ _ c_fuglemanref12_Right_4.eq_1) := Sym.go_as c_fuglemanref12_Right_4.eq_1
def c_fuglemanref12_Right_5 : AC :=
 (.seq (.seq (.reg [⟨(some 146), none, .fad 2 (.t 1)⟩, ⟨(some 147), none, .load none (.t 146)⟩, ⟨(some 148), none, .fad 2 (.t 3)⟩, ⟨none, none, .store 1 (.t 148) (.t 147)⟩]) (.drop [4, 148]))
                    (.seq (.seq (.reg [⟨(some 149), none, .fad 3 (.t 1)⟩, ⟨(some 150), none, .load none (.t 149)⟩, ⟨(some 151), none, .fad 3 (.t 3)⟩, ⟨none, none, .store 1 (.t 151) (.t 150)⟩]) (.drop [4, 151]))
                     (.seq (.seq (.reg [⟨(some 152), none, .fad 4 (.t 1)⟩, ⟨(some 153), none, .load none (.t 152)⟩, ⟨(some 154), none, .fad 4 (.t 3)⟩, ⟨none, none, .store 1 (.t 154) (.t 153)⟩]) (.drop [4, 154]))
                      (.seq (.reg [⟨(some 155), none, .fad 2 (.t 1)⟩, ⟨(some 156), none, .load none (.t 155)⟩, ⟨(some 157), none, .bin .eql (.t 156) (.c (.v (.int .i64 3)))⟩, ⟨(some 158), none, .mv (.t 157)⟩, ⟨(some 159), (some (158, false)), .fad 2 (.t 1)⟩, ⟨(some 160), (some (158, false)), .load none (.t 159)⟩, ⟨(some 161), (some (158, false)), .bin .eql (.t 160) (.c (.v (.int .i64 4)))⟩, ⟨(some 162), none, .pick (.t 158) (.c (.v (.bool true))) (.t 161)⟩, ⟨(some 163), none, .mv (.t 162)⟩, ⟨(some 164), (some (163, true)), .fad 3 (.t 1)⟩, ⟨(some 165), (some (163, true)), .load none (.t 164)⟩, ⟨(some 166), (some (163, true)), .bin .geq (.t 165) (.c (.v (.int .i64 0)))⟩, ⟨(some 167), none, .pick (.t 163) (.t 166) (.c (.v (.bool false)))⟩, ⟨(some 168), none, .mv (.t 167)⟩, ⟨(some 169), (some (168, true)), .fad 3 (.t 1)⟩, ⟨(some 170), (some (168, true)), .load none (.t 169)⟩, ⟨(some 171), (some (168, true)), .bin .leq (.t 170) (.c (.v (.int .i64 59)))⟩, ⟨(some 172), none, .pick (.t 168) (.t 171) (.c (.v (.bool false)))⟩, ⟨(some 173), none, .mv (.t 172)⟩, ⟨(some 174), (some (173, true)), .fad 4 (.t 1)⟩, ⟨(some 175), (some (173, true)), .load none (.t 174)⟩, ⟨(some 176), (some (173, true)), .bin .geq (.t 175) (.c (.v (.int .i64 1)))⟩, ⟨(some 177), none, .pick (.t 173) (.t 176) (.c (.v (.bool false)))⟩, ⟨(some 178), none, .mv (.t 177)⟩, ⟨(some 179), (some (178, true)), .fad 4 (.t 1)⟩, ⟨(some 180), (some (178, true)), .load none (.t 179)⟩, ⟨(some 181), (some (178, true)), .bin .leq (.t 180) (.c (.v (.int .i64 9999)))⟩, ⟨(some 182), none, .pick (.t 178) (.t 181) (.c (.v (.bool false)))⟩, ⟨(some 4), none, .mv (.t 182)⟩]) (.drop [5, 182])))))
theorem g_fuglemanref12_Right_5 {C : CT} {lf : Nat} {ks : List It} {s : St} : type_of% (@Sym.go_as C lf ks s _ _ c_fuglemanref12_Right_5.eq_1) := Sym.go_as c_fuglemanref12_Right_5.eq_1
def c_fuglemanref12_Right_6 : AC :=
 (.seq (.seq (.reg [⟨(some 187), none, .fad 2 (.t 1)⟩, ⟨(some 188), none, .load none (.t 187)⟩, ⟨(some 189), none, .fad 2 (.t 3)⟩, ⟨none, none, .store 1 (.t 189) (.t 188)⟩]) (.drop [4, 189]))
                      (.seq (.seq (.reg [⟨(some 190), none, .fad 3 (.t 1)⟩, ⟨(some 191), none, .load none (.t 190)⟩, ⟨(some 192), none, .fad 3 (.t 3)⟩, ⟨none, none, .store 1 (.t 192) (.t 191)⟩]) (.drop [4, 192]))
                       (.seq (.reg [⟨(some 193), none, .fad 2 (.t 1)⟩, ⟨(some 194), none, .load none (.t 193)⟩, ⟨(some 195), none, .bin .eql (.t 194) (.c (.v (.int .i64 3)))⟩, ⟨(some 196), none, .mv (.t 195)⟩, ⟨(some 197), (some (196, false)), .fad 2 (.t 1)⟩, ⟨(some 198), (some (196, false)), .load none (.t 197)⟩, ⟨(some 199), (some (196, false)), .bin .eql (.t 198) (.c (.v (.int .i64 4)))⟩, ⟨(some 200), none, .pick (.t 196) (.c (.v (.bool true))) (.t 199)⟩, ⟨(some 201), none, .mv (.t 200)⟩, ⟨(some 202), (some (201, true)), .fad 3 (.t 1)⟩, ⟨(some 203), (some (201, true)), .load none (.t 202)⟩, ⟨(some 204), (some (201, true)), .bin .geq (.t 203) (.c (.v (.int .i64 0)))⟩, ⟨(some 205), none, .pick (.t 201) (.t 204) (.c (.v (.bool false)))⟩, ⟨(some 206), none, .mv (.t 205)⟩, ⟨(some 207), (some (206, true)), .fad 3 (.t 1)⟩, ⟨(some 208), (some (206, true)), .load none (.t 207)⟩, ⟨(some 209), (some (206, true)), .bin .leq (.t 208) (.c (.v (.int .i64 63)))⟩, ⟨(some 210), none, .pick (.t 206) (.t 209) (.c (.v (.bool false)))⟩, ⟨(some 4), none, .mv (.t 210)⟩]) (.drop [5, 210]))))
theorem g_fuglemanref12_Right_6 {C : CT} {lf : Nat} {ks : List It} {s : St} : type_of% (@Sym.go_as C lf ks s _ _ c_fuglemanref12_Right_6.eq_1) := Sym.go_as c_fuglemanref12_Right_6.eq_1
def c_fuglemanref12_Right_7 : AC :=
 (.seq (.seq (.reg [⟨(some 184), none, .fad 0 (.t 1)⟩, ⟨(some 185), none, .load none (.t 184)⟩, ⟨(some 186), none, .bin .eql (.t 185) (.c (.v (.int .i64 36)))⟩, ⟨(some 183), none, .mv (.t 186)⟩]) (.drop [184, 186]))
                    (.cond (.t 183) c_fuglemanref12_Right_6
                     .skip))
theorem g_fuglemanref12_Right_7 {C : CT} {lf : Nat} {ks : List It} {s : St} : type_of% (@Sym.go_as C lf ks s _ _ c_fuglemanref12_Right_7.eq_1) := Sym.go_as c_fuglemanref12_Right_7.eq_1
def c_fuglemanref12_Right_8 : AC :=
 (.seq (.seq (.reg [⟨(some 138), none, .fad 0 (.t 1)⟩, ⟨(some 139), none, .load none (.t 138)⟩, ⟨(some 140), none, .bin .eql (.t 139) (.c (.v (.int .i64 34)))⟩, ⟨(some 141), none, .mv (.t 140)⟩, ⟨(some 142), (some (141, false)), .fad 0 (.t 1)⟩, ⟨(some 143), (some (141, false)), .load none (.t 142)⟩, ⟨(some 144), (some (141, false)), .bin .eql (.t 143) (.c (.v (.int .i64 35)))⟩, ⟨(some 145), none, .pick (.t 141) (.c (.v (.bool true))) (.t 144)⟩, ⟨(some 137), none, .mv (.t 145)⟩]) (.drop [138, 145]))
                  (.cond (.t 137) c_fuglemanref12_Right_5
                   c_fuglemanref12_Right_7))
theorem g_fuglemanref12_Right_8 {C : CT} {lf : Nat} {ks : List It} {s : St} : type_of% (@Sym.go_as C lf ks s _ _ c_fuglemanref12_Right_8.eq_1) := Sym.go_as c_fuglemanref12_Right_8.eq_1
def c_fuglemanref12_Right_9 : AC :=
 (.seq (.seq (.reg [⟨(some 123), none, .fad 0 (.t 1)⟩, ⟨(some 124), none, .load none (.t 123)⟩, ⟨(some 125), none, .bin .eql (.t 124) (.c (.v (.int .i64 32)))⟩, ⟨(some 122), none, .mv (.t 125)⟩]) (.drop [123, 125]))
                (.cond (.t 122) c_fuglemanref12_Right_4
                 c_fuglemanref12_Right_8))
theorem g_fuglemanref12_Right_9 {C : CT} {lf : Nat} {ks : List It} {s : St} : type_of% (@Sym.go_as C lf ks s _ _ c_fuglemanref12_Right_9.eq_1) := Sym.go_as c_fuglemanref12_Right_9.eq_1
def c_fuglemanref12_Right_10 : AC :=
 (.seq (.seq (.reg [⟨(some 112), none, .fad 0 (.t 1)⟩, ⟨(some 113), none, .load none (.t 112)⟩, ⟨(some 114), none, .bin .eql (.t 113) (.c (.v (.int .i64 31)))⟩, ⟨(some 111), none, .mv (.t 114)⟩]) (.drop [112, 114]))
              (.cond (.t 111) c_fuglemanref12_Right_3
               c_fuglemanref12_Right_9))
theorem g_fuglemanref12_Right_10 {C : CT} {lf : Nat} {ks : List It} {s : St} : type_of% (@Sym.go_as C lf ks s _ _ c_fuglemanref12_Right_10.eq_1) := Sym.go_as c_fuglemanref12_Right_10.eq_1
def c_fuglemanref12_Right_11 : AC :=
 (.seq (.seq (.reg [⟨(some 93), none, .fad 0 (.t 1)⟩, ⟨(some 94), none, .load none (.t 93)⟩, ⟨(some 95), none, .bin .eql (.t 94) (.c (.v (.int .i64 13)))⟩, ⟨(some 96), none, .mv (.t 95)⟩, ⟨(some 97), (some (96, false)), .fad 0 (.t 1)⟩, ⟨(some 98), (some (96, false)), .load none (.t 97)⟩, ⟨(some 99), (some (96, false)), .bin .geq (.t 98) (.c (.v (.int .i64 28)))⟩, ⟨(some 100), (some (96, false)), .mv (.t 99)⟩, ⟨(some 101), (some (100, true)), .fad 0 (.t 1)⟩, ⟨(some 102), (some (100, true)), .load none (.t 101)⟩, ⟨(some 103), (some (100, true)), .bin .leq (.t 102) (.c (.v (.int .i64 30)))⟩, ⟨(some 104), (some (96, false)), .pick (.t 100) (.t 103) (.c (.v (.bool false)))⟩, ⟨(some 105), none, .pick (.t 96) (.c (.v (.bool true))) (.t 104)⟩, ⟨(some 106), none, .mv (.t 105)⟩, ⟨(some 107), (some (106, false)), .fad 0 (.t 1)⟩, ⟨(some 108), (some (106, false)), .load none (.t 107)⟩, ⟨(some 109), (some (106, false)), .bin .eql (.t 108) (.c (.v (.int .i64 33)))⟩, ⟨(some 110), none, .pick (.t 106) (.c (.v (.bool true))) (.t 109)⟩, ⟨(some 92), none, .mv (.t 110)⟩]) (.drop [93, 110]))
            (.cond (.t 92) (.seq (.reg [⟨(some 4), none, .mv (.c (.v (.bool true)))⟩]) (.drop []))
             c_fuglemanref12_Right_10))
theorem g_fuglemanref12_Right_11 {C : CT} {lf : Nat} {ks : List It} {s : St} : type_of% (@Sym.go_as C lf ks s _ _ c_fuglemanref12_Right_11.eq_1) := Sym.go_as c_fuglemanref12_Right_11.eq_1
def c_fuglemanref12_Right_12 : AC :=
 (.seq (.seq (.reg [⟨(some 73), none, .fad 0 (.t 1)⟩, ⟨(some 74), none, .load none (.t 73)⟩, ⟨(some 75), none, .bin .geq (.t 74) (.c (.v (.int .i64 25)))⟩, ⟨(some 76), none, .mv (.t 75)⟩, ⟨(some 77), (some (76, true)), .fad 0 (.t 1)⟩, ⟨(some 78), (some (76, true)), .load none (.t 77)⟩, ⟨(some 79), (some (76, true)), .bin .leq (.t 78) (.c (.v (.int .i64 27)))⟩, ⟨(some 80), none, .pick (.t 76) (.t 79) (.c (.v (.bool false)))⟩, ⟨(some 72), none, .mv (.t 80)⟩]) (.drop [73, 80]))
          (.cond (.t 72) c_fuglemanref12_Right_2
           c_fuglemanref12_Right_11))
theorem g_fuglemanref12_Right_12 {C : CT} {lf : Nat} {ks : List It} {s : St} : type_of% (@Sym.go_as C lf ks s _ _ c_fuglemanref12_Right_12.eq_1) := Sym.go_as c_fuglemanref12_Right_12.eq_1
def c_fuglemanref12_Right_13 : AC :=
 (.seq (.seq (.reg [⟨(some 29), none, .fad 0 (.t 1)⟩, ⟨(some 30), none, .load none (.t 29)⟩, ⟨(some 31), none, .call (.c (.fn 41 [])) [(.t 30)]⟩, ⟨(some 32), none, .mv (.t 31)⟩, ⟨(some 33), (some (32, false)), .fad 0 (.t 1)⟩, ⟨(some 34), (some (32, false)), .load none (.t 33)⟩, ⟨(some 35), (some (32, false)), .call (.c (.fn 43 [])) [(.t 34)]⟩, ⟨(some 36), none, .pick (.t 32) (.c (.v (.bool true))) (.t 35)⟩, ⟨(some 28), none, .mv (.t 36)⟩]) (.drop [29, 36]))
        (.cond (.t 28) c_fuglemanref12_Right_1
         c_fuglemanref12_Right_12))
theorem g_fuglemanref12_Right_13 {C : CT} {lf : Nat} {ks : List It} {s : St} : type_of% (@Sym.go_as C lf ks s _ _ c_fuglemanref12_Right_13.eq_1) := Sym.go_as c_fuglemanref12_Right_13.eq_1
theorem gs_fuglemanref12_Right : type_of% (And.intro (And.intro (And.intro (@g_fuglemanref12_Right_0) (And.intro (@g_fuglemanref12_Right_1) (@g_fuglemanref12_Right_2))) (And.intro (And.intro (@g_fuglemanref12_Right_3) (@g_fuglemanref12_Right_4)) (And.intro (@g_fuglemanref12_Right_5) (@g_fuglemanref12_Right_6)))) (And.intro (And.intro (@g_fuglemanref12_Right_7) (And.intro (@g_fuglemanref12_Right_8) (@g_fuglemanref12_Right_9))) (And.intro (And.intro (@g_fuglemanref12_Right_10) (@g_fuglemanref12_Right_11)) (And.intro (@g_fuglemanref12_Right_12) (@g_fuglemanref12_Right_13))))) := (And.intro (And.intro (And.intro (@g_fuglemanref12_Right_0) (And.intro (@g_fuglemanref12_Right_1) (@g_fuglemanref12_Right_2))) (And.intro (And.intro (@g_fuglemanref12_Right_3) (@g_fuglemanref12_Right_4)) (And.intro (@g_fuglemanref12_Right_5) (@g_fuglemanref12_Right_6)))) (And.intro (And.intro (@g_fuglemanref12_Right_7) (And.intro (@g_fuglemanref12_Right_8) (@g_fuglemanref12_Right_9))) (And.intro (And.intro (@g_fuglemanref12_Right_10) (@g_fuglemanref12_Right_11)) (And.intro (@g_fuglemanref12_Right_12) (@g_fuglemanref12_Right_13)))))
def b_fuglemanref12_Right : AC :=
 (.seq (.seq (.reg [⟨(some 1), none, .box (.t 0)⟩, ⟨(some 2), none, .mv (.c (.v (.bool false)))⟩]) (.drop [2, 2]))
 (.seq (.seq (.reg [⟨(some 5), none, .fad 0 (.t 1)⟩, ⟨(some 6), none, .load none (.t 5)⟩, ⟨(some 7), none, .build [(.v (.int .i64 0)), (.v (.int .i64 0)), (.v (.int .i64 0)), (.v (.int .i64 0)), (.v (.int .i64 0))] [(0, 1, (.t 6))]⟩, ⟨(some 3), none, .alloc [(.v (.int .i64 0)), (.v (.int .i64 0)), (.v (.int .i64 0)), (.v (.int .i64 0)), (.v (.int .i64 0))]⟩, ⟨none, none, .store 5 (.t 3) (.t 7)⟩]) (.drop [4, 7]))
  (.seq (.seq (.reg [⟨(some 4), none, .mv (.c (.v (.bool false)))⟩]) (.drop []))
   (.seq (.block 0 (.seq (.seq (.reg [⟨(some 9), none, .fad 0 (.t 1)⟩, ⟨(some 10), none, .load none (.t 9)⟩, ⟨(some 11), none, .call (.c (.fn 41 [])) [(.t 10)]⟩, ⟨(some 12), none, .mv (.t 11)⟩, ⟨(some 13), (some (12, true)), .fad 2 (.t 1)⟩, ⟨(some 14), (some (12, true)), .load none (.t 13)⟩, ⟨(some 15), (some (12, true)), .bin .eql (.t 14) (.c (.v (.int .i64 0)))⟩, ⟨(some 16), none, .pick (.t 12) (.t 15) (.c (.v (.bool false)))⟩, ⟨(some 8), none, .mv (.t 16)⟩]) (.drop [9, 16]))
      (.cond (.t 8) c_fuglemanref12_Right_0
       c_fuglemanref12_Right_13)))
    (.seq (.seq (.reg [⟨(some 211), none, .mv (.t 4)⟩, ⟨(some 212), none, .mv (.t 211)⟩, ⟨(some 213), (some (212, true)), .load (some 5) (.t 1)⟩, ⟨(some 214), (some (212, true)), .load (some 5) (.t 3)⟩, ⟨(some 215), (some (212, true)), .eqst false [(0, .i), (1, .i), (2, .i), (3, .i), (4, .i)] (.t 213) (.t 214)⟩, ⟨(some 216), none, .pick (.t 212) (.t 215) (.c (.v (.bool false)))⟩, ⟨(some 2), none, .mv (.t 216)⟩]) (.drop [3, 216]))
     .ret)))))
def a_fuglemanref12_Right : AFn := ⟨1, b_fuglemanref12_Right, [.t 2], false, false⟩
theorem a_fuglemanref12_Right_ok : compF Try.prog Try.f28 [[2, 2], [4, 7], [], [9, 16], [4, 19], [4, 22], [5, 27], [29, 36], [4, 39], [4, 42], [4, 45], [5, 71], [73, 80], [4, 83], [5, 91], [93, 110], [], [112, 114], [4, 117], [5, 121], [123, 125], [4, 128], [5, 136], [138, 145], [4, 148], [4, 151], [4, 154], [5, 182], [184, 186], [4, 189], [4, 192], [5, 210], [3, 216]] false false hv = some a_fuglemanref12_Right := by kernel_rfl

/-! fugleman/fuglemanref14.logic: 45 -/
def b_fuglemanref14_logic : AC :=
 (.seq (.seq (.reg [⟨(some 2), none, .mv (.c (.v (.bool false)))⟩]) (.drop [1, 2]))
 (.seq (.seq (.reg [⟨(some 3), none, .mv (.t 0)⟩, ⟨(some 4), none, .call (.c (.fn 46 [])) [(.c (.v (.int .i64 13))), (.t 3)]⟩, ⟨(some 2), none, .mv (.t 4)⟩]) (.drop [3, 4]))
  .ret))
def a_fuglemanref14_logic : AFn := ⟨1, b_fuglemanref14_logic, [.t 2], false, false⟩
theorem a_fuglemanref14_logic_ok : compF Try.prog Try.f45 [[1, 2], [3, 4]] false false hv = some a_fuglemanref14_logic := by kernel_rfl

/-! fugleman/fuglemanref14.behind: 29 -/
def c_fuglemanref14_behind_0 : AC :=
 (.seq (.seq (.seq (.reg [⟨(some 33), none, .fad 1 (.t 4)⟩, ⟨(some 34), none, .load none (.t 33)⟩, ⟨(some 35), none, .call (.c (.fn 45 [])) [(.t 34)]⟩, ⟨(some 36), none, .un .not (.t 35)⟩]) (.drop [12, 35]))
             (.cond (.t 36) (.seq (.seq (.reg [⟨(some 37), none, .load (some 3) (.t 11)⟩, ⟨none, none, .store 3 (.t 8) (.t 37)⟩, ⟨(some 9), none, .mv (.c (.v (.int .i64 6)))⟩]) (.drop [10, 37]))
               .ret)
              .skip))
            (.seq (.reg [⟨(some 38), none, .fad 1 (.t 4)⟩, ⟨(some 39), none, .load none (.t 38)⟩, ⟨(some 40), none, .fad 1 (.t 11)⟩, ⟨none, none, .store 1 (.t 40) (.t 39)⟩]) (.drop [12, 40])))
theorem g_fuglemanref14_behind_0 {C : CT} {lf : Nat} {ks : List It} {s : St} : type_of% (@Sym.go_as C lf ks s _ _ c_fuglemanref14_behind_0.eq_1) := Sym.go_as c_fuglemanref14_behind_0.eq_1
def c_fuglemanref14_behind_1 : AC :=
 (.seq (.seq (.reg [⟨(some 48), none, .mv (.t 12)⟩, ⟨(some 49), none, .fad 1 (.t 4)⟩, ⟨(some 50), none, .load none (.t 49)⟩, ⟨(some 51), none, .bin .neq (.t 48) (.t 50)⟩, ⟨(some 52), none, .mv (.t 51)⟩, ⟨(some 53), (some (52, false)), .mv (.t 10)⟩, ⟨(some 54), (some (52, false)), .bin .eql (.t 53) (.c (.v (.int .i64 4)))⟩, ⟨(some 55), (some (52, false)), .mv (.t 54)⟩, ⟨(some 56), (some (55, true)), .fad 1 (.t 4)⟩, ⟨(some 57), (some (55, true)), .load none (.t 56)⟩, ⟨(some 58), (some (55, true)), .call (.c (.fn 45 [])) [(.t 57)]⟩, ⟨(some 59), (some (55, true)), .un .not (.t 58)⟩, ⟨(some 60), (some (52, false)), .pick (.t 55) (.t 59) (.c (.v (.bool false)))⟩, ⟨(some 61), none, .pick (.t 52) (.c (.v (.bool true))) (.t 60)⟩]) (.drop [12, 60]))
              (.cond (.t 61) (.seq (.seq (.reg [⟨(some 62), none, .load (some 3) (.t 11)⟩, ⟨none, none, .store 3 (.t 8) (.t 62)⟩, ⟨(some 9), none, .mv (.c (.v (.int .i64 6)))⟩]) (.drop [10, 62]))
                .ret)
               .skip))
theorem g_fuglemanref14_behind_1 {C : CT} {lf : Nat} {ks : List It} {s : St} : type_of% (@Sym.go_as C lf ks s _ _ c_fuglemanref14_behind_1.eq_1) := Sym.go_as c_fuglemanref14_behind_1.eq_1
def c_fuglemanref14_behind_2 : AC :=
 (.seq (.seq (.reg [⟨(some 70), none, .mv (.t 12)⟩, ⟨(some 71), none, .bin .neq (.t 70) (.c (.v (.int .i64 1)))⟩, ⟨(some 72), none, .mv (.t 71)⟩, ⟨(some 73), (some (72, false)), .fad 1 (.t 4)⟩, ⟨(some 74), (some (72, false)), .load none (.t 73)⟩, ⟨(some 75), (some (72, false)), .bin .neq (.t 74) (.c (.v (.int .i64 1)))⟩, ⟨(some 76), none, .pick (.t 72) (.c (.v (.bool true))) (.t 75)⟩]) (.drop [12, 75]))
                (.cond (.t 76) (.seq (.seq (.reg [⟨(some 77), none, .load (some 3) (.t 11)⟩, ⟨none, none, .store 3 (.t 8) (.t 77)⟩, ⟨(some 9), none, .mv (.c (.v (.int .i64 6)))⟩]) (.drop [10, 77]))
                  .ret)
                 .skip))
theorem g_fuglemanref14_behind_2 {C : CT} {lf : Nat} {ks : List It} {s : St} : type_of% (@Sym.go_as C lf ks s _ _ c_fuglemanref14_behind_2.eq_1) := Sym.go_as c_fuglemanref14_behind_2.eq_1
def c_fuglemanref14_behind_3 : AC :=
 (.seq (.seq (.reg [⟨(some 81), none, .mv (.t 12)⟩, ⟨(some 82), none, .call (.c (.fn 45 [])) [(.t 81)]⟩, ⟨(some 83), none, .un .not (.t 82)⟩]) (.drop [12, 82]))
                  (.cond (.t 83) (.seq (.seq (.reg [⟨(some 84), none, .load (some 3) (.t 11)⟩, ⟨none, none, .store 3 (.t 8) (.t 84)⟩, ⟨(some 9), none, .mv (.c (.v (.int .i64 6)))⟩]) (.drop [10, 84]))
                    .ret)
                   .skip))
theorem g_fuglemanref14_behind_3 {C : CT} {lf : Nat} {ks : List It} {s : St} : type_of% (@Sym.go_as C lf ks s _ _ c_fuglemanref14_behind_3.eq_1) := Sym.go_as c_fuglemanref14_behind_3.eq_1
def c_fuglemanref14_behind_4 : AC :=
 (.seq (.seq (.seq (.reg [⟨(some 92), none, .mv (.t 12)⟩, ⟨(some 93), none, .fad 1 (.t 4)⟩, ⟨(some 94), none, .load none (.t 93)⟩, ⟨(some 95), none, .bin .neq (.t 92) (.t 94)⟩, ⟨(some 96), none, .mv (.t 95)⟩, ⟨(some 97), (some (96, false)), .mv (.t 10)⟩, ⟨(some 98), (some (96, false)), .mv (.t 12)⟩, ⟨(some 99), (some (96, false)), .call (.c (.fn 46 [])) [(.t 97), (.t 98)]⟩, ⟨(some 100), (some (96, false)), .un .not (.t 99)⟩, ⟨(some 101), none, .pick (.t 96) (.c (.v (.bool true))) (.t 100)⟩]) (.drop [12, 100]))
                     (.cond (.t 101) (.seq (.seq (.reg [⟨(some 102), none, .load (some 3) (.t 11)⟩, ⟨none, none, .store 3 (.t 8) (.t 102)⟩, ⟨(some 9), none, .mv (.c (.v (.int .i64 6)))⟩]) (.drop [10, 102]))
                       .ret)
                      .skip))
                    (.seq (.seq (.reg [⟨(some 103), none, .mv (.t 10)⟩, ⟨(some 104), none, .bin .geq (.t 103) (.c (.v (.int .i64 19)))⟩]) (.drop [12, 103]))
                     (.cond (.t 104) (.seq (.reg [⟨(some 105), none, .fad 1 (.t 11)⟩, ⟨none, none, .store 1 (.t 105) (.c (.v (.int .i64 1)))⟩]) (.drop [12, 105]))
                      .skip)))
theorem g_fuglemanref14_behind_4 {C : CT} {lf : Nat} {ks : List It} {s : St} : type_of% (@Sym.go_as C lf ks s _ _ c_fuglemanref14_behind_4.eq_1) := Sym.go_as c_fuglemanref14_behind_4.eq_1
def c_fuglemanref14_behind_5 : AC :=
 (.seq (.seq (.seq (.reg [⟨(some 113), none, .fad 3 (.t 4)⟩, ⟨(some 114), none, .load none (.t 113)⟩, ⟨(some 115), none, .mv (.t 1)⟩, ⟨(some 116), none, .bin .leq (.t 114) (.t 115)⟩, ⟨(some 117), none, .mv (.t 116)⟩, ⟨(some 118), (some (117, false)), .fad 3 (.t 4)⟩, ⟨(some 119), (some (117, false)), .load none (.t 118)⟩, ⟨(some 120), (some (117, false)), .mv (.t 2)⟩, ⟨(some 121), (some (117, false)), .bin .gtr (.t 119) (.t 120)⟩, ⟨(some 122), none, .pick (.t 117) (.c (.v (.bool true))) (.t 121)⟩]) (.drop [13, 121]))
                       (.cond (.t 122) (.seq (.seq (.reg [⟨(some 123), none, .load (some 3) (.t 11)⟩, ⟨none, none, .store 3 (.t 8) (.t 123)⟩, ⟨(some 9), none, .mv (.c (.v (.int .i64 7)))⟩]) (.drop [10, 123]))
                         .ret)
                        .skip))
                      (.seq (.seq (.reg [⟨(some 124), none, .mv (.t 10)⟩, ⟨(some 125), none, .bin .gtr (.t 124) (.c (.v (.int .i64 25)))⟩, ⟨(some 126), none, .mv (.t 125)⟩, ⟨(some 127), (some (126, true)), .mv (.t 12)⟩, ⟨(some 128), (some (126, true)), .bin .neq (.t 127) (.c (.v (.int .i64 1)))⟩, ⟨(some 129), none, .pick (.t 126) (.t 128) (.c (.v (.bool false)))⟩]) (.drop [12, 128]))
                       (.cond (.t 129) (.seq (.seq (.reg [⟨(some 130), none, .load (some 3) (.t 11)⟩, ⟨none, none, .store 3 (.t 8) (.t 130)⟩, ⟨(some 9), none, .mv (.c (.v (.int .i64 6)))⟩]) (.drop [10, 130]))
                         .ret)
                        .skip)))
theorem g_fuglemanref14_behind_5 {C : CT} {lf : Nat} {ks : List It} {s : St} : type_of% (@Sym.go_as C lf ks s _ _ c_fuglemanref14_behind_5.eq_1) := Sym.go_as c_fuglemanref14_behind_5.eq_1
def c_fuglemanref14_behind_6 : AC :=
 (.seq (.seq (.seq (.reg [⟨(some 138), none, .mv (.t 10)⟩, ⟨(some 139), none, .bin .gtr (.t 138) (.c (.v (.int .i64 28)))⟩, ⟨(some 140), none, .mv (.t 139)⟩, ⟨(some 141), (some (140, true)), .mv (.t 12)⟩, ⟨(some 142), (some (140, true)), .bin .neq (.t 141) (.c (.v (.int .i64 1)))⟩, ⟨(some 143), none, .pick (.t 140) (.t 142) (.c (.v (.bool false)))⟩]) (.drop [14, 142]))
                         (.cond (.t 143) (.seq (.seq (.reg [⟨(some 144), none, .load (some 3) (.t 11)⟩, ⟨none, none, .store 3 (.t 8) (.t 144)⟩, ⟨(some 9), none, .mv (.c (.v (.int .i64 6)))⟩]) (.drop [10, 144]))
                           .ret)
                          .skip))
                        (.seq (.seq (.reg [⟨(some 145), none, .mv (.t 13)⟩, ⟨(some 146), none, .bin .gtr (.t 145) (.c (.v (.int .i64 0)))⟩]) (.drop [12, 145]))
                         (.cond (.t 146) (.seq (.seq (.reg [⟨(some 147), none, .load (some 3) (.t 11)⟩, ⟨none, none, .store 3 (.t 8) (.t 147)⟩, ⟨(some 9), none, .mv (.c (.v (.int .i64 3)))⟩]) (.drop [10, 147]))
                           .ret)
                          .skip)))
theorem g_fuglemanref14_behind_6 {C : CT} {lf : Nat} {ks : List It} {s : St} : type_of% (@Sym.go_as C lf ks s _ _ c_fuglemanref14_behind_6.eq_1) := Sym.go_as c_fuglemanref14_behind_6.eq_1
def c_fuglemanref14_behind_7 : AC :=
 (.seq (.seq (.seq (.reg [⟨(some 151), none, .mv (.t 12)⟩, ⟨(some 152), none, .bin .eql (.t 151) (.c (.v (.int .i64 0)))⟩]) (.drop [12, 151]))
                           (.cond (.t 152) (.seq (.seq (.reg [⟨(some 153), none, .load (some 3) (.t 11)⟩, ⟨none, none, .store 3 (.t 8) (.t 153)⟩, ⟨(some 9), none, .mv (.c (.v (.int .i64 6)))⟩]) (.drop [10, 153]))
                             .ret)
                            .skip))
                          (.seq (.reg [⟨(some 154), none, .fad 1 (.t 4)⟩, ⟨(some 155), none, .load none (.t 154)⟩, ⟨(some 156), none, .fad 1 (.t 11)⟩, ⟨none, none, .store 1 (.t 156) (.t 155)⟩]) (.drop [12, 156])))
theorem g_fuglemanref14_behind_7 {C : CT} {lf : Nat} {ks : List It} {s : St} : type_of% (@Sym.go_as C lf ks s _ _ c_fuglemanref14_behind_7.eq_1) := Sym.go_as c_fuglemanref14_behind_7.eq_1
def c_fuglemanref14_behind_8 : AC :=
 (.seq (.seq (.seq (.reg [⟨(some 160), none, .fad 3 (.t 4)⟩, ⟨(some 161), none, .load none (.t 160)⟩, ⟨(some 162), none, .mv (.t 12)⟩, ⟨(some 163), none, .call (.c (.fn 46 [])) [(.t 161), (.t 162)]⟩, ⟨(some 164), none, .un .not (.t 163)⟩]) (.drop [14, 163]))
                             (.cond (.t 164) (.seq (.seq (.reg [⟨(some 165), none, .load (some 3) (.t 11)⟩, ⟨none, none, .store 3 (.t 8) (.t 165)⟩, ⟨(some 9), none, .mv (.c (.v (.int .i64 6)))⟩]) (.drop [10, 165]))
                               .ret)
                              .skip))
                            (.seq (.seq (.seq (.reg [⟨(some 166), none, .mv (.t 13)⟩, ⟨(some 167), none, .bin .eql (.t 166) (.c (.v (.int .i64 8)))⟩]) (.drop [13, 166]))
                              (.cond (.t 167) (.seq (.seq (.reg [⟨(some 168), none, .load (some 3) (.t 11)⟩, ⟨none, none, .store 3 (.t 8) (.t 168)⟩, ⟨(some 9), none, .mv (.c (.v (.int .i64 8)))⟩]) (.drop [10, 168]))
                                .ret)
                               .skip))
                             (.seq (.seq (.reg [⟨(some 169), none, .fad 1 (.t 11)⟩, ⟨none, none, .store 1 (.t 169) (.c (.v (.int .i64 0)))⟩]) (.drop [13, 169]))
                              (.seq (.reg [⟨(some 170), none, .fad 2 (.t 7)⟩, ⟨(some 171), none, .load none (.t 170)⟩, ⟨(some 172), none, .fad 3 (.t 4)⟩, ⟨(some 173), none, .load none (.t 172)⟩, ⟨(some 174), none, .cvi .u8 (.t 173)⟩, ⟨(some 175), none, .mv (.t 12)⟩, ⟨(some 176), none, .cvi .u8 (.t 175)⟩, ⟨(some 177), none, .row 1 2 [(.v (.int .u8 0))] [(0, 1, (.t 174)), (1, 1, (.t 176))]⟩, ⟨(some 178), none, .cvbs (.t 177)⟩, ⟨(some 179), none, .bin .add (.t 171) (.t 178)⟩, ⟨(some 180), none, .fad 2 (.t 11)⟩, ⟨none, none, .store 1 (.t 180) (.t 179)⟩]) (.drop [12, 180])))))
theorem g_fuglemanref14_behind_8 {C : CT} {lf : Nat} {ks : List It} {s : St} : type_of% (@Sym.go_as C lf ks s _ _ c_fuglemanref14_behind_8.eq_1) := Sym.go_as c_fuglemanref14_behind_8.eq_1
def c_fuglemanref14_behind_9 : AC :=
 (.seq (.seq (.seq (.reg [⟨(some 184), none, .mv (.t 13)⟩, ⟨(some 185), none, .bin .eql (.t 184) (.c (.v (.int .i64 0)))⟩]) (.drop [14, 184]))
                               (.cond (.t 185) (.seq (.seq (.reg [⟨(some 186), none, .load (some 3) (.t 11)⟩, ⟨none, none, .store 3 (.t 8) (.t 186)⟩, ⟨(some 9), none, .mv (.c (.v (.int .i64 3)))⟩]) (.drop [10, 186]))
                                 .ret)
                                .skip))
                              (.seq (.seq (.reg [⟨(some 187), none, .fad 2 (.t 7)⟩, ⟨(some 188), none, .load none (.t 187)⟩, ⟨(some 189), none, .mv (.t 13)⟩, ⟨(some 190), none, .bin .mul (.c (.v (.int .i64 2))) (.t 189)⟩, ⟨(some 191), none, .bin .sub (.t 190) (.c (.v (.int .i64 2)))⟩, ⟨(some 192), none, .slstr (.t 188) (some (.t 191)) none⟩, ⟨(some 14), none, .mv (.t 192)⟩]) (.drop [15, 192]))
                               (.seq (.seq (.seq (.reg [⟨(some 193), none, .mv (.t 12)⟩, ⟨(some 194), none, .mv (.t 14)⟩, ⟨(some 195), none, .ixstr (.t 194) (.c (.v (.int .i64 1)))⟩, ⟨(some 196), none, .cvi .i64 (.t 195)⟩, ⟨(some 197), none, .bin .neq (.t 193) (.t 196)⟩]) (.drop [15, 196]))
                                 (.cond (.t 197) (.seq (.seq (.reg [⟨(some 198), none, .load (some 3) (.t 11)⟩, ⟨none, none, .store 3 (.t 8) (.t 198)⟩, ⟨(some 9), none, .mv (.c (.v (.int .i64 6)))⟩]) (.drop [10, 198]))
                                   .ret)
                                  .skip))
                                (.seq (.seq (.seq (.reg [⟨(some 199), none, .mv (.t 14)⟩, ⟨(some 200), none, .ixstr (.t 199) (.c (.v (.int .i64 0)))⟩, ⟨(some 201), none, .bin .geq (.t 200) (.c (.v (.int .u8 19)))⟩]) (.drop [14, 200]))
                                  (.cond (.t 201) (.seq (.reg [⟨(some 202), none, .fad 1 (.t 11)⟩, ⟨none, none, .store 1 (.t 202) (.c (.v (.int .i64 1)))⟩]) (.drop [14, 202]))
                                   .skip))
                                 (.seq (.reg [⟨(some 203), none, .fad 2 (.t 7)⟩, ⟨(some 204), none, .load none (.t 203)⟩, ⟨(some 205), none, .mv (.t 13)⟩, ⟨(some 206), none, .bin .mul (.c (.v (.int .i64 2))) (.t 205)⟩, ⟨(some 207), none, .bin .sub (.t 206) (.c (.v (.int .i64 2)))⟩, ⟨(some 208), none, .slstr (.t 204) none (some (.t 207))⟩, ⟨(some 209), none, .fad 2 (.t 11)⟩, ⟨none, none, .store 1 (.t 209) (.t 208)⟩]) (.drop [12, 209]))))))
theorem g_fuglemanref14_behind_9 {C : CT} {lf : Nat} {ks : List It} {s : St} : type_of% (@Sym.go_as C lf ks s _ _ c_fuglemanref14_behind_9.eq_1) := Sym.go_as c_fuglemanref14_behind_9.eq_1
def c_fuglemanref14_behind_10 : AC :=
 (.seq (.seq (.reg [⟨(some 211), none, .mv (.t 12)⟩, ⟨(some 212), none, .bin .neq (.t 211) (.c (.v (.int .i64 1)))⟩, ⟨(some 210), none, .mv (.t 212)⟩]) (.drop [211, 212]))
                              (.cond (.t 210) (.seq (.seq (.reg [⟨(some 213), none, .load (some 3) (.t 11)⟩, ⟨none, none, .store 3 (.t 8) (.t 213)⟩, ⟨(some 9), none, .mv (.c (.v (.int .i64 6)))⟩]) (.drop [10, 213]))
                                .ret)
                               .skip))
theorem g_fuglemanref14_behind_10 {C : CT} {lf : Nat} {ks : List It} {s : St} : type_of% (@Sym.go_as C lf ks s _ _ c_fuglemanref14_behind_10.eq_1) := Sym.go_as c_fuglemanref14_behind_10.eq_1
def c_fuglemanref14_behind_11 : AC :=
 (.seq (.seq (.reg [⟨(some 182), none, .mv (.t 10)⟩, ⟨(some 183), none, .bin .eql (.t 182) (.c (.v (.int .i64 33)))⟩, ⟨(some 181), none, .mv (.t 183)⟩]) (.drop [182, 183]))
                            (.cond (.t 181) c_fuglemanref14_behind_9
                             c_fuglemanref14_behind_10))
theorem g_fuglemanref14_behind_11 {C : CT} {lf : Nat} {ks : List It} {s : St} : type_of% (@Sym.go_as C lf ks s _ _ c_fuglemanref14_behind_11.eq_1) := Sym.go_as c_fuglemanref14_behind_11.eq_1
def c_fuglemanref14_behind_12 : AC :=
 (.seq (.seq (.reg [⟨(some 158), none, .mv (.t 10)⟩, ⟨(some 159), none, .bin .eql (.t 158) (.c (.v (.int .i64 32)))⟩, ⟨(some 157), none, .mv (.t 159)⟩]) (.drop [158, 159]))
                          (.cond (.t 157) c_fuglemanref14_behind_8
                           c_fuglemanref14_behind_11))
theorem g_fuglemanref14_behind_12 {C : CT} {lf : Nat} {ks : List It} {s : St} : type_of% (@Sym.go_as C lf ks s _ _ c_fuglemanref14_behind_12.eq_1) := Sym.go_as c_fuglemanref14_behind_12.eq_1
def c_fuglemanref14_behind_13 : AC :=
 (.seq (.seq (.reg [⟨(some 149), none, .mv (.t 10)⟩, ⟨(some 150), none, .bin .eql (.t 149) (.c (.v (.int .i64 31)))⟩, ⟨(some 148), none, .mv (.t 150)⟩]) (.drop [149, 150]))
                        (.cond (.t 148) c_fuglemanref14_behind_7
                         c_fuglemanref14_behind_12))
theorem g_fuglemanref14_behind_13 {C : CT} {lf : Nat} {ks : List It} {s : St} : type_of% (@Sym.go_as C lf ks s _ _ c_fuglemanref14_behind_13.eq_1) := Sym.go_as c_fuglemanref14_behind_13.eq_1
def c_fuglemanref14_behind_14 : AC :=
 (.seq (.seq (.reg [⟨(some 132), none, .mv (.t 10)⟩, ⟨(some 133), none, .bin .geq (.t 132) (.c (.v (.int .i64 28)))⟩, ⟨(some 134), none, .mv (.t 133)⟩, ⟨(some 135), (some (134, true)), .mv (.t 10)⟩, ⟨(some 136), (some (134, true)), .bin .leq (.t 135) (.c (.v (.int .i64 30)))⟩, ⟨(some 137), none, .pick (.t 134) (.t 136) (.c (.v (.bool false)))⟩, ⟨(some 131), none, .mv (.t 137)⟩]) (.drop [132, 137]))
                      (.cond (.t 131) c_fuglemanref14_behind_6
                       c_fuglemanref14_behind_13))
theorem g_fuglemanref14_behind_14 {C : CT} {lf : Nat} {ks : List It} {s : St} : type_of% (@Sym.go_as C lf ks s _ _ c_fuglemanref14_behind_14.eq_1) := Sym.go_as c_fuglemanref14_behind_14.eq_1
def c_fuglemanref14_behind_15 : AC :=
 (.seq (.seq (.reg [⟨(some 107), none, .mv (.t 10)⟩, ⟨(some 108), none, .bin .geq (.t 107) (.c (.v (.int .i64 25)))⟩, ⟨(some 109), none, .mv (.t 108)⟩, ⟨(some 110), (some (109, true)), .mv (.t 10)⟩, ⟨(some 111), (some (109, true)), .bin .leq (.t 110) (.c (.v (.int .i64 27)))⟩, ⟨(some 112), none, .pick (.t 109) (.t 111) (.c (.v (.bool false)))⟩, ⟨(some 106), none, .mv (.t 112)⟩]) (.drop [107, 112]))
                    (.cond (.t 106) c_fuglemanref14_behind_5
                     c_fuglemanref14_behind_14))
theorem g_fuglemanref14_behind_15 {C : CT} {lf : Nat} {ks : List It} {s : St} : type_of% (@Sym.go_as C lf ks s _ _ c_fuglemanref14_behind_15.eq_1) := Sym.go_as c_fuglemanref14_behind_15.eq_1
def c_fuglemanref14_behind_16 : AC :=
 (.seq (.seq (.reg [⟨(some 86), none, .mv (.t 10)⟩, ⟨(some 87), none, .bin .geq (.t 86) (.c (.v (.int .i64 7)))⟩, ⟨(some 88), none, .mv (.t 87)⟩, ⟨(some 89), (some (88, true)), .mv (.t 10)⟩, ⟨(some 90), (some (88, true)), .bin .leq (.t 89) (.c (.v (.int .i64 24)))⟩, ⟨(some 91), none, .pick (.t 88) (.t 90) (.c (.v (.bool false)))⟩, ⟨(some 85), none, .mv (.t 91)⟩]) (.drop [86, 91]))
                  (.cond (.t 85) c_fuglemanref14_behind_4
                   c_fuglemanref14_behind_15))
theorem g_fuglemanref14_behind_16 {C : CT} {lf : Nat} {ks : List It} {s : St} : type_of% (@Sym.go_as C lf ks s _ _ c_fuglemanref14_behind_16.eq_1) := Sym.go_as c_fuglemanref14_behind_16.eq_1
def c_fuglemanref14_behind_17 : AC :=
 (.seq (.seq (.reg [⟨(some 79), none, .mv (.t 10)⟩, ⟨(some 80), none, .bin .eql (.t 79) (.c (.v (.int .i64 13)))⟩, ⟨(some 78), none, .mv (.t 80)⟩]) (.drop [79, 80]))
                (.cond (.t 78) c_fuglemanref14_behind_3
                 c_fuglemanref14_behind_16))
theorem g_fuglemanref14_behind_17 {C : CT} {lf : Nat} {ks : List It} {s : St} : type_of% (@Sym.go_as C lf ks s _ _ c_fuglemanref14_behind_17.eq_1) := Sym.go_as c_fuglemanref14_behind_17.eq_1
def c_fuglemanref14_behind_18 : AC :=
 (.seq (.seq (.reg [⟨(some 64), none, .mv (.t 10)⟩, ⟨(some 65), none, .bin .eql (.t 64) (.c (.v (.int .i64 5)))⟩, ⟨(some 66), none, .mv (.t 65)⟩, ⟨(some 67), (some (66, false)), .mv (.t 10)⟩, ⟨(some 68), (some (66, false)), .bin .eql (.t 67) (.c (.v (.int .i64 6)))⟩, ⟨(some 69), none, .pick (.t 66) (.c (.v (.bool true))) (.t 68)⟩, ⟨(some 63), none, .mv (.t 69)⟩]) (.drop [64, 69]))
              (.cond (.t 63) c_fuglemanref14_behind_2
               c_fuglemanref14_behind_17))
theorem g_fuglemanref14_behind_18 {C : CT} {lf : Nat} {ks : List It} {s : St} : type_of% (@Sym.go_as C lf ks s _ _ c_fuglemanref14_behind_18.eq_1) := Sym.go_as c_fuglemanref14_behind_18.eq_1
def c_fuglemanref14_behind_19 : AC :=
 (.seq (.seq (.reg [⟨(some 42), none, .mv (.t 10)⟩, ⟨(some 43), none, .bin .eql (.t 42) (.c (.v (.int .i64 3)))⟩, ⟨(some 44), none, .mv (.t 43)⟩, ⟨(some 45), (some (44, false)), .mv (.t 10)⟩, ⟨(some 46), (some (44, false)), .bin .eql (.t 45) (.c (.v (.int .i64 4)))⟩, ⟨(some 47), none, .pick (.t 44) (.c (.v (.bool true))) (.t 46)⟩, ⟨(some 41), none, .mv (.t 47)⟩]) (.drop [42, 47]))
            (.cond (.t 41) c_fuglemanref14_behind_1
             c_fuglemanref14_behind_18))
theorem g_fuglemanref14_behind_19 {C : CT} {lf : Nat} {ks : List It} {s : St} : type_of% (@Sym.go_as C lf ks s _ _ c_fuglemanref14_behind_19.eq_1) := Sym.go_as c_fuglemanref14_behind_19.eq_1
def c_fuglemanref14_behind_20 : AC :=
 (.seq (.seq (.reg [⟨(some 31), none, .mv (.t 10)⟩, ⟨(some 32), none, .bin .eql (.t 31) (.c (.v (.int .i64 2)))⟩, ⟨(some 30), none, .mv (.t 32)⟩]) (.drop [31, 32]))
          (.cond (.t 30) c_fuglemanref14_behind_0
           c_fuglemanref14_behind_19))
theorem g_fuglemanref14_behind_20 {C : CT} {lf : Nat} {ks : List It} {s : St} : type_of% (@Sym.go_as C lf ks s _ _ c_fuglemanref14_behind_20.eq_1) := Sym.go_as c_fuglemanref14_behind_20.eq_1
theorem gs_fuglemanref14_behind : type_of% (And.intro (And.intro (And.intro (And.intro (@g_fuglemanref14_behind_0) (@g_fuglemanref14_behind_1)) (And.intro (@g_fuglemanref14_behind_2) (And.intro (@g_fuglemanref14_behind_3) (@g_fuglemanref14_behind_4)))) (And.intro (And.intro (@g_fuglemanref14_behind_5) (@g_fuglemanref14_behind_6)) (And.intro (@g_fuglemanref14_behind_7) (And.intro (@g_fuglemanref14_behind_8) (@g_fuglemanref14_behind_9))))) (And.intro (And.intro (And.intro (@g_fuglemanref14_behind_10) (@g_fuglemanref14_behind_11)) (And.intro (@g_fuglemanref14_behind_12) (And.intro (@g_fuglemanref14_behind_13) (@g_fuglemanref14_behind_14)))) (And.intro (And.intro (@g_fuglemanref14_behind_15) (And.intro (@g_fuglemanref14_behind_16) (@g_fuglemanref14_behind_17))) (And.intro (@g_fuglemanref14_behind_18) (And.intro (@g_fuglemanref14_behind_19) (@g_fuglemanref14_behind_20)))))) := (And.intro (And.intro (And.intro (And.intro (@g_fuglemanref14_behind_0) (@g_fuglemanref14_behind_1)) (And.intro (@g_fuglemanref14_behind_2) (And.intro (@g_fuglemanref14_behind_3) (@g_fuglemanref14_behind_4)))) (And.intro (And.intro (@g_fuglemanref14_behind_5) (@g_fuglemanref14_behind_6)) (And.intro (@g_fuglemanref14_behind_7) (And.intro (@g_fuglemanref14_behind_8) (@g_fuglemanref14_behind_9))))) (And.intro (And.intro (And.intro (@g_fuglemanref14_behind_10) (@g_fuglemanref14_behind_11)) (And.intro (@g_fuglemanref14_behind_12) (And.intro (@g_fuglemanref14_behind_13) (@g_fuglemanref14_behind_14)))) (And.intro (And.intro (@g_fuglemanref14_behind_15) (And.intro (@g_fuglemanref14_behind_16) (@g_fuglemanref14_behind_17))) (And.intro (@g_fuglemanref14_behind_18) (And.intro (@g_fuglemanref14_behind_19) (@g_fuglemanref14_behind_20))))))
def b_fuglemanref14_behind : AC :=
 (.seq (.seq (.reg [⟨(some 4), none, .box (.t 0)⟩, ⟨(some 7), none, .box (.t 3)⟩, ⟨(some 8), none, .alloc [(.v (.bool false)), (.v (.int .i64 0)), (.v (.string ⟨#[]⟩))]⟩, ⟨(some 9), none, .mv (.c (.v (.int .i64 0)))⟩]) (.drop [9, 9]))
 (.seq (.seq (.reg [⟨(some 15), none, .fad 0 (.t 4)⟩, ⟨(some 16), none, .load none (.t 15)⟩, ⟨(some 10), none, .mv (.t 16)⟩]) (.drop [11, 16]))
  (.seq (.seq (.reg [⟨(some 17), none, .load (some 3) (.t 7)⟩, ⟨(some 11), none, .alloc [(.v (.bool false)), (.v (.int .i64 0)), (.v (.string ⟨#[]⟩))]⟩, ⟨none, none, .store 3 (.t 11) (.t 17)⟩]) (.drop [12, 17]))
   (.seq (.seq (.reg [⟨(some 18), none, .fad 1 (.t 7)⟩, ⟨(some 19), none, .load none (.t 18)⟩, ⟨(some 12), none, .mv (.t 19)⟩]) (.drop [13, 19]))
    (.seq (.seq (.reg [⟨(some 20), none, .fad 2 (.t 7)⟩, ⟨(some 21), none, .load none (.t 20)⟩, ⟨(some 22), none, .lens (.t 21)⟩, ⟨(some 23), none, .bin .quo (.t 22) (.c (.v (.int .i64 2)))⟩, ⟨(some 13), none, .mv (.t 23)⟩]) (.drop [14, 23]))
     (.seq (.block 0 (.seq (.seq (.reg [⟨(some 25), none, .mv (.t 10)⟩, ⟨(some 26), none, .bin .eql (.t 25) (.c (.v (.int .i64 1)))⟩, ⟨(some 24), none, .mv (.t 26)⟩]) (.drop [25, 26]))
        (.cond (.t 24) (.seq (.reg [⟨(some 27), none, .fad 1 (.t 4)⟩, ⟨(some 28), none, .load none (.t 27)⟩, ⟨(some 29), none, .fad 1 (.t 11)⟩, ⟨none, none, .store 1 (.t 29) (.t 28)⟩]) (.drop [12, 29]))
         c_fuglemanref14_behind_20)))
      (.seq (.seq (.reg [⟨(some 214), none, .load (some 3) (.t 11)⟩, ⟨none, none, .store 3 (.t 8) (.t 214)⟩, ⟨(some 9), none, .mv (.c (.v (.int .i64 0)))⟩]) (.drop [10, 214]))
       .ret)))))))
def a_fuglemanref14_behind : AFn := ⟨4, b_fuglemanref14_behind, [.cell 8 (some 3), .t 9], false, false⟩
theorem a_fuglemanref14_behind_ok : compF Try.prog Try.f29 [[9, 9], [11, 16], [12, 17], [13, 19], [14, 23], [25, 26], [12, 29], [31, 32], [12, 35], [10, 37], [12, 40], [42, 47], [12, 60], [10, 62], [64, 69], [12, 75], [10, 77], [79, 80], [12, 82], [10, 84], [86, 91], [12, 100], [10, 102], [12, 103], [12, 105], [107, 112], [13, 121], [10, 123], [12, 128], [10, 130], [132, 137], [14, 142], [10, 144], [12, 145], [10, 147], [149, 150], [12, 151], [10, 153], [12, 156], [158, 159], [14, 163], [10, 165], [13, 166], [10, 168], [13, 169], [12, 180], [182, 183], [14, 184], [10, 186], [15, 192], [15, 196], [10, 198], [14, 200], [14, 202], [12, 209], [211, 212], [10, 213], [10, 214]] false false hv = some a_fuglemanref14_behind := by kernel_rfl

/-! fugleman/fuglemanref14.join: 30 -/
def b_fuglemanref14_join : AC :=
 (.seq (.seq (.reg [⟨(some 2), none, .box (.t 0)⟩, ⟨(some 3), none, .box (.t 1)⟩, ⟨(some 4), none, .alloc [(.v (.bool false)), (.v (.int .i64 0)), (.v (.string ⟨#[]⟩))]⟩, ⟨(some 5), none, .mv (.c (.v (.bool false)))⟩]) (.drop [5, 5]))
 (.seq (.seq (.seq (.reg [⟨(some 6), none, .fad 0 (.t 2)⟩, ⟨(some 7), none, .load none (.t 6)⟩, ⟨(some 8), none, .un .not (.t 7)⟩]) (.drop [5, 7]))
   (.cond (.t 8) (.seq (.seq (.reg [⟨(some 9), none, .load (some 3) (.t 3)⟩, ⟨none, none, .store 3 (.t 4) (.t 9)⟩, ⟨(some 5), none, .mv (.c (.v (.bool true)))⟩]) (.drop [6, 9]))
     .ret)
    .skip))
  (.seq (.seq (.seq (.reg [⟨(some 10), none, .fad 1 (.t 2)⟩, ⟨(some 11), none, .load none (.t 10)⟩, ⟨(some 12), none, .fad 1 (.t 3)⟩, ⟨(some 13), none, .load none (.t 12)⟩, ⟨(some 14), none, .bin .neq (.t 11) (.t 13)⟩]) (.drop [5, 13]))
    (.cond (.t 14) (.seq (.reg [⟨(some 15), none, .fad 1 (.t 2)⟩, ⟨none, none, .store 1 (.t 15) (.c (.v (.int .i64 0)))⟩]) (.drop [5, 15]))
     .skip))
   (.seq (.seq (.regs 6 [⟨(some 16), none, .load (some 3) (.t 2)⟩, ⟨(some 17), none, .fad 2 (.t 2)⟩, ⟨(some 18), none, .load none (.t 17)⟩, ⟨(some 19), none, .fad 2 (.t 3)⟩, ⟨(some 20), none, .load none (.t 19)⟩, ⟨(some 21), none, .bin .eql (.t 18) (.t 20)⟩, ⟨none, none, .store 3 (.t 4) (.t 16)⟩, ⟨(some 5), none, .mv (.t 21)⟩]) (.drop [6, 21]))
    .ret))))
def a_fuglemanref14_join : AFn := ⟨2, b_fuglemanref14_join, [.cell 4 (some 3), .t 5], false, false⟩
theorem a_fuglemanref14_join_ok : compF Try.prog Try.f30 [[5, 5], [5, 7], [6, 9], [5, 13], [5, 15], [6, 21]] false false hv = some a_fuglemanref14_join := by kernel_rfl

/-! fugleman/fuglemanref14.All: 18 -/
def l_fuglemanref14_All_1 : AC :=
 (.seq (.seq (.seq (.reg [⟨(some 107), none, .mv (.t 6)⟩, ⟨(some 108), none, .mv (.t 5)⟩, ⟨(some 109), none, .ixs 3 (.t 107) (.t 108)⟩, ⟨(some 110), none, .fad 0 (.t 109)⟩, ⟨(some 111), none, .load none (.t 110)⟩, ⟨(some 112), none, .mv (.t 111)⟩, ⟨(some 113), (some (112, true)), .mv (.t 6)⟩, ⟨(some 114), (some (112, true)), .mv (.t 5)⟩, ⟨(some 115), (some (112, true)), .ixs 3 (.t 113) (.t 114)⟩, ⟨(some 116), (some (112, true)), .fad 2 (.t 115)⟩, ⟨(some 117), (some (112, true)), .load none (.t 116)⟩, ⟨(some 118), (some (112, true)), .bin .neq (.t 117) (.c (.v (.string ⟨#[]⟩)))⟩, ⟨(some 119), none, .pick (.t 112) (.t 118) (.c (.v (.bool false)))⟩]) (.drop [7, 118]))
  (.cond (.t 119) (.seq (.seq (.reg [⟨(some 120), none, .mv (.t 5)⟩, ⟨(some 2), none, .mv (.c (.v (.slice none 0 0)))⟩, ⟨(some 3), none, .mv (.c (.v (.int .i64 3)))⟩, ⟨(some 4), none, .mv (.t 120)⟩]) (.drop [5, 120]))
    .ret)
   .skip))
 (.seq (.seq (.reg [⟨(some 121), none, .mv (.t 6)⟩, ⟨(some 2), none, .mv (.t 121)⟩, ⟨(some 3), none, .mv (.c (.v (.int .i64 0)))⟩, ⟨(some 4), none, .mv (.c (.v (.int .i64 0)))⟩]) (.drop [5, 121]))
  .ret))
def c_fuglemanref14_All_0 : AC :=
 (.seq (.regm [(.o, ⟨(some 66), none, .mv (.t 6)⟩), (.o, ⟨(some 67), none, .mv (.t 7)⟩), (.o, ⟨(some 68), none, .bin .add (.t 67) (.c (.v (.int .i64 1)))⟩), (.o, ⟨(some 69), none, .mv (.t 6)⟩), (.o, ⟨(some 70), none, .mv (.t 7)⟩), (.o, ⟨(some 71), none, .bin .add (.t 70) (.c (.v (.int .i64 1)))⟩), (.o, ⟨(some 72), none, .ixs 3 (.t 69) (.t 71)⟩), (.o, ⟨(some 73), none, .load (some 3) (.t 72)⟩), (.o, ⟨(some 74), none, .load (some 3) (.t 9)⟩), (.m, ⟨(some 75), none, .call (.c (.fn 30 [])) [(.t 73), (.t 74)]⟩), (.o, ⟨(some 65), none, .mv (.t 75)⟩), (.o, ⟨(some 76), none, .ext 0 (.t 65)⟩), (.o, ⟨(some 77), none, .ext 1 (.t 65)⟩), (.o, ⟨(some 78), none, .ixs 3 (.t 66) (.t 68)⟩), (.o, ⟨none, none, .store 3 (.t 78) (.t 76)⟩), (.o, ⟨(some 11), none, .mv (.t 77)⟩)]) (.drop [12, 78]))
theorem g_fuglemanref14_All_0 {C : CT} {lf : Nat} {ks : List It} {s : St} : type_of% (@Sym.go_as C lf ks s _ _ c_fuglemanref14_All_0.eq_1) := Sym.go_as c_fuglemanref14_All_0.eq_1
def c_fuglemanref14_All_1 : AC :=
 (.seq (.regm [(.o, ⟨(some 91), none, .mv (.t 6)⟩), (.o, ⟨(some 92), none, .fad 3 (.t 8)⟩), (.o, ⟨(some 93), none, .load none (.t 92)⟩), (.o, ⟨(some 94), none, .mv (.t 6)⟩), (.o, ⟨(some 95), none, .fad 3 (.t 8)⟩), (.o, ⟨(some 96), none, .load none (.t 95)⟩), (.o, ⟨(some 97), none, .ixs 3 (.t 94) (.t 96)⟩), (.o, ⟨(some 98), none, .load (some 3) (.t 97)⟩), (.o, ⟨(some 99), none, .load (some 3) (.t 9)⟩), (.m, ⟨(some 100), none, .call (.c (.fn 30 [])) [(.t 98), (.t 99)]⟩), (.o, ⟨(some 90), none, .mv (.t 100)⟩), (.o, ⟨(some 101), none, .ext 0 (.t 90)⟩), (.o, ⟨(some 102), none, .ext 1 (.t 90)⟩), (.o, ⟨(some 103), none, .ixs 3 (.t 91) (.t 93)⟩), (.o, ⟨none, none, .store 3 (.t 103) (.t 101)⟩), (.o, ⟨(some 11), none, .mv (.t 102)⟩)]) (.drop [12, 103]))
theorem g_fuglemanref14_All_1 {C : CT} {lf : Nat} {ks : List It} {s : St} : type_of% (@Sym.go_as C lf ks s _ _ c_fuglemanref14_All_1.eq_1) := Sym.go_as c_fuglemanref14_All_1.eq_1
def l_fuglemanref14_All_0 : AC :=
 (.seq (.seq (.seq (.reg [⟨(some 23), none, .mv (.t 7)⟩, ⟨(some 24), none, .mv (.t 5)⟩, ⟨(some 25), none, .bin .lss (.t 23) (.t 24)⟩]) (.drop [8, 24]))
  (.cond (.t 25) .skip
   (.exit 0)))
 (.seq (.block 1 (.seq (.seq (.reg [⟨(some 28), none, .mv (.t 0)⟩, ⟨(some 29), none, .mv (.t 7)⟩, ⟨(some 30), none, .ixs 5 (.t 28) (.t 29)⟩, ⟨(some 31), none, .load (some 5) (.t 30)⟩, ⟨(some 8), none, .alloc [(.v (.int .i64 0)), (.v (.int .i64 0)), (.v (.int .i64 0)), (.v (.int .i64 0)), (.v (.int .i64 0))]⟩, ⟨none, none, .store 5 (.t 8) (.t 31)⟩]) (.drop [9, 31]))
    (.seq (.seq (.seq (.reg [⟨(some 32), none, .load (some 5) (.t 8)⟩, ⟨(some 33), none, .call (.c (.fn 28 [])) [(.t 32)]⟩, ⟨(some 34), none, .un .not (.t 33)⟩]) (.drop [9, 33]))
      (.cond (.t 34) (.seq (.seq (.reg [⟨(some 35), none, .mv (.t 7)⟩, ⟨(some 2), none, .mv (.c (.v (.slice none 0 0)))⟩, ⟨(some 3), none, .mv (.c (.v (.int .i64 3)))⟩, ⟨(some 4), none, .mv (.t 35)⟩]) (.drop [5, 35]))
        .ret)
       .skip))
     (.seq (.seq (.seq (.reg [⟨(some 36), none, .mv (.t 6)⟩, ⟨(some 37), none, .mv (.t 7)⟩, ⟨(some 38), none, .ixs 3 (.t 36) (.t 37)⟩, ⟨(some 39), none, .fad 0 (.t 38)⟩, ⟨(some 40), none, .load none (.t 39)⟩, ⟨(some 41), none, .un .not (.t 40)⟩]) (.drop [9, 40]))
       (.cond (.t 41) (.exit 1)
        .skip))
      (.seq (.seq (.regx (.op .o ⟨(some 43), none, .load (some 5) (.t 8)⟩
          (.op .o ⟨(some 44), none, .mv (.t 7)⟩
           (.op .o ⟨(some 45), none, .mv (.t 5)⟩
            (.op .o ⟨(some 46), none, .mv (.t 6)⟩
             (.op .o ⟨(some 47), none, .mv (.t 7)⟩
              (.op .o ⟨(some 48), none, .ixs 3 (.t 46) (.t 47)⟩
               (.op .o ⟨(some 49), none, .load (some 3) (.t 48)⟩
                (.alt (.op .m ⟨(some 50), none, .call (.c (.fn 29 [])) [(.t 43), (.t 44), (.t 45), (.t 49)]⟩
                  (.op .o ⟨(some 42), none, .mv (.t 50)⟩
                   (.op .o ⟨(some 51), none, .ext 0 (.t 42)⟩
                    (.op .o ⟨(some 52), none, .ext 1 (.t 42)⟩
                     (.op .o ⟨(some 9), none, .alloc [(.v (.bool false)), (.v (.int .i64 0)), (.v (.string ⟨#[]⟩))]⟩
                      (.op .o ⟨none, none, .store 3 (.t 9) (.t 51)⟩
                       (.op .o ⟨(some 10), none, .mv (.t 52)⟩
                        .nil)))))))
                 (.op .o ⟨(some 9), none, .alloc [(.v (.bool false)), (.v (.int .i64 0)), (.v (.string ⟨#[]⟩))]⟩
                  (.op .m ⟨(some 50), none, .call (.c (.fn 29 [])) [(.t 43), (.t 44), (.t 45), (.t 49)]⟩
                   (.op .o ⟨(some 42), none, .mv (.t 50)⟩
                    (.op .o ⟨(some 51), none, .ext 0 (.t 42)⟩
                     (.op .o ⟨(some 52), none, .ext 1 (.t 42)⟩
                      (.op .o ⟨none, none, .store 3 (.t 9) (.t 51)⟩
                       (.op .o ⟨(some 10), none, .mv (.t 52)⟩
                        .nil)))))))))))))))) (.drop [11, 52]))
       (.seq (.seq (.seq (.reg [⟨(some 53), none, .mv (.t 10)⟩, ⟨(some 54), none, .bin .neq (.t 53) (.c (.v (.int .i64 0)))⟩]) (.drop [11, 53]))
         (.cond (.t 54) (.seq (.seq (.reg [⟨(some 55), none, .mv (.t 10)⟩, ⟨(some 56), none, .mv (.t 7)⟩, ⟨(some 2), none, .mv (.c (.v (.slice none 0 0)))⟩, ⟨(some 3), none, .mv (.t 55)⟩, ⟨(some 4), none, .mv (.t 56)⟩]) (.drop [5, 56]))
           .ret)
          .skip))
        (.seq (.seq (.reg [⟨(some 11), none, .mv (.c (.v (.bool true)))⟩]) (.drop []))
         (.seq (.seq (.seq (.reg [⟨(some 57), none, .fad 0 (.t 8)⟩, ⟨(some 58), none, .load none (.t 57)⟩, ⟨(some 59), none, .bin .neq (.t 58) (.c (.v (.int .i64 25)))⟩, ⟨(some 60), none, .mv (.t 59)⟩, ⟨(some 61), (some (60, true)), .fad 0 (.t 8)⟩, ⟨(some 62), (some (60, true)), .load none (.t 61)⟩, ⟨(some 63), (some (60, true)), .bin .neq (.t 62) (.c (.v (.int .i64 28)))⟩, ⟨(some 64), none, .pick (.t 60) (.t 63) (.c (.v (.bool false)))⟩]) (.drop [12, 63]))
           (.cond (.t 64) c_fuglemanref14_All_0
            .skip))
          (.seq (.seq (.seq (.reg [⟨(some 79), none, .mv (.t 11)⟩, ⟨(some 80), none, .mv (.t 79)⟩, ⟨(some 81), (some (80, true)), .fad 0 (.t 8)⟩, ⟨(some 82), (some (80, true)), .load none (.t 81)⟩, ⟨(some 83), (some (80, true)), .bin .geq (.t 82) (.c (.v (.int .i64 25)))⟩, ⟨(some 84), none, .pick (.t 80) (.t 83) (.c (.v (.bool false)))⟩, ⟨(some 85), none, .mv (.t 84)⟩, ⟨(some 86), (some (85, true)), .fad 0 (.t 8)⟩, ⟨(some 87), (some (85, true)), .load none (.t 86)⟩, ⟨(some 88), (some (85, true)), .bin .leq (.t 87) (.c (.v (.int .i64 27)))⟩, ⟨(some 89), none, .pick (.t 85) (.t 88) (.c (.v (.bool false)))⟩]) (.drop [12, 88]))
            (.cond (.t 89) c_fuglemanref14_All_1
             .skip))
           (.seq (.seq (.reg [⟨(some 104), none, .mv (.t 11)⟩, ⟨(some 105), none, .un .not (.t 104)⟩]) (.drop [8, 104]))
            (.cond (.t 105) (.seq (.seq (.reg [⟨(some 106), none, .mv (.t 7)⟩, ⟨(some 2), none, .mv (.c (.v (.slice none 0 0)))⟩, ⟨(some 3), none, .mv (.c (.v (.int .i64 7)))⟩, ⟨(some 4), none, .mv (.t 106)⟩]) (.drop [5, 106]))
              .ret)
             .skip)))))))))))
  (.seq (.reg [⟨(some 26), none, .mv (.t 7)⟩, ⟨(some 27), none, .bin .add (.t 26) (.c (.v (.int .i64 1)))⟩, ⟨(some 7), none, .mv (.t 27)⟩]) (.drop [8, 27]))))
theorem gs_fuglemanref14_All : type_of% (And.intro (@g_fuglemanref14_All_0) (@g_fuglemanref14_All_1)) := (And.intro (@g_fuglemanref14_All_0) (@g_fuglemanref14_All_1))
def b_fuglemanref14_All : AC :=
 (.seq (.seq (.reg [⟨(some 2), none, .mv (.c (.v (.slice none 0 0)))⟩, ⟨(some 3), none, .mv (.c (.v (.int .i64 0)))⟩, ⟨(some 4), none, .mv (.c (.v (.int .i64 0)))⟩]) (.drop [1, 4]))
 (.seq (.seq (.seq (.reg [⟨(some 12), none, .mv (.t 0)⟩, ⟨(some 13), none, .len (.t 12)⟩, ⟨(some 14), none, .bin .gtr (.t 13) (.c (.v (.int .i64 200)))⟩]) (.drop [1, 13]))
   (.cond (.t 14) (.seq (.seq (.reg [⟨(some 2), none, .mv (.c (.v (.slice none 0 0)))⟩, ⟨(some 3), none, .mv (.c (.v (.int .i64 2)))⟩, ⟨(some 4), none, .mv (.c (.v (.int .i64 200)))⟩]) (.drop []))
     .ret)
    .skip))
  (.seq (.seq (.reg [⟨(some 15), none, .mv (.t 0)⟩, ⟨(some 16), none, .len (.t 15)⟩, ⟨(some 5), none, .mv (.t 16)⟩]) (.drop [6, 16]))
   (.seq (.seq (.reg [⟨(some 17), none, .mv (.t 5)⟩, ⟨(some 18), none, .bin .add (.t 17) (.c (.v (.int .i64 1)))⟩, ⟨(some 19), none, .mks 3 32 [(.v (.bool false)), (.v (.int .i64 0)), (.v (.string ⟨#[]⟩))] (.t 18) (.t 18)⟩, ⟨(some 6), none, .mv (.t 19)⟩]) (.drop [7, 19]))
    (.seq (.seq (.reg [⟨(some 20), none, .mv (.t 6)⟩, ⟨(some 21), none, .ixs 3 (.t 20) (.c (.v (.int .i64 0)))⟩, ⟨(some 22), none, .fad 0 (.t 21)⟩, ⟨none, none, .store 1 (.t 22) (.c (.v (.bool true)))⟩]) (.drop [7, 22]))
     (.seq (.seq (.seq (.reg [⟨(some 7), none, .mv (.c (.v (.int .i64 0)))⟩]) (.drop []))
       (.block 0 (.loop [0, 5, 6, 7] l_fuglemanref14_All_0)))
      l_fuglemanref14_All_1))))))
def a_fuglemanref14_All : AFn := ⟨1, b_fuglemanref14_All, [.t 2, .t 3, .t 4], false, false⟩
theorem a_fuglemanref14_All_ok : compF Try.prog Try.f18 [[1, 4], [1, 13], [], [6, 16], [7, 19], [7, 22], [], [0, 5, 6, 7], [8, 24], [9, 31], [9, 33], [5, 35], [9, 40], [11, 52], [11, 53], [5, 56], [], [12, 63], [12, 78], [12, 88], [12, 103], [8, 104], [5, 106], [8, 27], [7, 118], [5, 120], [5, 121]] false false hv = some a_fuglemanref14_All := by kernel_rfl

/-! (*fugleman/vm.Program).Code: 19 -/
def b_vm_Program_Code : AC :=
 (.seq (.seq (.reg [⟨(some 2), none, .mv (.c (.v (.slice none 0 0)))⟩]) (.drop [1, 2]))
 (.seq (.seq (.seq (.reg [⟨(some 3), none, .mv (.t 0)⟩, ⟨(some 4), none, .eqp false (.t 3) (.c (.v (.pointer none)))⟩]) (.drop [1, 3]))
   (.cond (.t 4) (.seq (.seq (.reg [⟨(some 2), none, .mv (.c (.v (.slice none 0 0)))⟩]) (.drop []))
     .ret)
    .skip))
  (.seq (.seq (.reg [⟨(some 5), none, .mv (.t 0)⟩, ⟨(some 6), none, .nilck (.t 5)⟩, ⟨(some 7), none, .fad 0 (.t 6)⟩, ⟨(some 8), none, .load none (.t 7)⟩, ⟨(some 9), none, .call (.c (.fn 22 [])) [(.t 8)]⟩, ⟨(some 2), none, .mv (.t 9)⟩]) (.drop [3, 9]))
   .ret)))
def a_vm_Program_Code : AFn := ⟨1, b_vm_Program_Code, [.t 2], false, false⟩
theorem a_vm_Program_Code_ok : compF Try.prog Try.f19 [[1, 2], [1, 3], [], [3, 9]] false false hv = some a_vm_Program_Code := by kernel_rfl

/-! fugleman/fuglemanref12.Same: 20 -/
def l_fuglemanref12_Same_1 : AC :=
 (.seq (.seq (.reg [⟨(some 4), none, .mv (.c (.v (.bool true)))⟩]) (.drop []))
 .ret)
def l_fuglemanref12_Same_0 : AC :=
 (.seq (.seq (.seq (.reg [⟨(some 11), none, .mv (.t 5)⟩, ⟨(some 12), none, .mv (.t 0)⟩, ⟨(some 13), none, .len (.t 12)⟩, ⟨(some 14), none, .bin .lss (.t 11) (.t 13)⟩]) (.drop [6, 13]))
  (.cond (.t 14) .skip
   (.exit 0)))
 (.seq (.block 1 (.seq (.seq (.regq [⟨(some 17), none, .mv (.t 0)⟩, ⟨(some 18), none, .mv (.t 5)⟩, ⟨(some 19), none, .ixs 5 (.t 17) (.t 18)⟩, ⟨(some 20), none, .load (some 5) (.t 19)⟩, ⟨(some 21), none, .mv (.t 1)⟩, ⟨(some 22), none, .mv (.t 5)⟩, ⟨(some 23), none, .ixs 5 (.t 21) (.t 22)⟩, ⟨(some 24), none, .load (some 5) (.t 23)⟩, ⟨(some 25), none, .eqst true [(0, .i), (1, .i), (2, .i), (3, .i), (4, .i)] (.t 20) (.t 24)⟩]) (.drop [6, 24]))
    (.cond (.t 25) (.seq (.seq (.reg [⟨(some 4), none, .mv (.c (.v (.bool false)))⟩]) (.drop []))
      .ret)
     .skip)))
  (.seq (.reg [⟨(some 15), none, .mv (.t 5)⟩, ⟨(some 16), none, .bin .add (.t 15) (.c (.v (.int .i64 1)))⟩, ⟨(some 5), none, .mv (.t 16)⟩]) (.drop [6, 16]))))
def b_fuglemanref12_Same : AC :=
 (.seq (.seq (.reg [⟨(some 4), none, .mv (.c (.v (.bool false)))⟩]) (.drop [2, 4]))
 (.seq (.seq (.seq (.reg [⟨(some 6), none, .mv (.t 0)⟩, ⟨(some 7), none, .len (.t 6)⟩, ⟨(some 8), none, .mv (.t 1)⟩, ⟨(some 9), none, .len (.t 8)⟩, ⟨(some 10), none, .bin .neq (.t 7) (.t 9)⟩]) (.drop [2, 9]))
   (.cond (.t 10) (.seq (.seq (.reg [⟨(some 4), none, .mv (.c (.v (.bool false)))⟩]) (.drop []))
     .ret)
    .skip))
  (.seq (.seq (.seq (.reg [⟨(some 5), none, .mv (.c (.v (.int .i64 0)))⟩]) (.drop []))
    (.block 0 (.loop [0, 1, 5] l_fuglemanref12_Same_0)))
   l_fuglemanref12_Same_1)))
def a_fuglemanref12_Same : AFn := ⟨2, b_fuglemanref12_Same, [.t 4], false, false⟩
theorem a_fuglemanref12_Same_ok : compF Try.prog Try.f20 [[2, 4], [2, 9], [], [], [0, 1, 5], [6, 13], [6, 24], [], [6, 16], []] false false hv = some a_fuglemanref12_Same := by kernel_rfl

/-! fugleman/fuglemanlaw15.VmLoads: 7 -/
def c_fuglemanlaw15_VmLoads_0 : AC :=
 (.seq (.seq (.reg [⟨(some 46), none, .mv (.t 3)⟩, ⟨(some 47), none, .build [(.v (.string ⟨#[]⟩)), (.v (.string ⟨#[]⟩)), (.v (.string ⟨#[]⟩)), (.v (.string ⟨#[]⟩))] [(0, 1, (.c (.v (.string ⟨#[97, 98]⟩))))]⟩, ⟨(some 48), none, .call (.c (.fn 11 [])) [(.t 46), (.t 47), (.c (.v (.int .i64 5)))]⟩, ⟨(some 45), none, .mv (.t 48)⟩, ⟨(some 49), none, .ext 0 (.t 45)⟩, ⟨(some 50), none, .ext 1 (.t 45)⟩, ⟨(some 9), none, .alloc [(.v (.string ⟨#[]⟩)), (.v (.string ⟨#[]⟩)), (.v (.string ⟨#[]⟩)), (.v (.string ⟨#[]⟩))]⟩, ⟨(some 10), none, .alloc [(.v (.int .i64 0)), (.v (.int .i64 0)), (.v (.int .i64 0)), (.v (.int .i64 0))]⟩, ⟨none, none, .store 4 (.t 9) (.t 49)⟩, ⟨none, none, .store 4 (.t 10) (.t 50)⟩]) (.drop [11, 50]))
          (.seq (.seq (.regq [⟨(some 51), none, .mv (.t 3)⟩, ⟨(some 52), none, .call (.c (.fn 19 [])) [(.t 51)]⟩, ⟨(some 53), none, .len (.t 52)⟩, ⟨(some 54), none, .bin .eql (.t 53) (.c (.v (.int .i64 0)))⟩, ⟨(some 55), none, .mv (.t 54)⟩, ⟨(some 56), (some (55, true)), .load (some 4) (.t 10)⟩, ⟨(some 57), (some (55, true)), .build [(.v (.int .i64 0)), (.v (.int .i64 0)), (.v (.int .i64 0)), (.v (.int .i64 0))] []⟩, ⟨(some 58), (some (55, true)), .eqst false [(0, .i), (1, .i), (2, .i), (3, .i)] (.t 56) (.t 57)⟩, ⟨(some 59), none, .pick (.t 55) (.t 58) (.c (.v (.bool false)))⟩, ⟨(some 60), none, .mv (.t 59)⟩, ⟨(some 61), (some (60, true)), .load (some 4) (.t 9)⟩, ⟨(some 62), (some (60, true)), .build [(.v (.string ⟨#[]⟩)), (.v (.string ⟨#[]⟩)), (.v (.string ⟨#[]⟩)), (.v (.string ⟨#[]⟩))] [(0, 1, (.c (.v (.string ⟨#[97, 98]⟩))))]⟩, ⟨(some 63), (some (60, true)), .call (.c (.fn 14 [])) [(.t 62)]⟩, ⟨(some 64), (some (60, true)), .eqst false [(0, .s), (1, .s), (2, .s), (3, .s)] (.t 61) (.t 63)⟩, ⟨(some 65), none, .pick (.t 60) (.t 64) (.c (.v (.bool false)))⟩, ⟨(some 2), none, .mv (.t 65)⟩]) (.drop [3, 65]))
           .ret))
theorem g_fuglemanlaw15_VmLoads_0 {C : CT} {lf : Nat} {ks : List It} {s : St} : type_of% (@Sym.go_as C lf ks s _ _ c_fuglemanlaw15_VmLoads_0.eq_1) := Sym.go_as c_fuglemanlaw15_VmLoads_0.eq_1
def b_fuglemanlaw15_VmLoads : AC :=
 (.seq (.seq (.reg [⟨(some 2), none, .mv (.c (.v (.bool false)))⟩]) (.drop [1, 2]))
 (.seq (.seq (.seq (.reg [⟨(some 11), none, .call (.c (.fn 8 [])) []⟩, ⟨(some 12), none, .un .not (.t 11)⟩]) (.drop [1, 11]))
   (.cond (.t 12) (.seq (.seq (.reg [⟨(some 2), none, .mv (.c (.v (.bool false)))⟩]) (.drop []))
     .ret)
    .skip))
  (.seq (.seq (.seq (.reg [⟨(some 13), none, .mv (.t 0)⟩, ⟨(some 14), none, .len (.t 13)⟩, ⟨(some 15), none, .bin .gtr (.t 14) (.c (.v (.int .i64 210)))⟩]) (.drop [1, 14]))
    (.cond (.t 15) (.seq (.seq (.reg [⟨(some 2), none, .mv (.c (.v (.bool true)))⟩]) (.drop []))
      .ret)
     .skip))
   (.seq (.seq (.reg [⟨(some 17), none, .mv (.t 0)⟩, ⟨(some 18), none, .call (.c (.fn 10 [])) [(.t 17)]⟩, ⟨(some 16), none, .mv (.t 18)⟩, ⟨(some 19), none, .ext 0 (.t 16)⟩, ⟨(some 20), none, .ext 1 (.t 16)⟩, ⟨(some 21), none, .ext 2 (.t 16)⟩, ⟨(some 3), none, .mv (.t 19)⟩, ⟨(some 4), none, .mv (.t 20)⟩, ⟨(some 5), none, .mv (.t 21)⟩]) (.drop [6, 21]))
    (.seq (.seq (.reg [⟨(some 23), none, .mv (.t 0)⟩, ⟨(some 24), none, .call (.c (.fn 18 [])) [(.t 23)]⟩, ⟨(some 22), none, .mv (.t 24)⟩, ⟨(some 25), none, .ext 0 (.t 22)⟩, ⟨(some 26), none, .ext 1 (.t 22)⟩, ⟨(some 27), none, .ext 2 (.t 22)⟩, ⟨(some 6), none, .mv (.t 25)⟩, ⟨(some 7), none, .mv (.t 26)⟩, ⟨(some 8), none, .mv (.t 27)⟩]) (.drop [6, 6, 9, 27]))
     (.seq (.seq (.seq (.reg [⟨(some 28), none, .mv (.t 4)⟩, ⟨(some 29), none, .mv (.t 7)⟩, ⟨(some 30), none, .bin .neq (.t 28) (.t 29)⟩, ⟨(some 31), none, .mv (.t 30)⟩, ⟨(some 32), (some (31, false)), .mv (.t 5)⟩, ⟨(some 33), (some (31, false)), .mv (.t 8)⟩, ⟨(some 34), (some (31, false)), .bin .neq (.t 32) (.t 33)⟩, ⟨(some 35), none, .pick (.t 31) (.c (.v (.bool true))) (.t 34)⟩, ⟨(some 36), none, .mv (.t 35)⟩, ⟨(some 37), (some (36, false)), .mv (.t 3)⟩, ⟨(some 38), (some (36, false)), .eqp true (.t 37) (.c (.v (.pointer none)))⟩, ⟨(some 39), (some (36, false)), .mv (.t 7)⟩, ⟨(some 40), (some (36, false)), .bin .eql (.t 39) (.c (.v (.int .i64 0)))⟩, ⟨(some 41), (some (36, false)), .eqb true (.t 38) (.t 40)⟩, ⟨(some 42), none, .pick (.t 36) (.c (.v (.bool true))) (.t 41)⟩]) (.drop [8, 41]))
       (.cond (.t 42) (.seq (.seq (.reg [⟨(some 2), none, .mv (.c (.v (.bool false)))⟩]) (.drop []))
         .ret)
        .skip))
      (.seq (.seq (.seq (.reg [⟨(some 43), none, .mv (.t 7)⟩, ⟨(some 44), none, .bin .neq (.t 43) (.c (.v (.int .i64 0)))⟩]) (.drop [4, 43]))
        (.cond (.t 44) c_fuglemanlaw15_VmLoads_0
         .skip))
       (.seq (.seq (.reg [⟨(some 66), none, .mv (.t 3)⟩, ⟨(some 67), none, .call (.c (.fn 19 [])) [(.t 66)]⟩, ⟨(some 68), none, .mv (.t 0)⟩, ⟨(some 69), none, .call (.c (.fn 20 [])) [(.t 67), (.t 68)]⟩, ⟨(some 2), none, .mv (.t 69)⟩]) (.drop [3, 69]))
        .ret))))))))
def a_fuglemanlaw15_VmLoads : AFn := ⟨1, b_fuglemanlaw15_VmLoads, [.t 2], false, false⟩
theorem a_fuglemanlaw15_VmLoads_ok : compF Try.prog Try.f7 [[1, 2], [1, 11], [], [1, 14], [], [6, 21], [6, 6, 9, 27], [8, 41], [], [4, 43], [11, 50], [3, 65], [3, 69]] false false hv = some a_fuglemanlaw15_VmLoads := by kernel_rfl

def tab : Nat → Option AFn
  | 99 => some a_il_ops
  | 73 => some a_il_of
  | 103 => some a_iec_kinds
  | 90 => some a_iec_of
  | 56 => some a_iec_Wrap
  | 74 => some a_iec_Is
  | 76 => some a_iec_Size
  | 75 => some a_il_stands
  | 77 => some a_il_within
  | 78 => some a_il_keeps
  | 47 => some a_il_Right
  | 48 => some a_verify_jumps
  | 79 => some a_verify_ahead_with
  | 80 => some a_verify_must
  | 86 => some a_iec_May
  | 81 => some a_verify_logic
  | 82 => some a_verify_ahead_ret
  | 100 => some a_verify_bracket_100
  | 83 => some a_verify_ahead_push
  | 85 => some a_verify_made
  | 84 => some a_verify_ahead_pop
  | 49 => some a_verify_ahead_behind
  | 50 => some a_verify_on
  | 87 => some a_verify_bracket_87
  | 51 => some a_verify_table_lead
  | 31 => some a_verify_all
  | 21 => some a_verify_Check
  | 10 => some a_vm_Load
  | 26 => some a_vm_area
  | 14 => some a_vm_Fit
  | 52 => some a_vm_value_is
  | 32 => some a_vm_run_leaves
  | 102 => some a_iec_there
  | 101 => some a_iec_Get
  | 88 => some a_vm_run_get
  | 53 => some a_vm_run_operand
  | 54 => some a_iec_Not
  | 89 => some a_iec_Put
  | 55 => some a_vm_run_put
  | 107 => some a_iec_quotient
  | 108 => some a_iec_yes
  | 104 => some a_iec_raw
  | 91 => some a_iec_Do
  | 57 => some a_vm_run_do
  | 60 => some a_vm_truth
  | 58 => some a_vm_run_timer
  | 61 => some a_vm_run_rises
  | 59 => some a_vm_run_counter
  | 33 => some a_vm_run_step
  | 23 => some a_vm_run_all
  | 11 => some a_vm_Program_Run
  | 17 => some a_vm_Blank
  | 8 => some a_fuglemanlaw15_awake
  | 27 => some a_fuglemanref11_Size
  | 63 => some a_fuglemanref11_many
  | 66 => some a_fuglemanref11_least
  | 42 => some a_fuglemanref11_Is
  | 46 => some a_fuglemanref11_May
  | 41 => some a_fuglemanref12_reads
  | 43 => some a_fuglemanref12_writes
  | 44 => some a_fuglemanref11_There
  | 28 => some a_fuglemanref12_Right
  | 45 => some a_fuglemanref14_logic
  | 29 => some a_fuglemanref14_behind
  | 30 => some a_fuglemanref14_join
  | 18 => some a_fuglemanref14_All
  | 19 => some a_vm_Program_Code
  | 20 => some a_fuglemanref12_Same
  | 7 => some a_fuglemanlaw15_VmLoads
  | _ => none
noncomputable def T : Tb := ⟨tab, Ext.ext⟩
theorem tableOK : TableOK Try.prog T := by
  refine ⟨fun f fn h => ?_, Ext.ext_ok⟩
  change tab f = some fn at h
  unfold tab at h
  split at h
  · cases h; exact ⟨_, _, _, _, _, Try.func99, a_il_ops_ok⟩
  · cases h; exact ⟨_, _, _, _, _, Try.func73, a_il_of_ok⟩
  · cases h; exact ⟨_, _, _, _, _, Try.func103, a_iec_kinds_ok⟩
  · cases h; exact ⟨_, _, _, _, _, Try.func90, a_iec_of_ok⟩
  · cases h; exact ⟨_, _, _, _, _, Try.func56, a_iec_Wrap_ok⟩
  · cases h; exact ⟨_, _, _, _, _, Try.func74, a_iec_Is_ok⟩
  · cases h; exact ⟨_, _, _, _, _, Try.func76, a_iec_Size_ok⟩
  · cases h; exact ⟨_, _, _, _, _, Try.func75, a_il_stands_ok⟩
  · cases h; exact ⟨_, _, _, _, _, Try.func77, a_il_within_ok⟩
  · cases h; exact ⟨_, _, _, _, _, Try.func78, a_il_keeps_ok⟩
  · cases h; exact ⟨_, _, _, _, _, Try.func47, a_il_Right_ok⟩
  · cases h; exact ⟨_, _, _, _, _, Try.func48, a_verify_jumps_ok⟩
  · cases h; exact ⟨_, _, _, _, _, Try.func79, a_verify_ahead_with_ok⟩
  · cases h; exact ⟨_, _, _, _, _, Try.func80, a_verify_must_ok⟩
  · cases h; exact ⟨_, _, _, _, _, Try.func86, a_iec_May_ok⟩
  · cases h; exact ⟨_, _, _, _, _, Try.func81, a_verify_logic_ok⟩
  · cases h; exact ⟨_, _, _, _, _, Try.func82, a_verify_ahead_ret_ok⟩
  · cases h; exact ⟨_, _, _, _, _, Try.func100, a_verify_bracket_100_ok⟩
  · cases h; exact ⟨_, _, _, _, _, Try.func83, a_verify_ahead_push_ok⟩
  · cases h; exact ⟨_, _, _, _, _, Try.func85, a_verify_made_ok⟩
  · cases h; exact ⟨_, _, _, _, _, Try.func84, a_verify_ahead_pop_ok⟩
  · cases h; exact ⟨_, _, _, _, _, Try.func49, a_verify_ahead_behind_ok⟩
  · cases h; exact ⟨_, _, _, _, _, Try.func50, a_verify_on_ok⟩
  · cases h; exact ⟨_, _, _, _, _, Try.func87, a_verify_bracket_87_ok⟩
  · cases h; exact ⟨_, _, _, _, _, Try.func51, a_verify_table_lead_ok⟩
  · cases h; exact ⟨_, _, _, _, _, Try.func31, a_verify_all_ok⟩
  · cases h; exact ⟨_, _, _, _, _, Try.func21, a_verify_Check_ok⟩
  · cases h; exact ⟨_, _, _, _, _, Try.func10, a_vm_Load_ok⟩
  · cases h; exact ⟨_, _, _, _, _, Try.func26, a_vm_area_ok⟩
  · cases h; exact ⟨_, _, _, _, _, Try.func14, a_vm_Fit_ok⟩
  · cases h; exact ⟨_, _, _, _, _, Try.func52, a_vm_value_is_ok⟩
  · cases h; exact ⟨_, _, _, _, _, Try.func32, a_vm_run_leaves_ok⟩
  · cases h; exact ⟨_, _, _, _, _, Try.func102, a_iec_there_ok⟩
  · cases h; exact ⟨_, _, _, _, _, Try.func101, a_iec_Get_ok⟩
  · cases h; exact ⟨_, _, _, _, _, Try.func88, a_vm_run_get_ok⟩
  · cases h; exact ⟨_, _, _, _, _, Try.func53, a_vm_run_operand_ok⟩
  · cases h; exact ⟨_, _, _, _, _, Try.func54, a_iec_Not_ok⟩
  · cases h; exact ⟨_, _, _, _, _, Try.func89, a_iec_Put_ok⟩
  · cases h; exact ⟨_, _, _, _, _, Try.func55, a_vm_run_put_ok⟩
  · cases h; exact ⟨_, _, _, _, _, Try.func107, a_iec_quotient_ok⟩
  · cases h; exact ⟨_, _, _, _, _, Try.func108, a_iec_yes_ok⟩
  · cases h; exact ⟨_, _, _, _, _, Try.func104, a_iec_raw_ok⟩
  · cases h; exact ⟨_, _, _, _, _, Try.func91, a_iec_Do_ok⟩
  · cases h; exact ⟨_, _, _, _, _, Try.func57, a_vm_run_do_ok⟩
  · cases h; exact ⟨_, _, _, _, _, Try.func60, a_vm_truth_ok⟩
  · cases h; exact ⟨_, _, _, _, _, Try.func58, a_vm_run_timer_ok⟩
  · cases h; exact ⟨_, _, _, _, _, Try.func61, a_vm_run_rises_ok⟩
  · cases h; exact ⟨_, _, _, _, _, Try.func59, a_vm_run_counter_ok⟩
  · cases h; exact ⟨_, _, _, _, _, Try.func33, a_vm_run_step_ok⟩
  · cases h; exact ⟨_, _, _, _, _, Try.func23, a_vm_run_all_ok⟩
  · cases h; exact ⟨_, _, _, _, _, Try.func11, a_vm_Program_Run_ok⟩
  · cases h; exact ⟨_, _, _, _, _, Try.func17, a_vm_Blank_ok⟩
  · cases h; exact ⟨_, _, _, _, _, Try.func8, a_fuglemanlaw15_awake_ok⟩
  · cases h; exact ⟨_, _, _, _, _, Try.func27, a_fuglemanref11_Size_ok⟩
  · cases h; exact ⟨_, _, _, _, _, Try.func63, a_fuglemanref11_many_ok⟩
  · cases h; exact ⟨_, _, _, _, _, Try.func66, a_fuglemanref11_least_ok⟩
  · cases h; exact ⟨_, _, _, _, _, Try.func42, a_fuglemanref11_Is_ok⟩
  · cases h; exact ⟨_, _, _, _, _, Try.func46, a_fuglemanref11_May_ok⟩
  · cases h; exact ⟨_, _, _, _, _, Try.func41, a_fuglemanref12_reads_ok⟩
  · cases h; exact ⟨_, _, _, _, _, Try.func43, a_fuglemanref12_writes_ok⟩
  · cases h; exact ⟨_, _, _, _, _, Try.func44, a_fuglemanref11_There_ok⟩
  · cases h; exact ⟨_, _, _, _, _, Try.func28, a_fuglemanref12_Right_ok⟩
  · cases h; exact ⟨_, _, _, _, _, Try.func45, a_fuglemanref14_logic_ok⟩
  · cases h; exact ⟨_, _, _, _, _, Try.func29, a_fuglemanref14_behind_ok⟩
  · cases h; exact ⟨_, _, _, _, _, Try.func30, a_fuglemanref14_join_ok⟩
  · cases h; exact ⟨_, _, _, _, _, Try.func18, a_fuglemanref14_All_ok⟩
  · cases h; exact ⟨_, _, _, _, _, Try.func19, a_vm_Program_Code_ok⟩
  · cases h; exact ⟨_, _, _, _, _, Try.func20, a_fuglemanref12_Same_ok⟩
  · cases h; exact ⟨_, _, _, _, _, Try.func7, a_fuglemanlaw15_VmLoads_ok⟩
  · cases h
theorem mixed : Try.prog.follows .mixedOrders = true := by kernel_rfl
theorem calls (k : Nat) : CallsOK Try.prog (acall T k) := acall_ok mixed tableOK k
end Go.Proofs.Ythkjiclplecljaa.Tab

/- Kinds, operations: the functions of packages iec and il that verify needs, and the document's. -/
namespace Go.Proofs.Ythkjiclplecljaa.Ver
open Go Go.Proofs.Ythkjiclplecljaa.Sym Go.Proofs.Ythkjiclplecljaa.Tab
set_option linter.unusedVariables false
set_option linter.unusedSimpArgs false
set_option maxHeartbeats 4000000
set_option maxRecDepth 20000
def kok (k : Int) : Bool := decide (1 ≤ k) && decide (k ≤ 7)
def ksz (k : Int) : Int := if k = 1 ∨ k = 2 then 1 else if k = 3 ∨ k = 5 ∨ k = 6 then 2 else if k = 4 ∨ k = 7 then 4 else 0
def kbt (k : Int) : Bool := k == 1 || k == 6 || k == 7
def ksg (k : Int) : Bool := k == 2 || k == 3 || k == 4
def kname (k : Int) : ByteArray := if k = 1 then ⟨#[66, 79, 79, 76]⟩ else if k = 2 then ⟨#[83, 73, 78, 84]⟩ else if k = 3 then ⟨#[73, 78, 84]⟩ else if k = 4 then ⟨#[68, 73, 78, 84]⟩ else if k = 5 then ⟨#[85, 73, 78, 84]⟩ else if k = 6 then ⟨#[87, 79, 82, 68]⟩ else if k = 7 then ⟨#[68, 87, 79, 82, 68]⟩ else ⟨#[]⟩
def kcells (k : Int) : List AV := [.v (.string (kname k)), .v (.int .i64 (ksz k)), .v (.bool (ksg k)), .v (.bool (kbt k))]
theorem seven {k : Int} (h : 1 ≤ k ∧ k ≤ 7) : k = 1 ∨ k = 2 ∨ k = 3 ∨ k = 4 ∨ k = 5 ∨ k = 6 ∨ k = 7 := by omega
theorem kno {n : Int} (h : ¬ (1 ≤ n ∧ n ≤ 7)) : ksz n = 0 ∧ ksg n = false ∧ kbt n = false ∧ kname n = ⟨#[]⟩ ∧ kok n = false := by
  have e : ∀ m : Int, 1 ≤ m → m ≤ 7 → n ≠ m := fun m h1 h2 e => h (by omega)
  refine ⟨?_, ?_, ?_, ?_, ?_⟩
  · unfold ksz; rw [if_neg (by omega), if_neg (by omega), if_neg (by omega)]
  · unfold ksg; simp [e]
  · unfold kbt; simp [e]
  · unfold kname; simp [e]
  · unfold kok; by_cases c : 1 ≤ n <;> simp <;> omega
theorem kyes {n : Int} (h : 1 ≤ n ∧ n ≤ 7) : kok n = true := by unfold kok; simp [h.1, h.2]
theorem kof_a (k : Nat) (n : Int) : acall T (k + 2) 90 0 [.v (.int .i64 n)] [] = some ⟨.tup [.agg (kcells n), .v (.bool (kok n))], [], 1⟩ := by
  by_cases h : 1 ≤ n ∧ n ≤ 7
  · rcases seven h with rfl | rfl | rfl | rfl | rfl | rfl | rfl <;> kernel_rfl
  · obtain ⟨h1, h2, h3, h4, h5⟩ := kno h
    rw [acall_go (body := b_iec_of) rfl rfl (Nat.zero_le _)]
    by_cases c1 : n < 1
    · simp -implicitDefEqProofs only [eqs, eqd, eqe, lh_some, ↓reduceIte, reduceCtorEq, Nat.reduceEqDiff, Nat.reduceAdd, Nat.reduceSub, Nat.reduceMul, Nat.reduceLT, Nat.reduceLeDiff, Nat.reduceBEq, Nat.reduceBNe, Nat.reduceGT, Int.reduceEq, Int.reduceLT, Int.reduceLE, Int.reduceToNat, Int.reduceAdd, Int.reduceSub, Int.reduceMul, Int.reduceNeg, Int.reduceBEq, Int.reduceBNe, b_iec_of, c1, kcells, h1, h2, h3, h4, h5]
    · have c2 : 7 < n := by omega
      simp -implicitDefEqProofs only [eqs, eqd, eqe, lh_some, ↓reduceIte, reduceCtorEq, Nat.reduceEqDiff, Nat.reduceAdd, Nat.reduceSub, Nat.reduceMul, Nat.reduceLT, Nat.reduceLeDiff, Nat.reduceBEq, Nat.reduceBNe, Nat.reduceGT, Int.reduceEq, Int.reduceLT, Int.reduceLE, Int.reduceToNat, Int.reduceAdd, Int.reduceSub, Int.reduceMul, Int.reduceNeg, Int.reduceBEq, Int.reduceBNe, b_iec_of, c1, c2, kcells, h1, h2, h3, h4, h5]
theorem ksize_a (k : Nat) (n : Int) : acall T (k + 3) 76 0 [.v (.int .i64 n)] [] = some ⟨.v (.int .i64 (ksz n)), [], 1⟩ := by
  rw [acall_go (body := b_iec_Size) rfl rfl (Nat.zero_le _)]
  have h := kof_a k n
  simp -implicitDefEqProofs only [eqs, eqd, eqe, lh_some, ↓reduceIte, reduceCtorEq, Nat.reduceEqDiff, Nat.reduceAdd, Nat.reduceSub, Nat.reduceMul, Nat.reduceLT, Nat.reduceLeDiff, Nat.reduceBEq, Nat.reduceBNe, Nat.reduceGT, Int.reduceEq, Int.reduceLT, Int.reduceLE, Int.reduceToNat, Int.reduceAdd, Int.reduceSub, Int.reduceMul, Int.reduceNeg, Int.reduceBEq, Int.reduceBNe, b_iec_Size, h, kcells]
theorem rsize_a (k : Nat) (n : Int) : acall T (k + 2) 27 0 [.v (.int .i64 n)] [] = some ⟨.v (.int .i64 (ksz n)), [], 1⟩ := by
  by_cases h : 1 ≤ n ∧ n ≤ 7
  · rcases seven h with rfl | rfl | rfl | rfl | rfl | rfl | rfl <;> kernel_rfl
  · obtain ⟨h1, h2, h3, h4, h5⟩ := kno h
    rw [acall_go (body := b_fuglemanref11_Size) rfl rfl (Nat.zero_le _)]
    by_cases c1 : n < 0
    · simp -implicitDefEqProofs only [eqs, eqd, eqe, lh_some, ↓reduceIte, reduceCtorEq, Nat.reduceEqDiff, Nat.reduceAdd, Nat.reduceSub, Nat.reduceMul, Nat.reduceLT, Nat.reduceLeDiff, Nat.reduceBEq, Nat.reduceBNe, Nat.reduceGT, Int.reduceEq, Int.reduceLT, Int.reduceLE, Int.reduceToNat, Int.reduceAdd, Int.reduceSub, Int.reduceMul, Int.reduceNeg, Int.reduceBEq, Int.reduceBNe, b_fuglemanref11_Size, c1, h1]
    · by_cases c2 : 7 < n
      · simp -implicitDefEqProofs only [eqs, eqd, eqe, lh_some, ↓reduceIte, reduceCtorEq, Nat.reduceEqDiff, Nat.reduceAdd, Nat.reduceSub, Nat.reduceMul, Nat.reduceLT, Nat.reduceLeDiff, Nat.reduceBEq, Nat.reduceBNe, Nat.reduceGT, Int.reduceEq, Int.reduceLT, Int.reduceLE, Int.reduceToNat, Int.reduceAdd, Int.reduceSub, Int.reduceMul, Int.reduceNeg, Int.reduceBEq, Int.reduceBNe, b_fuglemanref11_Size, c1, c2, h1]
      · obtain rfl : n = 0 := by omega
        simp -implicitDefEqProofs only [eqs, eqd, eqe, lh_some, ↓reduceIte, reduceCtorEq, Nat.reduceEqDiff, Nat.reduceAdd, Nat.reduceSub, Nat.reduceMul, Nat.reduceLT, Nat.reduceLeDiff, Nat.reduceBEq, Nat.reduceBNe, Nat.reduceGT, Int.reduceEq, Int.reduceLT, Int.reduceLE, Int.reduceToNat, Int.reduceAdd, Int.reduceSub, Int.reduceMul, Int.reduceNeg, Int.reduceBEq, Int.reduceBNe, b_fuglemanref11_Size, h1]
/-- May an operation be done with a kind? -/
def may (op k : Int) : Bool := kok k && (if 7 ≤ op ∧ op ≤ 13 then kbt k else if 14 ≤ op ∧ op ≤ 18 then !kbt k else decide (19 ≤ op) && decide (op ≤ 24))
theorem may_a (k : Nat) (op n : Int) : acall T (k + 3) 86 0 [.v (.int .i64 op), .v (.int .i64 n)] [] = some ⟨.v (.bool (may op n)), [], 1⟩ := by
  rw [acall_go (body := b_iec_May) rfl rfl (Nat.zero_le _)]
  have h := kof_a k n
  unfold may
  cases c0 : kok n
  · rw [c0] at h
    simp -implicitDefEqProofs only [eqs, eqd, eqe, lh_some, ↓reduceIte, reduceCtorEq, Nat.reduceEqDiff, Nat.reduceAdd, Nat.reduceSub, Nat.reduceMul, Nat.reduceLT, Nat.reduceLeDiff, Nat.reduceBEq, Nat.reduceBNe, Nat.reduceGT, Int.reduceEq, Int.reduceLT, Int.reduceLE, Int.reduceToNat, Int.reduceAdd, Int.reduceSub, Int.reduceMul, Int.reduceNeg, Int.reduceBEq, Int.reduceBNe, b_iec_May, gs_iec_May, h, kcells]
  · rw [c0] at h
    by_cases c1 : 7 ≤ op
    · by_cases c2 : op ≤ 13
      · simp -implicitDefEqProofs only [eqs, eqd, eqe, lh_some, ↓reduceIte, reduceCtorEq, Nat.reduceEqDiff, Nat.reduceAdd, Nat.reduceSub, Nat.reduceMul, Nat.reduceLT, Nat.reduceLeDiff, Nat.reduceBEq, Nat.reduceBNe, Nat.reduceGT, Int.reduceEq, Int.reduceLT, Int.reduceLE, Int.reduceToNat, Int.reduceAdd, Int.reduceSub, Int.reduceMul, Int.reduceNeg, Int.reduceBEq, Int.reduceBNe, b_iec_May, gs_iec_May, h, kcells, c1, c2]
      · by_cases c3 : 14 ≤ op
        · by_cases c4 : op ≤ 18
          · simp -implicitDefEqProofs only [eqs, eqd, eqe, lh_some, ↓reduceIte, reduceCtorEq, Nat.reduceEqDiff, Nat.reduceAdd, Nat.reduceSub, Nat.reduceMul, Nat.reduceLT, Nat.reduceLeDiff, Nat.reduceBEq, Nat.reduceBNe, Nat.reduceGT, Int.reduceEq, Int.reduceLT, Int.reduceLE, Int.reduceToNat, Int.reduceAdd, Int.reduceSub, Int.reduceMul, Int.reduceNeg, Int.reduceBEq, Int.reduceBNe, b_iec_May, gs_iec_May, h, kcells, c1, c2, c3, c4]
          · by_cases c5 : 19 ≤ op
            · simp -implicitDefEqProofs only [eqs, eqd, eqe, lh_some, ↓reduceIte, reduceCtorEq, Nat.reduceEqDiff, Nat.reduceAdd, Nat.reduceSub, Nat.reduceMul, Nat.reduceLT, Nat.reduceLeDiff, Nat.reduceBEq, Nat.reduceBNe, Nat.reduceGT, Int.reduceEq, Int.reduceLT, Int.reduceLE, Int.reduceToNat, Int.reduceAdd, Int.reduceSub, Int.reduceMul, Int.reduceNeg, Int.reduceBEq, Int.reduceBNe, b_iec_May, gs_iec_May, h, kcells, c1, c2, c3, c4, c5]
            · omega
        · omega
    · have c2 : ¬ 14 ≤ op := by omega
      have c3 : ¬ 19 ≤ op := by omega
      simp -implicitDefEqProofs only [eqs, eqd, eqe, lh_some, ↓reduceIte, reduceCtorEq, Nat.reduceEqDiff, Nat.reduceAdd, Nat.reduceSub, Nat.reduceMul, Nat.reduceLT, Nat.reduceLeDiff, Nat.reduceBEq, Nat.reduceBNe, Nat.reduceGT, Int.reduceEq, Int.reduceLT, Int.reduceLE, Int.reduceToNat, Int.reduceAdd, Int.reduceSub, Int.reduceMul, Int.reduceNeg, Int.reduceBEq, Int.reduceBNe, b_iec_May, gs_iec_May, h, kcells, c1, c2, c3]
theorem rmay_a (k : Nat) (op n : Int) : acall T (k + 3) 46 0 [.v (.int .i64 op), .v (.int .i64 n)] [] = some ⟨.v (.bool (may op n)), [], 1⟩ := by
  rw [acall_go (body := b_fuglemanref11_May) rfl rfl (Nat.zero_le _)]
  have h := rsize_a k n
  unfold may
  by_cases h0 : 1 ≤ n ∧ n ≤ 7
  · have e0 : kok n = true := kyes h0
    have e1 : (ksz n == 0) = false := by rcases seven h0 with rfl | rfl | rfl | rfl | rfl | rfl | rfl <;> rfl
    have e2 : kbt n = (n == 1 || decide (6 ≤ n)) := by rcases seven h0 with rfl | rfl | rfl | rfl | rfl | rfl | rfl <;> rfl
    rw [e0, e2]
    by_cases a1 : 7 ≤ op
    · by_cases a2 : op ≤ 13
      · have b1 : ¬ 14 ≤ op := by omega
        have b2 : ¬ 19 ≤ op := by omega
        have b3 : op ≤ 18 := by omega
        have b4 : op ≤ 24 := by omega
        by_cases d1 : n = 1
        · subst d1
          simp -implicitDefEqProofs only [eqs, eqd, eqe, lh_some, ↓reduceIte, reduceCtorEq, Nat.reduceEqDiff, Nat.reduceAdd, Nat.reduceSub, Nat.reduceMul, Nat.reduceLT, Nat.reduceLeDiff, Nat.reduceBEq, Nat.reduceBNe, Nat.reduceGT, Int.reduceEq, Int.reduceLT, Int.reduceLE, Int.reduceToNat, Int.reduceAdd, Int.reduceSub, Int.reduceMul, Int.reduceNeg, Int.reduceBEq, Int.reduceBNe, b_fuglemanref11_May, h, e1, a1, a2, b1, b2, b3, b4]
        · have d1' : (n == 1) = false := by simpa using d1
          by_cases d2 : 6 ≤ n <;> simp -implicitDefEqProofs only [eqs, eqd, eqe, lh_some, ↓reduceIte, reduceCtorEq, Nat.reduceEqDiff, Nat.reduceAdd, Nat.reduceSub, Nat.reduceMul, Nat.reduceLT, Nat.reduceLeDiff, Nat.reduceBEq, Nat.reduceBNe, Nat.reduceGT, Int.reduceEq, Int.reduceLT, Int.reduceLE, Int.reduceToNat, Int.reduceAdd, Int.reduceSub, Int.reduceMul, Int.reduceNeg, Int.reduceBEq, Int.reduceBNe, b_fuglemanref11_May, h, e1, a1, a2, b1, b2, b3, b4, d1', d2]
      · by_cases a3 : op ≤ 18
        · have b1 : 14 ≤ op := by omega
          have b2 : ¬ 19 ≤ op := by omega
          have b4 : op ≤ 24 := by omega
          by_cases d2 : 2 ≤ n
          · have d1' : (n == 1) = false := by rw [beq_eq_false_iff_ne]; omega
            by_cases d3 : n ≤ 5
            · have d4 : ¬ 6 ≤ n := by omega
              simp -implicitDefEqProofs only [eqs, eqd, eqe, lh_some, ↓reduceIte, reduceCtorEq, Nat.reduceEqDiff, Nat.reduceAdd, Nat.reduceSub, Nat.reduceMul, Nat.reduceLT, Nat.reduceLeDiff, Nat.reduceBEq, Nat.reduceBNe, Nat.reduceGT, Int.reduceEq, Int.reduceLT, Int.reduceLE, Int.reduceToNat, Int.reduceAdd, Int.reduceSub, Int.reduceMul, Int.reduceNeg, Int.reduceBEq, Int.reduceBNe, b_fuglemanref11_May, h, e1, a1, a2, a3, b1, b2, b4, d1', d2, d3, d4]
            · have d4 : 6 ≤ n := by omega
              simp -implicitDefEqProofs only [eqs, eqd, eqe, lh_some, ↓reduceIte, reduceCtorEq, Nat.reduceEqDiff, Nat.reduceAdd, Nat.reduceSub, Nat.reduceMul, Nat.reduceLT, Nat.reduceLeDiff, Nat.reduceBEq, Nat.reduceBNe, Nat.reduceGT, Int.reduceEq, Int.reduceLT, Int.reduceLE, Int.reduceToNat, Int.reduceAdd, Int.reduceSub, Int.reduceMul, Int.reduceNeg, Int.reduceBEq, Int.reduceBNe, b_fuglemanref11_May, h, e1, a1, a2, a3, b1, b2, b4, d1', d2, d3, d4]
          · obtain rfl : n = 1 := by omega
            simp -implicitDefEqProofs only [eqs, eqd, eqe, lh_some, ↓reduceIte, reduceCtorEq, Nat.reduceEqDiff, Nat.reduceAdd, Nat.reduceSub, Nat.reduceMul, Nat.reduceLT, Nat.reduceLeDiff, Nat.reduceBEq, Nat.reduceBNe, Nat.reduceGT, Int.reduceEq, Int.reduceLT, Int.reduceLE, Int.reduceToNat, Int.reduceAdd, Int.reduceSub, Int.reduceMul, Int.reduceNeg, Int.reduceBEq, Int.reduceBNe, b_fuglemanref11_May, h, e1, a1, a2, a3, b1, b2, b4]
        · have b1 : 14 ≤ op := by omega
          have b2 : 19 ≤ op := by omega
          by_cases b4 : op ≤ 24 <;> simp -implicitDefEqProofs only [eqs, eqd, eqe, lh_some, ↓reduceIte, reduceCtorEq, Nat.reduceEqDiff, Nat.reduceAdd, Nat.reduceSub, Nat.reduceMul, Nat.reduceLT, Nat.reduceLeDiff, Nat.reduceBEq, Nat.reduceBNe, Nat.reduceGT, Int.reduceEq, Int.reduceLT, Int.reduceLE, Int.reduceToNat, Int.reduceAdd, Int.reduceSub, Int.reduceMul, Int.reduceNeg, Int.reduceBEq, Int.reduceBNe, b_fuglemanref11_May, h, e1, a1, a2, a3, b1, b2, b4]
    · have a2 : op ≤ 13 := by omega
      have a3 : op ≤ 18 := by omega
      have b1 : ¬ 14 ≤ op := by omega
      have b2 : ¬ 19 ≤ op := by omega
      have b4 : op ≤ 24 := by omega
      simp -implicitDefEqProofs only [eqs, eqd, eqe, lh_some, ↓reduceIte, reduceCtorEq, Nat.reduceEqDiff, Nat.reduceAdd, Nat.reduceSub, Nat.reduceMul, Nat.reduceLT, Nat.reduceLeDiff, Nat.reduceBEq, Nat.reduceBNe, Nat.reduceGT, Int.reduceEq, Int.reduceLT, Int.reduceLE, Int.reduceToNat, Int.reduceAdd, Int.reduceSub, Int.reduceMul, Int.reduceNeg, Int.reduceBEq, Int.reduceBNe, b_fuglemanref11_May, h, e1, a1, a2, a3, b1, b2, b4]
  · obtain ⟨h1, h2, h3, h4, h5⟩ := kno h0
    rw [h1] at h
    rw [h5]
    by_cases a1 : 7 ≤ op <;> by_cases b1 : 14 ≤ op <;> by_cases b2 : 19 ≤ op <;> simp -implicitDefEqProofs only [eqs, eqd, eqe, lh_some, ↓reduceIte, reduceCtorEq, Nat.reduceEqDiff, Nat.reduceAdd, Nat.reduceSub, Nat.reduceMul, Nat.reduceLT, Nat.reduceLeDiff, Nat.reduceBEq, Nat.reduceBNe, Nat.reduceGT, Int.reduceEq, Int.reduceLT, Int.reduceLE, Int.reduceToNat, Int.reduceAdd, Int.reduceSub, Int.reduceMul, Int.reduceNeg, Int.reduceBEq, Int.reduceBNe, b_fuglemanref11_May, h, a1, b1, b2]
end Go.Proofs.Ythkjiclplecljaa.Ver

/- Instructions that may be: package il's answer, and the document's. Written by a program for this claim. -/
namespace Go.Proofs.Ythkjiclplecljaa.Ver
open Go Go.Proofs.Ythkjiclplecljaa.Sym Go.Proofs.Ythkjiclplecljaa.Tab
set_option linter.unusedVariables false
set_option linter.unusedSimpArgs false
set_option maxHeartbeats 4000000
set_option maxRecDepth 20000
def klo (k : Int) : Int := if k = 2 then -128 else if k = 3 then -32768 else if k = 4 then -2147483648 else 0
def khi (k : Int) : Int := if k = 1 then 1 else if k = 2 then 127 else if k = 3 then 32767 else if k = 4 then 2147483647 else if k = 5 ∨ k = 6 then 65535 else 4294967295
/-- Is a number a value of a kind? -/
def isK (k v : Int) : Bool := kok k && (decide (klo k ≤ v) && decide (v ≤ khi k))
def wrapK (k v : Int) : Int := if k = 1 then (if v = 0 then 0 else 1) else if k = 2 then IntKind.i64.wrap (IntKind.i8.wrap v) else if k = 3 then IntKind.i64.wrap (IntKind.i16.wrap v) else if k = 4 then IntKind.i64.wrap (IntKind.i32.wrap v) else if k = 5 ∨ k = 6 then IntKind.i64.wrap (IntKind.u16.wrap v) else if k = 7 then IntKind.i64.wrap (IntKind.u32.wrap v) else 0
theorem wi8 (v : Int) : IntKind.i8.wrap v = (v + 128) % 256 - 128 := by
  simp [IntKind.wrap, IntKind.bits, IntKind.signed]
  split <;> omega
theorem wi16 (v : Int) : IntKind.i16.wrap v = (v + 32768) % 65536 - 32768 := by
  simp [IntKind.wrap, IntKind.bits, IntKind.signed]
  split <;> omega
theorem wi32 (v : Int) : IntKind.i32.wrap v = (v + 2147483648) % 4294967296 - 2147483648 := by
  simp [IntKind.wrap, IntKind.bits, IntKind.signed]
  split <;> omega
theorem wu16' (v : Int) : IntKind.u16.wrap v = v % 65536 := by simp [IntKind.wrap, IntKind.bits, IntKind.signed]
theorem wu32' (v : Int) : IntKind.u32.wrap v = v % 4294967296 := by simp [IntKind.wrap, IntKind.bits, IntKind.signed]
theorem beq_dec {a b : Int} {p : Bool} (h : a = b ↔ p = true) : (a == b) = p := by
  cases p
  · rw [beq_eq_false_iff_ne]; intro e; have := h.1 e; cases this
  · rw [beq_iff_eq]; exact h.2 rfl
theorem wrap_is (k v : Int) : (kok k && (wrapK k v == v)) = isK k v := by
  unfold isK
  by_cases h : 1 ≤ k ∧ k ≤ 7
  · rw [kyes h, Bool.true_and, Bool.true_and]
    refine beq_dec ?_
    rw [Bool.and_eq_true, decide_eq_true_eq, decide_eq_true_eq]
    rcases seven h with rfl | rfl | rfl | rfl | rfl | rfl | rfl
    · show (if v = 0 then (0 : Int) else 1) = v ↔ 0 ≤ v ∧ v ≤ 1
      split <;> omega
    · show IntKind.i64.wrap (IntKind.i8.wrap v) = v ↔ -128 ≤ v ∧ v ≤ 127
      rw [wi8, w64 (by omega) (by omega)]; omega
    · show IntKind.i64.wrap (IntKind.i16.wrap v) = v ↔ -32768 ≤ v ∧ v ≤ 32767
      rw [wi16, w64 (by omega) (by omega)]; omega
    · show IntKind.i64.wrap (IntKind.i32.wrap v) = v ↔ -2147483648 ≤ v ∧ v ≤ 2147483647
      rw [wi32, w64 (by omega) (by omega)]; omega
    · show IntKind.i64.wrap (IntKind.u16.wrap v) = v ↔ 0 ≤ v ∧ v ≤ 65535
      rw [wu16', w64 (by omega) (by omega)]; omega
    · show IntKind.i64.wrap (IntKind.u16.wrap v) = v ↔ 0 ≤ v ∧ v ≤ 65535
      rw [wu16', w64 (by omega) (by omega)]; omega
    · show IntKind.i64.wrap (IntKind.u32.wrap v) = v ↔ 0 ≤ v ∧ v ≤ 4294967295
      rw [wu32', w64 (by omega) (by omega)]; omega
  · rw [(kno h).2.2.2.2, Bool.false_and, Bool.false_and]
theorem wrap_a (k : Nat) (n v : Int) (hn : 1 ≤ n ∧ n ≤ 7) : acall T (k + 3) 56 0 [.v (.int .i64 n), .v (.int .i64 v)] [] = some ⟨.v (.int .i64 (wrapK n v)), [], 1⟩ := by
  rcases seven hn with rfl | rfl | rfl | rfl | rfl | rfl | rfl
  · have h := kof_a k 1
    have e1 : ksz 1 = 1 := rfl
    have e2 : ksg 1 = false := rfl
    have e3 : kok 1 = true := rfl
    rw [acall_go (body := b_iec_Wrap) rfl rfl (Nat.zero_le _)]
    by_cases c : v = 0
    · subst c
      simp -implicitDefEqProofs only [eqs, eqd, eqe, lh_some, ↓reduceIte, reduceCtorEq, Nat.reduceEqDiff, Nat.reduceAdd, Nat.reduceSub, Nat.reduceMul, Nat.reduceLT, Nat.reduceLeDiff, Nat.reduceBEq, Nat.reduceBNe, Nat.reduceGT, Int.reduceEq, Int.reduceLT, Int.reduceLE, Int.reduceToNat, Int.reduceAdd, Int.reduceSub, Int.reduceMul, Int.reduceNeg, Int.reduceBEq, Int.reduceBNe, b_iec_Wrap, gs_iec_Wrap, h, e1, e2, e3, kcells, wrapK]
    · have c' : (v != 0) = true := by simpa using c
      simp -implicitDefEqProofs only [eqs, eqd, eqe, lh_some, ↓reduceIte, reduceCtorEq, Nat.reduceEqDiff, Nat.reduceAdd, Nat.reduceSub, Nat.reduceMul, Nat.reduceLT, Nat.reduceLeDiff, Nat.reduceBEq, Nat.reduceBNe, Nat.reduceGT, Int.reduceEq, Int.reduceLT, Int.reduceLE, Int.reduceToNat, Int.reduceAdd, Int.reduceSub, Int.reduceMul, Int.reduceNeg, Int.reduceBEq, Int.reduceBNe, b_iec_Wrap, gs_iec_Wrap, h, e1, e2, e3, kcells, wrapK, c, c']
  all_goals kernel_rfl
theorem is_a (k : Nat) (n v : Int) : acall T (k + 4) 74 0 [.v (.int .i64 n), .v (.int .i64 v)] [] = some ⟨.v (.bool (isK n v)), [], 1⟩ := by
  rw [acall_go (body := b_iec_Is) rfl rfl (Nat.zero_le _), ← wrap_is]
  have h := kof_a (k + 1) n
  by_cases hn : 1 ≤ n ∧ n ≤ 7
  · have h2 := wrap_a k n v hn
    rw [kyes hn] at h ⊢
    simp -implicitDefEqProofs only [eqs, eqd, eqe, lh_some, ↓reduceIte, reduceCtorEq, Nat.reduceEqDiff, Nat.reduceAdd, Nat.reduceSub, Nat.reduceMul, Nat.reduceLT, Nat.reduceLeDiff, Nat.reduceBEq, Nat.reduceBNe, Nat.reduceGT, Int.reduceEq, Int.reduceLT, Int.reduceLE, Int.reduceToNat, Int.reduceAdd, Int.reduceSub, Int.reduceMul, Int.reduceNeg, Int.reduceBEq, Int.reduceBNe, b_iec_Is, h, h2, kcells]
  · rw [(kno hn).2.2.2.2] at h ⊢
    simp -implicitDefEqProofs only [eqs, eqd, eqe, lh_some, ↓reduceIte, reduceCtorEq, Nat.reduceEqDiff, Nat.reduceAdd, Nat.reduceSub, Nat.reduceMul, Nat.reduceLT, Nat.reduceLeDiff, Nat.reduceBEq, Nat.reduceBNe, Nat.reduceGT, Int.reduceEq, Int.reduceLT, Int.reduceLE, Int.reduceToNat, Int.reduceAdd, Int.reduceSub, Int.reduceMul, Int.reduceNeg, Int.reduceBEq, Int.reduceBNe, b_iec_Is, h, kcells]
theorem many_a (k : Nat) (n : Int) (hn : 1 ≤ n ∧ n ≤ 7) : acall T (k + 8) 63 0 [.v (.int .i64 n)] [] = some ⟨.v (.int .i64 (khi n - klo n + 1)), [], if n = 1 then 0 else 1⟩ := by
  rcases seven hn with rfl | rfl | rfl | rfl | rfl | rfl | rfl <;> kernel_rfl
theorem least_a (k : Nat) (n : Int) (hn : 1 ≤ n ∧ n ≤ 7) : acall T (k + 9) 66 0 [.v (.int .i64 n)] [] = some ⟨.v (.int .i64 (klo n)), [], if 2 ≤ n ∧ n ≤ 4 then 1 else 0⟩ := by
  rcases seven hn with rfl | rfl | rfl | rfl | rfl | rfl | rfl <;> kernel_rfl
theorem ris_a (k : Nat) (n v : Int) : acall T (k + 10) 42 0 [.v (.int .i64 n), .v (.int .i64 v)] [] = some ⟨.v (.bool (isK n v)), [], 1⟩ := by
  rw [acall_go (body := b_fuglemanref11_Is) rfl rfl (Nat.zero_le _)]
  have h := rsize_a (k + 7) n
  unfold isK
  by_cases hn : 1 ≤ n ∧ n ≤ 7
  · obtain ⟨d1, hd1, h1⟩ : ∃ d1, (d1 = 0 ∨ d1 = 1) ∧ acall T (k + 9) 63 0 [.v (.int .i64 n)] [] = some ⟨.v (.int .i64 (khi n - klo n + 1)), [], d1⟩ := ⟨_, by split <;> simp, many_a (k + 1) n hn⟩
    obtain ⟨d2, hd2, h2⟩ : ∃ d2, (d2 = 0 ∨ d2 = 1) ∧ acall T (k + 9) 66 0 [.v (.int .i64 n)] [] = some ⟨.v (.int .i64 (klo n)), [], d2⟩ := ⟨_, by split <;> simp, least_a k n hn⟩
    have e0 : 0 < ksz n := by rcases seven hn with rfl | rfl | rfl | rfl | rfl | rfl | rfl <;> decide
    have e1 : -2147483648 ≤ klo n ∧ klo n ≤ 0 ∧ 1 ≤ khi n ∧ khi n ≤ 4294967295 := by rcases seven hn with rfl | rfl | rfl | rfl | rfl | rfl | rfl <;> decide
    have e2 : IntKind.i64.wrap (klo n + (khi n - klo n + 1)) = khi n + 1 := by rw [w64 (by omega) (by omega)]; omega
    have e3 : IntKind.i64.wrap (khi n + 1 - 1) = khi n := by rw [w64 (by omega) (by omega)]; omega
    rw [kyes hn]
    generalize klo n = lo at *
    generalize khi n = hi at *
    by_cases c1 : lo ≤ v <;> rcases hd1 with rfl | rfl <;> rcases hd2 with rfl | rfl <;> simp -implicitDefEqProofs only [eqs, eqd, eqe, lh_some, ↓reduceIte, reduceCtorEq, Nat.reduceEqDiff, Nat.reduceAdd, Nat.reduceSub, Nat.reduceMul, Nat.reduceLT, Nat.reduceLeDiff, Nat.reduceBEq, Nat.reduceBNe, Nat.reduceGT, Int.reduceEq, Int.reduceLT, Int.reduceLE, Int.reduceToNat, Int.reduceAdd, Int.reduceSub, Int.reduceMul, Int.reduceNeg, Int.reduceBEq, Int.reduceBNe, b_fuglemanref11_Is, h, h1, h2, e0, e2, e3, c1]
  · rw [(kno hn).2.2.2.2]
    rw [(kno hn).1] at h
    simp -implicitDefEqProofs only [eqs, eqd, eqe, lh_some, ↓reduceIte, reduceCtorEq, Nat.reduceEqDiff, Nat.reduceAdd, Nat.reduceSub, Nat.reduceMul, Nat.reduceLT, Nat.reduceLeDiff, Nat.reduceBEq, Nat.reduceBNe, Nat.reduceGT, Int.reduceEq, Int.reduceLT, Int.reduceLE, Int.reduceToNat, Int.reduceAdd, Int.reduceSub, Int.reduceMul, Int.reduceNeg, Int.reduceBEq, Int.reduceBNe, b_fuglemanref11_Is, h]
/-- What an operation asks for. -/
def cl (op : Int) : Int := if op = 1 ∨ op = 2 ∨ (7 ≤ op ∧ op ≤ 12) ∨ (14 ≤ op ∧ op ≤ 24) then 1 else if 3 ≤ op ∧ op ≤ 6 then 2 else if 25 ≤ op ∧ op ≤ 27 then 3 else if op = 13 ∨ (28 ≤ op ∧ op ≤ 30) ∨ op = 33 then 4 else if op = 31 then 5 else if op = 32 then 6 else if op = 34 ∨ op = 35 then 7 else if op = 36 then 8 else 0
noncomputable def onm (n : Int) : ByteArray := match acall T 5 73 0 [.v (.int .i64 n)] [] with
  | some ⟨.agg [.v (.string s), _], _, _⟩ => s
  | _ => ByteArray.empty
theorem upto37 : ∀ (n : Nat), n < 37 → n = 0 ∨ n = 1 ∨ n = 2 ∨ n = 3 ∨ n = 4 ∨ n = 5 ∨ n = 6 ∨ n = 7 ∨ n = 8 ∨ n = 9 ∨ n = 10 ∨ n = 11 ∨ n = 12 ∨ n = 13 ∨ n = 14 ∨ n = 15 ∨ n = 16 ∨ n = 17 ∨ n = 18 ∨ n = 19 ∨ n = 20 ∨ n = 21 ∨ n = 22 ∨ n = 23 ∨ n = 24 ∨ n = 25 ∨ n = 26 ∨ n = 27 ∨ n = 28 ∨ n = 29 ∨ n = 30 ∨ n = 31 ∨ n = 32 ∨ n = 33 ∨ n = 34 ∨ n = 35 ∨ n = 36 := by omega
theorem ilof_a (k : Nat) (n : Int) : ∃ s, acall T (k + 2) 73 0 [.v (.int .i64 n)] [] = some ⟨.agg [.v (.string s), .v (.int .i64 (cl n))], [], 1⟩ := by
  by_cases h : 0 ≤ n ∧ n < 37
  · refine ⟨onm n, ?_⟩
    obtain ⟨m, rfl⟩ : ∃ m : Nat, n = m := ⟨n.toNat, by omega⟩
    rcases upto37 m (by omega) with rfl | rfl | rfl | rfl | rfl | rfl | rfl | rfl | rfl | rfl | rfl | rfl | rfl | rfl | rfl | rfl | rfl | rfl | rfl | rfl | rfl | rfl | rfl | rfl | rfl | rfl | rfl | rfl | rfl | rfl | rfl | rfl | rfl | rfl | rfl | rfl | rfl <;> kernel_rfl
  · refine ⟨⟨#[]⟩, ?_⟩
    have e : cl n = 0 := by unfold cl; repeat (rw [if_neg (by omega)])
    rw [e, acall_go (body := b_il_of) rfl rfl (Nat.zero_le _)]
    have h2 : ∃ xs : List AV, acall T (k + 1) 99 0 [] [] = some ⟨.shr 37 true xs, [], 1⟩ := ⟨_, by rw [acall_go (body := b_il_ops) rfl rfl (Nat.zero_le _)]; simp -implicitDefEqProofs only [eqs, eqd, eqe, lh_some, ↓reduceIte, reduceCtorEq, Nat.reduceEqDiff, Nat.reduceAdd, Nat.reduceSub, Nat.reduceMul, Nat.reduceLT, Nat.reduceLeDiff, Nat.reduceBEq, Nat.reduceBNe, Nat.reduceGT, Int.reduceEq, Int.reduceLT, Int.reduceLE, Int.reduceToNat, Int.reduceAdd, Int.reduceSub, Int.reduceMul, Int.reduceNeg, Int.reduceBEq, Int.reduceBNe, b_il_ops]; rfl⟩
    obtain ⟨xs, h2⟩ := h2
    by_cases c1 : n < 0
    · simp -implicitDefEqProofs only [eqs, eqd, eqe, lh_some, ↓reduceIte, reduceCtorEq, Nat.reduceEqDiff, Nat.reduceAdd, Nat.reduceSub, Nat.reduceMul, Nat.reduceLT, Nat.reduceLeDiff, Nat.reduceBEq, Nat.reduceBNe, Nat.reduceGT, Int.reduceEq, Int.reduceLT, Int.reduceLE, Int.reduceToNat, Int.reduceAdd, Int.reduceSub, Int.reduceMul, Int.reduceNeg, Int.reduceBEq, Int.reduceBNe, b_il_of, h2, c1]
    · have c2 : (37 : Int) ≤ n := by omega
      simp -implicitDefEqProofs only [eqs, eqd, eqe, lh_some, ↓reduceIte, reduceCtorEq, Nat.reduceEqDiff, Nat.reduceAdd, Nat.reduceSub, Nat.reduceMul, Nat.reduceLT, Nat.reduceLeDiff, Nat.reduceBEq, Nat.reduceBNe, Nat.reduceGT, Int.reduceEq, Int.reduceLT, Int.reduceLE, Int.reduceToNat, Int.reduceAdd, Int.reduceSub, Int.reduceMul, Int.reduceNeg, Int.reduceBEq, Int.reduceBNe, b_il_of, h2, c1, c2]
theorem within_a (k : Nat) (n : Int) : acall T (k + 3) 77 0 [.v (.int .i64 n)] [] = some ⟨.v (.bool ((cl n == 1) && decide (7 ≤ n))), [], 1⟩ := by
  rw [acall_go (body := b_il_within) rfl rfl (Nat.zero_le _)]
  obtain ⟨s, h⟩ := ilof_a k n
  try simp -implicitDefEqProofs only [eqs, eqd, eqe, lh_some, ↓reduceIte, reduceCtorEq, Nat.reduceEqDiff, Nat.reduceAdd, Nat.reduceSub, Nat.reduceMul, Nat.reduceLT, Nat.reduceLeDiff, Nat.reduceBEq, Nat.reduceBNe, Nat.reduceGT, Int.reduceEq, Int.reduceLT, Int.reduceLE, Int.reduceToNat, Int.reduceAdd, Int.reduceSub, Int.reduceMul, Int.reduceNeg, Int.reduceBEq, Int.reduceBNe, b_il_within, h]
  cases h0 : (cl n == 1)
  · simp -implicitDefEqProofs only [eqs, eqd, eqe, lh_some, ↓reduceIte, reduceCtorEq, Nat.reduceEqDiff, Nat.reduceAdd, Nat.reduceSub, Nat.reduceMul, Nat.reduceLT, Nat.reduceLeDiff, Nat.reduceBEq, Nat.reduceBNe, Nat.reduceGT, Int.reduceEq, Int.reduceLT, Int.reduceLE, Int.reduceToNat, Int.reduceAdd, Int.reduceSub, Int.reduceMul, Int.reduceNeg, Int.reduceBEq, Int.reduceBNe, b_il_within, h, h0]
  simp -implicitDefEqProofs only [eqs, eqd, eqe, lh_some, ↓reduceIte, reduceCtorEq, Nat.reduceEqDiff, Nat.reduceAdd, Nat.reduceSub, Nat.reduceMul, Nat.reduceLT, Nat.reduceLeDiff, Nat.reduceBEq, Nat.reduceBNe, Nat.reduceGT, Int.reduceEq, Int.reduceLT, Int.reduceLE, Int.reduceToNat, Int.reduceAdd, Int.reduceSub, Int.reduceMul, Int.reduceNeg, Int.reduceBEq, Int.reduceBNe, b_il_within, h, h0]
theorem keeps_a (k : Nat) (n : Int) : acall T (k + 1) 78 0 [.v (.int .i64 n)] [] = some ⟨.v (.bool (n == 3 || n == 4)), [], 0⟩ := by
  rw [acall_go (body := b_il_keeps) rfl rfl (Nat.zero_le _)]
  cases h1 : (n == 3) <;> simp -implicitDefEqProofs only [eqs, eqd, eqe, lh_some, ↓reduceIte, reduceCtorEq, Nat.reduceEqDiff, Nat.reduceAdd, Nat.reduceSub, Nat.reduceMul, Nat.reduceLT, Nat.reduceLeDiff, Nat.reduceBEq, Nat.reduceBNe, Nat.reduceGT, Int.reduceEq, Int.reduceLT, Int.reduceLE, Int.reduceToNat, Int.reduceAdd, Int.reduceSub, Int.reduceMul, Int.reduceNeg, Int.reduceBEq, Int.reduceBNe, b_il_keeps, h1]
end Go.Proofs.Ythkjiclplecljaa.Ver

/- Instructions that may be: package il's answer. Written by a program for this claim. -/
namespace Go.Proofs.Ythkjiclplecljaa.Ver
open Go Go.Proofs.Ythkjiclplecljaa.Sym Go.Proofs.Ythkjiclplecljaa.Tab
set_option linter.unusedVariables false
set_option linter.unusedSimpArgs false
set_option maxHeartbeats 4000000
set_option maxRecDepth 20000
structure Ins where
  op : Int
  k : Int
  ar : Int
  at_ : Int
  n : Int
def Ins.c (i : Ins) : List AV := [.v (.int .i64 i.op), .v (.int .i64 i.k), .v (.int .i64 i.ar), .v (.int .i64 i.at_), .v (.int .i64 i.n)]
def stands (i : Ins) (l : Int) : Bool := decide (0 < ksz i.k) && (decide (l ≤ i.ar) && (decide (i.ar ≤ 4) && (decide (0 ≤ i.at_) && (decide (i.at_ ≤ 64 - ksz i.k) && (i.n == 0)))))
theorem ksz_in (k : Int) : 0 ≤ ksz k ∧ ksz k ≤ 4 := by unfold ksz; split; omega; split; omega; split <;> omega
theorem stands_a (k : Nat) (i : Ins) (l : Int) : acall T (k + 4) 75 0 [.agg i.c, .v (.int .i64 l)] [] = some ⟨.v (.bool (stands i l)), [], 1⟩ := by
  rw [acall_go (body := b_il_stands) rfl rfl (Nat.zero_le _)]
  have h := ksize_a k i.k
  have hk := ksz_in i.k
  have e : IntKind.i64.wrap (64 - ksz i.k) = 64 - ksz i.k := w64 (by omega) (by omega)
  unfold stands
  try simp -implicitDefEqProofs only [eqs, eqd, eqe, lh_some, ↓reduceIte, reduceCtorEq, Nat.reduceEqDiff, Nat.reduceAdd, Nat.reduceSub, Nat.reduceMul, Nat.reduceLT, Nat.reduceLeDiff, Nat.reduceBEq, Nat.reduceBNe, Nat.reduceGT, Int.reduceEq, Int.reduceLT, Int.reduceLE, Int.reduceToNat, Int.reduceAdd, Int.reduceSub, Int.reduceMul, Int.reduceNeg, Int.reduceBEq, Int.reduceBNe, b_il_stands, h, e, Ins.c]
  cases h0 : decide (0 < ksz i.k)
  · simp -implicitDefEqProofs only [eqs, eqd, eqe, lh_some, ↓reduceIte, reduceCtorEq, Nat.reduceEqDiff, Nat.reduceAdd, Nat.reduceSub, Nat.reduceMul, Nat.reduceLT, Nat.reduceLeDiff, Nat.reduceBEq, Nat.reduceBNe, Nat.reduceGT, Int.reduceEq, Int.reduceLT, Int.reduceLE, Int.reduceToNat, Int.reduceAdd, Int.reduceSub, Int.reduceMul, Int.reduceNeg, Int.reduceBEq, Int.reduceBNe, b_il_stands, h, e, Ins.c, h0]
  try simp -implicitDefEqProofs only [eqs, eqd, eqe, lh_some, ↓reduceIte, reduceCtorEq, Nat.reduceEqDiff, Nat.reduceAdd, Nat.reduceSub, Nat.reduceMul, Nat.reduceLT, Nat.reduceLeDiff, Nat.reduceBEq, Nat.reduceBNe, Nat.reduceGT, Int.reduceEq, Int.reduceLT, Int.reduceLE, Int.reduceToNat, Int.reduceAdd, Int.reduceSub, Int.reduceMul, Int.reduceNeg, Int.reduceBEq, Int.reduceBNe, b_il_stands, h, e, Ins.c, h0]
  cases h1 : decide (l ≤ i.ar)
  · simp -implicitDefEqProofs only [eqs, eqd, eqe, lh_some, ↓reduceIte, reduceCtorEq, Nat.reduceEqDiff, Nat.reduceAdd, Nat.reduceSub, Nat.reduceMul, Nat.reduceLT, Nat.reduceLeDiff, Nat.reduceBEq, Nat.reduceBNe, Nat.reduceGT, Int.reduceEq, Int.reduceLT, Int.reduceLE, Int.reduceToNat, Int.reduceAdd, Int.reduceSub, Int.reduceMul, Int.reduceNeg, Int.reduceBEq, Int.reduceBNe, b_il_stands, h, e, Ins.c, h0, h1]
  try simp -implicitDefEqProofs only [eqs, eqd, eqe, lh_some, ↓reduceIte, reduceCtorEq, Nat.reduceEqDiff, Nat.reduceAdd, Nat.reduceSub, Nat.reduceMul, Nat.reduceLT, Nat.reduceLeDiff, Nat.reduceBEq, Nat.reduceBNe, Nat.reduceGT, Int.reduceEq, Int.reduceLT, Int.reduceLE, Int.reduceToNat, Int.reduceAdd, Int.reduceSub, Int.reduceMul, Int.reduceNeg, Int.reduceBEq, Int.reduceBNe, b_il_stands, h, e, Ins.c, h0, h1]
  cases h2 : decide (i.ar ≤ 4)
  · simp -implicitDefEqProofs only [eqs, eqd, eqe, lh_some, ↓reduceIte, reduceCtorEq, Nat.reduceEqDiff, Nat.reduceAdd, Nat.reduceSub, Nat.reduceMul, Nat.reduceLT, Nat.reduceLeDiff, Nat.reduceBEq, Nat.reduceBNe, Nat.reduceGT, Int.reduceEq, Int.reduceLT, Int.reduceLE, Int.reduceToNat, Int.reduceAdd, Int.reduceSub, Int.reduceMul, Int.reduceNeg, Int.reduceBEq, Int.reduceBNe, b_il_stands, h, e, Ins.c, h0, h1, h2]
  try simp -implicitDefEqProofs only [eqs, eqd, eqe, lh_some, ↓reduceIte, reduceCtorEq, Nat.reduceEqDiff, Nat.reduceAdd, Nat.reduceSub, Nat.reduceMul, Nat.reduceLT, Nat.reduceLeDiff, Nat.reduceBEq, Nat.reduceBNe, Nat.reduceGT, Int.reduceEq, Int.reduceLT, Int.reduceLE, Int.reduceToNat, Int.reduceAdd, Int.reduceSub, Int.reduceMul, Int.reduceNeg, Int.reduceBEq, Int.reduceBNe, b_il_stands, h, e, Ins.c, h0, h1, h2]
  cases h3 : decide (0 ≤ i.at_)
  · simp -implicitDefEqProofs only [eqs, eqd, eqe, lh_some, ↓reduceIte, reduceCtorEq, Nat.reduceEqDiff, Nat.reduceAdd, Nat.reduceSub, Nat.reduceMul, Nat.reduceLT, Nat.reduceLeDiff, Nat.reduceBEq, Nat.reduceBNe, Nat.reduceGT, Int.reduceEq, Int.reduceLT, Int.reduceLE, Int.reduceToNat, Int.reduceAdd, Int.reduceSub, Int.reduceMul, Int.reduceNeg, Int.reduceBEq, Int.reduceBNe, b_il_stands, h, e, Ins.c, h0, h1, h2, h3]
  try simp -implicitDefEqProofs only [eqs, eqd, eqe, lh_some, ↓reduceIte, reduceCtorEq, Nat.reduceEqDiff, Nat.reduceAdd, Nat.reduceSub, Nat.reduceMul, Nat.reduceLT, Nat.reduceLeDiff, Nat.reduceBEq, Nat.reduceBNe, Nat.reduceGT, Int.reduceEq, Int.reduceLT, Int.reduceLE, Int.reduceToNat, Int.reduceAdd, Int.reduceSub, Int.reduceMul, Int.reduceNeg, Int.reduceBEq, Int.reduceBNe, b_il_stands, h, e, Ins.c, h0, h1, h2, h3]
  cases h4 : decide (i.at_ ≤ 64 - ksz i.k)
  · simp -implicitDefEqProofs only [eqs, eqd, eqe, lh_some, ↓reduceIte, reduceCtorEq, Nat.reduceEqDiff, Nat.reduceAdd, Nat.reduceSub, Nat.reduceMul, Nat.reduceLT, Nat.reduceLeDiff, Nat.reduceBEq, Nat.reduceBNe, Nat.reduceGT, Int.reduceEq, Int.reduceLT, Int.reduceLE, Int.reduceToNat, Int.reduceAdd, Int.reduceSub, Int.reduceMul, Int.reduceNeg, Int.reduceBEq, Int.reduceBNe, b_il_stands, h, e, Ins.c, h0, h1, h2, h3, h4]
  simp -implicitDefEqProofs only [eqs, eqd, eqe, lh_some, ↓reduceIte, reduceCtorEq, Nat.reduceEqDiff, Nat.reduceAdd, Nat.reduceSub, Nat.reduceMul, Nat.reduceLT, Nat.reduceLeDiff, Nat.reduceBEq, Nat.reduceBNe, Nat.reduceGT, Int.reduceEq, Int.reduceLT, Int.reduceLE, Int.reduceToNat, Int.reduceAdd, Int.reduceSub, Int.reduceMul, Int.reduceNeg, Int.reduceBEq, Int.reduceBNe, b_il_stands, h, e, Ins.c, h0, h1, h2, h3, h4]
/-- May an instruction be? -/
def right (i : Ins) : Bool :=
  if cl i.op = 1 then (if i.ar = 0 then (i.at_ == 0) && isK i.k i.n else stands i 1)
  else if cl i.op = 2 then stands i 2
  else if cl i.op = 3 then (i.ar == 0) && ((i.n == 0) && ((i.k == 0) && (decide (0 ≤ i.at_) && decide (i.at_ ≤ 200))))
  else if cl i.op = 4 then (i.ar == 0) && ((i.n == 0) && ((i.k == 0) && (i.at_ == 0)))
  else if cl i.op = 5 then (i.ar == 0) && ((i.n == 0) && ((i.at_ == 0) && decide (0 < ksz i.k)))
  else if cl i.op = 6 then (i.ar == 0) && ((i.n == 0) && ((i.k == 0) && ((cl i.at_ == 1) && decide (7 ≤ i.at_))))
  else if cl i.op = 7 then (i.k == 0) && ((i.ar == 3 || i.ar == 4) && (decide (0 ≤ i.at_) && (decide (i.at_ ≤ 59) && (decide (1 ≤ i.n) && decide (i.n ≤ 9999)))))
  else if cl i.op = 8 then (i.k == 0) && ((i.ar == 3 || i.ar == 4) && (decide (0 ≤ i.at_) && (decide (i.at_ < 64) && (i.n == 0))))
  else false
theorem right_1 (k : Nat) (i : Ins) (hc : cl i.op = 1) : acall T (k + 5) 47 0 [.agg i.c] [] = some ⟨.v (.bool (right i)), [], 1⟩ := by
  rw [acall_go (body := b_il_Right) rfl rfl (Nat.zero_le _)]
  obtain ⟨s, h⟩ := ilof_a (k + 2) i.op
  rw [hc] at h
  unfold right
  rw [hc]
  simp only [Int.reduceEq, if_true, if_false]
  have hs := stands_a k i 1
  have hi := is_a k i.k i.n
  simp only [Ins.c] at hs
  by_cases c0 : i.ar = 0
  · rw [if_pos c0]
    have c0' : (i.ar == 0) = true := by rw [c0]; rfl
    cases c1 : (i.n == 0) <;> cases c2 : (i.at_ == 0) <;> simp -implicitDefEqProofs only [eqs, eqd, eqe, lh_some, ↓reduceIte, reduceCtorEq, Nat.reduceEqDiff, Nat.reduceAdd, Nat.reduceSub, Nat.reduceMul, Nat.reduceLT, Nat.reduceLeDiff, Nat.reduceBEq, Nat.reduceBNe, Nat.reduceGT, Int.reduceEq, Int.reduceLT, Int.reduceLE, Int.reduceToNat, Int.reduceAdd, Int.reduceSub, Int.reduceMul, Int.reduceNeg, Int.reduceBEq, Int.reduceBNe, b_il_Right, gs_il_Right, h, Ins.c, hi, c0', c1, c2]
  · rw [if_neg c0]
    have c0' : (i.ar == 0) = false := by simpa using c0
    simp -implicitDefEqProofs only [eqs, eqd, eqe, lh_some, ↓reduceIte, reduceCtorEq, Nat.reduceEqDiff, Nat.reduceAdd, Nat.reduceSub, Nat.reduceMul, Nat.reduceLT, Nat.reduceLeDiff, Nat.reduceBEq, Nat.reduceBNe, Nat.reduceGT, Int.reduceEq, Int.reduceLT, Int.reduceLE, Int.reduceToNat, Int.reduceAdd, Int.reduceSub, Int.reduceMul, Int.reduceNeg, Int.reduceBEq, Int.reduceBNe, b_il_Right, gs_il_Right, h, Ins.c, hs, c0']
theorem right_2 (k : Nat) (i : Ins) (hc : cl i.op = 2) : acall T (k + 5) 47 0 [.agg i.c] [] = some ⟨.v (.bool (right i)), [], 1⟩ := by
  rw [acall_go (body := b_il_Right) rfl rfl (Nat.zero_le _)]
  obtain ⟨s, h⟩ := ilof_a (k + 2) i.op
  rw [hc] at h
  unfold right
  rw [hc]
  simp only [Int.reduceEq, if_true, if_false]
  have hs := stands_a k i 2
  simp only [Ins.c] at hs
  cases c0 : (i.ar == 0) <;> cases c1 : (i.n == 0) <;> simp -implicitDefEqProofs only [eqs, eqd, eqe, lh_some, ↓reduceIte, reduceCtorEq, Nat.reduceEqDiff, Nat.reduceAdd, Nat.reduceSub, Nat.reduceMul, Nat.reduceLT, Nat.reduceLeDiff, Nat.reduceBEq, Nat.reduceBNe, Nat.reduceGT, Int.reduceEq, Int.reduceLT, Int.reduceLE, Int.reduceToNat, Int.reduceAdd, Int.reduceSub, Int.reduceMul, Int.reduceNeg, Int.reduceBEq, Int.reduceBNe, b_il_Right, gs_il_Right, h, Ins.c, hs, c0, c1]
theorem right_3 (k : Nat) (i : Ins) (hc : cl i.op = 3) : acall T (k + 5) 47 0 [.agg i.c] [] = some ⟨.v (.bool (right i)), [], 1⟩ := by
  rw [acall_go (body := b_il_Right) rfl rfl (Nat.zero_le _)]
  obtain ⟨s, h⟩ := ilof_a (k + 2) i.op
  rw [hc] at h
  unfold right
  rw [hc]
  simp only [Int.reduceEq, if_true, if_false]
  try simp -implicitDefEqProofs only [eqs, eqd, eqe, lh_some, ↓reduceIte, reduceCtorEq, Nat.reduceEqDiff, Nat.reduceAdd, Nat.reduceSub, Nat.reduceMul, Nat.reduceLT, Nat.reduceLeDiff, Nat.reduceBEq, Nat.reduceBNe, Nat.reduceGT, Int.reduceEq, Int.reduceLT, Int.reduceLE, Int.reduceToNat, Int.reduceAdd, Int.reduceSub, Int.reduceMul, Int.reduceNeg, Int.reduceBEq, Int.reduceBNe, b_il_Right, gs_il_Right, h, Ins.c]
  cases h0 : (i.ar == 0)
  · simp -implicitDefEqProofs only [eqs, eqd, eqe, lh_some, ↓reduceIte, reduceCtorEq, Nat.reduceEqDiff, Nat.reduceAdd, Nat.reduceSub, Nat.reduceMul, Nat.reduceLT, Nat.reduceLeDiff, Nat.reduceBEq, Nat.reduceBNe, Nat.reduceGT, Int.reduceEq, Int.reduceLT, Int.reduceLE, Int.reduceToNat, Int.reduceAdd, Int.reduceSub, Int.reduceMul, Int.reduceNeg, Int.reduceBEq, Int.reduceBNe, b_il_Right, gs_il_Right, h, Ins.c, h0]
  try simp -implicitDefEqProofs only [eqs, eqd, eqe, lh_some, ↓reduceIte, reduceCtorEq, Nat.reduceEqDiff, Nat.reduceAdd, Nat.reduceSub, Nat.reduceMul, Nat.reduceLT, Nat.reduceLeDiff, Nat.reduceBEq, Nat.reduceBNe, Nat.reduceGT, Int.reduceEq, Int.reduceLT, Int.reduceLE, Int.reduceToNat, Int.reduceAdd, Int.reduceSub, Int.reduceMul, Int.reduceNeg, Int.reduceBEq, Int.reduceBNe, b_il_Right, gs_il_Right, h, Ins.c, h0]
  cases h1 : (i.n == 0)
  · simp -implicitDefEqProofs only [eqs, eqd, eqe, lh_some, ↓reduceIte, reduceCtorEq, Nat.reduceEqDiff, Nat.reduceAdd, Nat.reduceSub, Nat.reduceMul, Nat.reduceLT, Nat.reduceLeDiff, Nat.reduceBEq, Nat.reduceBNe, Nat.reduceGT, Int.reduceEq, Int.reduceLT, Int.reduceLE, Int.reduceToNat, Int.reduceAdd, Int.reduceSub, Int.reduceMul, Int.reduceNeg, Int.reduceBEq, Int.reduceBNe, b_il_Right, gs_il_Right, h, Ins.c, h0, h1]
  try simp -implicitDefEqProofs only [eqs, eqd, eqe, lh_some, ↓reduceIte, reduceCtorEq, Nat.reduceEqDiff, Nat.reduceAdd, Nat.reduceSub, Nat.reduceMul, Nat.reduceLT, Nat.reduceLeDiff, Nat.reduceBEq, Nat.reduceBNe, Nat.reduceGT, Int.reduceEq, Int.reduceLT, Int.reduceLE, Int.reduceToNat, Int.reduceAdd, Int.reduceSub, Int.reduceMul, Int.reduceNeg, Int.reduceBEq, Int.reduceBNe, b_il_Right, gs_il_Right, h, Ins.c, h0, h1]
  cases h2 : (i.k == 0)
  · simp -implicitDefEqProofs only [eqs, eqd, eqe, lh_some, ↓reduceIte, reduceCtorEq, Nat.reduceEqDiff, Nat.reduceAdd, Nat.reduceSub, Nat.reduceMul, Nat.reduceLT, Nat.reduceLeDiff, Nat.reduceBEq, Nat.reduceBNe, Nat.reduceGT, Int.reduceEq, Int.reduceLT, Int.reduceLE, Int.reduceToNat, Int.reduceAdd, Int.reduceSub, Int.reduceMul, Int.reduceNeg, Int.reduceBEq, Int.reduceBNe, b_il_Right, gs_il_Right, h, Ins.c, h0, h1, h2]
  try simp -implicitDefEqProofs only [eqs, eqd, eqe, lh_some, ↓reduceIte, reduceCtorEq, Nat.reduceEqDiff, Nat.reduceAdd, Nat.reduceSub, Nat.reduceMul, Nat.reduceLT, Nat.reduceLeDiff, Nat.reduceBEq, Nat.reduceBNe, Nat.reduceGT, Int.reduceEq, Int.reduceLT, Int.reduceLE, Int.reduceToNat, Int.reduceAdd, Int.reduceSub, Int.reduceMul, Int.reduceNeg, Int.reduceBEq, Int.reduceBNe, b_il_Right, gs_il_Right, h, Ins.c, h0, h1, h2]
  cases h3 : decide (0 ≤ i.at_)
  · simp -implicitDefEqProofs only [eqs, eqd, eqe, lh_some, ↓reduceIte, reduceCtorEq, Nat.reduceEqDiff, Nat.reduceAdd, Nat.reduceSub, Nat.reduceMul, Nat.reduceLT, Nat.reduceLeDiff, Nat.reduceBEq, Nat.reduceBNe, Nat.reduceGT, Int.reduceEq, Int.reduceLT, Int.reduceLE, Int.reduceToNat, Int.reduceAdd, Int.reduceSub, Int.reduceMul, Int.reduceNeg, Int.reduceBEq, Int.reduceBNe, b_il_Right, gs_il_Right, h, Ins.c, h0, h1, h2, h3]
  simp -implicitDefEqProofs only [eqs, eqd, eqe, lh_some, ↓reduceIte, reduceCtorEq, Nat.reduceEqDiff, Nat.reduceAdd, Nat.reduceSub, Nat.reduceMul, Nat.reduceLT, Nat.reduceLeDiff, Nat.reduceBEq, Nat.reduceBNe, Nat.reduceGT, Int.reduceEq, Int.reduceLT, Int.reduceLE, Int.reduceToNat, Int.reduceAdd, Int.reduceSub, Int.reduceMul, Int.reduceNeg, Int.reduceBEq, Int.reduceBNe, b_il_Right, gs_il_Right, h, Ins.c, h0, h1, h2, h3]
theorem right_4 (k : Nat) (i : Ins) (hc : cl i.op = 4) : acall T (k + 5) 47 0 [.agg i.c] [] = some ⟨.v (.bool (right i)), [], 1⟩ := by
  rw [acall_go (body := b_il_Right) rfl rfl (Nat.zero_le _)]
  obtain ⟨s, h⟩ := ilof_a (k + 2) i.op
  rw [hc] at h
  unfold right
  rw [hc]
  simp only [Int.reduceEq, if_true, if_false]
  try simp -implicitDefEqProofs only [eqs, eqd, eqe, lh_some, ↓reduceIte, reduceCtorEq, Nat.reduceEqDiff, Nat.reduceAdd, Nat.reduceSub, Nat.reduceMul, Nat.reduceLT, Nat.reduceLeDiff, Nat.reduceBEq, Nat.reduceBNe, Nat.reduceGT, Int.reduceEq, Int.reduceLT, Int.reduceLE, Int.reduceToNat, Int.reduceAdd, Int.reduceSub, Int.reduceMul, Int.reduceNeg, Int.reduceBEq, Int.reduceBNe, b_il_Right, gs_il_Right, h, Ins.c]
  cases h0 : (i.ar == 0)
  · simp -implicitDefEqProofs only [eqs, eqd, eqe, lh_some, ↓reduceIte, reduceCtorEq, Nat.reduceEqDiff, Nat.reduceAdd, Nat.reduceSub, Nat.reduceMul, Nat.reduceLT, Nat.reduceLeDiff, Nat.reduceBEq, Nat.reduceBNe, Nat.reduceGT, Int.reduceEq, Int.reduceLT, Int.reduceLE, Int.reduceToNat, Int.reduceAdd, Int.reduceSub, Int.reduceMul, Int.reduceNeg, Int.reduceBEq, Int.reduceBNe, b_il_Right, gs_il_Right, h, Ins.c, h0]
  try simp -implicitDefEqProofs only [eqs, eqd, eqe, lh_some, ↓reduceIte, reduceCtorEq, Nat.reduceEqDiff, Nat.reduceAdd, Nat.reduceSub, Nat.reduceMul, Nat.reduceLT, Nat.reduceLeDiff, Nat.reduceBEq, Nat.reduceBNe, Nat.reduceGT, Int.reduceEq, Int.reduceLT, Int.reduceLE, Int.reduceToNat, Int.reduceAdd, Int.reduceSub, Int.reduceMul, Int.reduceNeg, Int.reduceBEq, Int.reduceBNe, b_il_Right, gs_il_Right, h, Ins.c, h0]
  cases h1 : (i.n == 0)
  · simp -implicitDefEqProofs only [eqs, eqd, eqe, lh_some, ↓reduceIte, reduceCtorEq, Nat.reduceEqDiff, Nat.reduceAdd, Nat.reduceSub, Nat.reduceMul, Nat.reduceLT, Nat.reduceLeDiff, Nat.reduceBEq, Nat.reduceBNe, Nat.reduceGT, Int.reduceEq, Int.reduceLT, Int.reduceLE, Int.reduceToNat, Int.reduceAdd, Int.reduceSub, Int.reduceMul, Int.reduceNeg, Int.reduceBEq, Int.reduceBNe, b_il_Right, gs_il_Right, h, Ins.c, h0, h1]
  try simp -implicitDefEqProofs only [eqs, eqd, eqe, lh_some, ↓reduceIte, reduceCtorEq, Nat.reduceEqDiff, Nat.reduceAdd, Nat.reduceSub, Nat.reduceMul, Nat.reduceLT, Nat.reduceLeDiff, Nat.reduceBEq, Nat.reduceBNe, Nat.reduceGT, Int.reduceEq, Int.reduceLT, Int.reduceLE, Int.reduceToNat, Int.reduceAdd, Int.reduceSub, Int.reduceMul, Int.reduceNeg, Int.reduceBEq, Int.reduceBNe, b_il_Right, gs_il_Right, h, Ins.c, h0, h1]
  cases h2 : (i.k == 0)
  · simp -implicitDefEqProofs only [eqs, eqd, eqe, lh_some, ↓reduceIte, reduceCtorEq, Nat.reduceEqDiff, Nat.reduceAdd, Nat.reduceSub, Nat.reduceMul, Nat.reduceLT, Nat.reduceLeDiff, Nat.reduceBEq, Nat.reduceBNe, Nat.reduceGT, Int.reduceEq, Int.reduceLT, Int.reduceLE, Int.reduceToNat, Int.reduceAdd, Int.reduceSub, Int.reduceMul, Int.reduceNeg, Int.reduceBEq, Int.reduceBNe, b_il_Right, gs_il_Right, h, Ins.c, h0, h1, h2]
  simp -implicitDefEqProofs only [eqs, eqd, eqe, lh_some, ↓reduceIte, reduceCtorEq, Nat.reduceEqDiff, Nat.reduceAdd, Nat.reduceSub, Nat.reduceMul, Nat.reduceLT, Nat.reduceLeDiff, Nat.reduceBEq, Nat.reduceBNe, Nat.reduceGT, Int.reduceEq, Int.reduceLT, Int.reduceLE, Int.reduceToNat, Int.reduceAdd, Int.reduceSub, Int.reduceMul, Int.reduceNeg, Int.reduceBEq, Int.reduceBNe, b_il_Right, gs_il_Right, h, Ins.c, h0, h1, h2]
theorem right_5 (k : Nat) (i : Ins) (hc : cl i.op = 5) : acall T (k + 5) 47 0 [.agg i.c] [] = some ⟨.v (.bool (right i)), [], 1⟩ := by
  rw [acall_go (body := b_il_Right) rfl rfl (Nat.zero_le _)]
  obtain ⟨s, h⟩ := ilof_a (k + 2) i.op
  rw [hc] at h
  unfold right
  rw [hc]
  simp only [Int.reduceEq, if_true, if_false]
  have hz := ksize_a (k + 1) i.k
  try simp -implicitDefEqProofs only [eqs, eqd, eqe, lh_some, ↓reduceIte, reduceCtorEq, Nat.reduceEqDiff, Nat.reduceAdd, Nat.reduceSub, Nat.reduceMul, Nat.reduceLT, Nat.reduceLeDiff, Nat.reduceBEq, Nat.reduceBNe, Nat.reduceGT, Int.reduceEq, Int.reduceLT, Int.reduceLE, Int.reduceToNat, Int.reduceAdd, Int.reduceSub, Int.reduceMul, Int.reduceNeg, Int.reduceBEq, Int.reduceBNe, b_il_Right, gs_il_Right, h, Ins.c, hz]
  cases h0 : (i.ar == 0)
  · simp -implicitDefEqProofs only [eqs, eqd, eqe, lh_some, ↓reduceIte, reduceCtorEq, Nat.reduceEqDiff, Nat.reduceAdd, Nat.reduceSub, Nat.reduceMul, Nat.reduceLT, Nat.reduceLeDiff, Nat.reduceBEq, Nat.reduceBNe, Nat.reduceGT, Int.reduceEq, Int.reduceLT, Int.reduceLE, Int.reduceToNat, Int.reduceAdd, Int.reduceSub, Int.reduceMul, Int.reduceNeg, Int.reduceBEq, Int.reduceBNe, b_il_Right, gs_il_Right, h, Ins.c, hz, h0]
  try simp -implicitDefEqProofs only [eqs, eqd, eqe, lh_some, ↓reduceIte, reduceCtorEq, Nat.reduceEqDiff, Nat.reduceAdd, Nat.reduceSub, Nat.reduceMul, Nat.reduceLT, Nat.reduceLeDiff, Nat.reduceBEq, Nat.reduceBNe, Nat.reduceGT, Int.reduceEq, Int.reduceLT, Int.reduceLE, Int.reduceToNat, Int.reduceAdd, Int.reduceSub, Int.reduceMul, Int.reduceNeg, Int.reduceBEq, Int.reduceBNe, b_il_Right, gs_il_Right, h, Ins.c, hz, h0]
  cases h1 : (i.n == 0)
  · simp -implicitDefEqProofs only [eqs, eqd, eqe, lh_some, ↓reduceIte, reduceCtorEq, Nat.reduceEqDiff, Nat.reduceAdd, Nat.reduceSub, Nat.reduceMul, Nat.reduceLT, Nat.reduceLeDiff, Nat.reduceBEq, Nat.reduceBNe, Nat.reduceGT, Int.reduceEq, Int.reduceLT, Int.reduceLE, Int.reduceToNat, Int.reduceAdd, Int.reduceSub, Int.reduceMul, Int.reduceNeg, Int.reduceBEq, Int.reduceBNe, b_il_Right, gs_il_Right, h, Ins.c, hz, h0, h1]
  try simp -implicitDefEqProofs only [eqs, eqd, eqe, lh_some, ↓reduceIte, reduceCtorEq, Nat.reduceEqDiff, Nat.reduceAdd, Nat.reduceSub, Nat.reduceMul, Nat.reduceLT, Nat.reduceLeDiff, Nat.reduceBEq, Nat.reduceBNe, Nat.reduceGT, Int.reduceEq, Int.reduceLT, Int.reduceLE, Int.reduceToNat, Int.reduceAdd, Int.reduceSub, Int.reduceMul, Int.reduceNeg, Int.reduceBEq, Int.reduceBNe, b_il_Right, gs_il_Right, h, Ins.c, hz, h0, h1]
  cases h2 : (i.at_ == 0)
  · simp -implicitDefEqProofs only [eqs, eqd, eqe, lh_some, ↓reduceIte, reduceCtorEq, Nat.reduceEqDiff, Nat.reduceAdd, Nat.reduceSub, Nat.reduceMul, Nat.reduceLT, Nat.reduceLeDiff, Nat.reduceBEq, Nat.reduceBNe, Nat.reduceGT, Int.reduceEq, Int.reduceLT, Int.reduceLE, Int.reduceToNat, Int.reduceAdd, Int.reduceSub, Int.reduceMul, Int.reduceNeg, Int.reduceBEq, Int.reduceBNe, b_il_Right, gs_il_Right, h, Ins.c, hz, h0, h1, h2]
  simp -implicitDefEqProofs only [eqs, eqd, eqe, lh_some, ↓reduceIte, reduceCtorEq, Nat.reduceEqDiff, Nat.reduceAdd, Nat.reduceSub, Nat.reduceMul, Nat.reduceLT, Nat.reduceLeDiff, Nat.reduceBEq, Nat.reduceBNe, Nat.reduceGT, Int.reduceEq, Int.reduceLT, Int.reduceLE, Int.reduceToNat, Int.reduceAdd, Int.reduceSub, Int.reduceMul, Int.reduceNeg, Int.reduceBEq, Int.reduceBNe, b_il_Right, gs_il_Right, h, Ins.c, hz, h0, h1, h2]
theorem right_6 (k : Nat) (i : Ins) (hc : cl i.op = 6) : acall T (k + 5) 47 0 [.agg i.c] [] = some ⟨.v (.bool (right i)), [], 1⟩ := by
  rw [acall_go (body := b_il_Right) rfl rfl (Nat.zero_le _)]
  obtain ⟨s, h⟩ := ilof_a (k + 2) i.op
  rw [hc] at h
  unfold right
  rw [hc]
  simp only [Int.reduceEq, if_true, if_false]
  have hz := within_a (k + 1) i.at_
  try simp -implicitDefEqProofs only [eqs, eqd, eqe, lh_some, ↓reduceIte, reduceCtorEq, Nat.reduceEqDiff, Nat.reduceAdd, Nat.reduceSub, Nat.reduceMul, Nat.reduceLT, Nat.reduceLeDiff, Nat.reduceBEq, Nat.reduceBNe, Nat.reduceGT, Int.reduceEq, Int.reduceLT, Int.reduceLE, Int.reduceToNat, Int.reduceAdd, Int.reduceSub, Int.reduceMul, Int.reduceNeg, Int.reduceBEq, Int.reduceBNe, b_il_Right, gs_il_Right, h, Ins.c, hz]
  cases h0 : (i.ar == 0)
  · simp -implicitDefEqProofs only [eqs, eqd, eqe, lh_some, ↓reduceIte, reduceCtorEq, Nat.reduceEqDiff, Nat.reduceAdd, Nat.reduceSub, Nat.reduceMul, Nat.reduceLT, Nat.reduceLeDiff, Nat.reduceBEq, Nat.reduceBNe, Nat.reduceGT, Int.reduceEq, Int.reduceLT, Int.reduceLE, Int.reduceToNat, Int.reduceAdd, Int.reduceSub, Int.reduceMul, Int.reduceNeg, Int.reduceBEq, Int.reduceBNe, b_il_Right, gs_il_Right, h, Ins.c, hz, h0]
  try simp -implicitDefEqProofs only [eqs, eqd, eqe, lh_some, ↓reduceIte, reduceCtorEq, Nat.reduceEqDiff, Nat.reduceAdd, Nat.reduceSub, Nat.reduceMul, Nat.reduceLT, Nat.reduceLeDiff, Nat.reduceBEq, Nat.reduceBNe, Nat.reduceGT, Int.reduceEq, Int.reduceLT, Int.reduceLE, Int.reduceToNat, Int.reduceAdd, Int.reduceSub, Int.reduceMul, Int.reduceNeg, Int.reduceBEq, Int.reduceBNe, b_il_Right, gs_il_Right, h, Ins.c, hz, h0]
  cases h1 : (i.n == 0)
  · simp -implicitDefEqProofs only [eqs, eqd, eqe, lh_some, ↓reduceIte, reduceCtorEq, Nat.reduceEqDiff, Nat.reduceAdd, Nat.reduceSub, Nat.reduceMul, Nat.reduceLT, Nat.reduceLeDiff, Nat.reduceBEq, Nat.reduceBNe, Nat.reduceGT, Int.reduceEq, Int.reduceLT, Int.reduceLE, Int.reduceToNat, Int.reduceAdd, Int.reduceSub, Int.reduceMul, Int.reduceNeg, Int.reduceBEq, Int.reduceBNe, b_il_Right, gs_il_Right, h, Ins.c, hz, h0, h1]
  try simp -implicitDefEqProofs only [eqs, eqd, eqe, lh_some, ↓reduceIte, reduceCtorEq, Nat.reduceEqDiff, Nat.reduceAdd, Nat.reduceSub, Nat.reduceMul, Nat.reduceLT, Nat.reduceLeDiff, Nat.reduceBEq, Nat.reduceBNe, Nat.reduceGT, Int.reduceEq, Int.reduceLT, Int.reduceLE, Int.reduceToNat, Int.reduceAdd, Int.reduceSub, Int.reduceMul, Int.reduceNeg, Int.reduceBEq, Int.reduceBNe, b_il_Right, gs_il_Right, h, Ins.c, hz, h0, h1]
  cases h2 : (i.k == 0)
  · simp -implicitDefEqProofs only [eqs, eqd, eqe, lh_some, ↓reduceIte, reduceCtorEq, Nat.reduceEqDiff, Nat.reduceAdd, Nat.reduceSub, Nat.reduceMul, Nat.reduceLT, Nat.reduceLeDiff, Nat.reduceBEq, Nat.reduceBNe, Nat.reduceGT, Int.reduceEq, Int.reduceLT, Int.reduceLE, Int.reduceToNat, Int.reduceAdd, Int.reduceSub, Int.reduceMul, Int.reduceNeg, Int.reduceBEq, Int.reduceBNe, b_il_Right, gs_il_Right, h, Ins.c, hz, h0, h1, h2]
  simp -implicitDefEqProofs only [eqs, eqd, eqe, lh_some, ↓reduceIte, reduceCtorEq, Nat.reduceEqDiff, Nat.reduceAdd, Nat.reduceSub, Nat.reduceMul, Nat.reduceLT, Nat.reduceLeDiff, Nat.reduceBEq, Nat.reduceBNe, Nat.reduceGT, Int.reduceEq, Int.reduceLT, Int.reduceLE, Int.reduceToNat, Int.reduceAdd, Int.reduceSub, Int.reduceMul, Int.reduceNeg, Int.reduceBEq, Int.reduceBNe, b_il_Right, gs_il_Right, h, Ins.c, hz, h0, h1, h2]
theorem right_7 (k : Nat) (i : Ins) (hc : cl i.op = 7) : acall T (k + 5) 47 0 [.agg i.c] [] = some ⟨.v (.bool (right i)), [], 1⟩ := by
  rw [acall_go (body := b_il_Right) rfl rfl (Nat.zero_le _)]
  obtain ⟨s, h⟩ := ilof_a (k + 2) i.op
  rw [hc] at h
  unfold right
  rw [hc]
  simp only [Int.reduceEq, if_true, if_false]
  have hz := keeps_a (k + 3) i.ar
  generalize (i.ar == 3 || i.ar == 4) = kp at *
  cases p0 : (i.ar == 0) <;> cases p1 : (i.n == 0) <;> (
    try simp -implicitDefEqProofs only [eqs, eqd, eqe, lh_some, ↓reduceIte, reduceCtorEq, Nat.reduceEqDiff, Nat.reduceAdd, Nat.reduceSub, Nat.reduceMul, Nat.reduceLT, Nat.reduceLeDiff, Nat.reduceBEq, Nat.reduceBNe, Nat.reduceGT, Int.reduceEq, Int.reduceLT, Int.reduceLE, Int.reduceToNat, Int.reduceAdd, Int.reduceSub, Int.reduceMul, Int.reduceNeg, Int.reduceBEq, Int.reduceBNe, b_il_Right, gs_il_Right, h, Ins.c, hz, p0, p1]
    cases h0 : (i.k == 0)
    · simp -implicitDefEqProofs only [eqs, eqd, eqe, lh_some, ↓reduceIte, reduceCtorEq, Nat.reduceEqDiff, Nat.reduceAdd, Nat.reduceSub, Nat.reduceMul, Nat.reduceLT, Nat.reduceLeDiff, Nat.reduceBEq, Nat.reduceBNe, Nat.reduceGT, Int.reduceEq, Int.reduceLT, Int.reduceLE, Int.reduceToNat, Int.reduceAdd, Int.reduceSub, Int.reduceMul, Int.reduceNeg, Int.reduceBEq, Int.reduceBNe, b_il_Right, gs_il_Right, h, Ins.c, hz, p0, p1, h0]
    try simp -implicitDefEqProofs only [eqs, eqd, eqe, lh_some, ↓reduceIte, reduceCtorEq, Nat.reduceEqDiff, Nat.reduceAdd, Nat.reduceSub, Nat.reduceMul, Nat.reduceLT, Nat.reduceLeDiff, Nat.reduceBEq, Nat.reduceBNe, Nat.reduceGT, Int.reduceEq, Int.reduceLT, Int.reduceLE, Int.reduceToNat, Int.reduceAdd, Int.reduceSub, Int.reduceMul, Int.reduceNeg, Int.reduceBEq, Int.reduceBNe, b_il_Right, gs_il_Right, h, Ins.c, hz, p0, p1, h0]
    cases kp
    · simp -implicitDefEqProofs only [eqs, eqd, eqe, lh_some, ↓reduceIte, reduceCtorEq, Nat.reduceEqDiff, Nat.reduceAdd, Nat.reduceSub, Nat.reduceMul, Nat.reduceLT, Nat.reduceLeDiff, Nat.reduceBEq, Nat.reduceBNe, Nat.reduceGT, Int.reduceEq, Int.reduceLT, Int.reduceLE, Int.reduceToNat, Int.reduceAdd, Int.reduceSub, Int.reduceMul, Int.reduceNeg, Int.reduceBEq, Int.reduceBNe, b_il_Right, gs_il_Right, h, Ins.c, hz, p0, p1, h0]
    try simp -implicitDefEqProofs only [eqs, eqd, eqe, lh_some, ↓reduceIte, reduceCtorEq, Nat.reduceEqDiff, Nat.reduceAdd, Nat.reduceSub, Nat.reduceMul, Nat.reduceLT, Nat.reduceLeDiff, Nat.reduceBEq, Nat.reduceBNe, Nat.reduceGT, Int.reduceEq, Int.reduceLT, Int.reduceLE, Int.reduceToNat, Int.reduceAdd, Int.reduceSub, Int.reduceMul, Int.reduceNeg, Int.reduceBEq, Int.reduceBNe, b_il_Right, gs_il_Right, h, Ins.c, hz, p0, p1, h0]
    cases h2 : decide (0 ≤ i.at_)
    · simp -implicitDefEqProofs only [eqs, eqd, eqe, lh_some, ↓reduceIte, reduceCtorEq, Nat.reduceEqDiff, Nat.reduceAdd, Nat.reduceSub, Nat.reduceMul, Nat.reduceLT, Nat.reduceLeDiff, Nat.reduceBEq, Nat.reduceBNe, Nat.reduceGT, Int.reduceEq, Int.reduceLT, Int.reduceLE, Int.reduceToNat, Int.reduceAdd, Int.reduceSub, Int.reduceMul, Int.reduceNeg, Int.reduceBEq, Int.reduceBNe, b_il_Right, gs_il_Right, h, Ins.c, hz, p0, p1, h0, h2]
    try simp -implicitDefEqProofs only [eqs, eqd, eqe, lh_some, ↓reduceIte, reduceCtorEq, Nat.reduceEqDiff, Nat.reduceAdd, Nat.reduceSub, Nat.reduceMul, Nat.reduceLT, Nat.reduceLeDiff, Nat.reduceBEq, Nat.reduceBNe, Nat.reduceGT, Int.reduceEq, Int.reduceLT, Int.reduceLE, Int.reduceToNat, Int.reduceAdd, Int.reduceSub, Int.reduceMul, Int.reduceNeg, Int.reduceBEq, Int.reduceBNe, b_il_Right, gs_il_Right, h, Ins.c, hz, p0, p1, h0, h2]
    cases h3 : decide (i.at_ ≤ 59)
    · simp -implicitDefEqProofs only [eqs, eqd, eqe, lh_some, ↓reduceIte, reduceCtorEq, Nat.reduceEqDiff, Nat.reduceAdd, Nat.reduceSub, Nat.reduceMul, Nat.reduceLT, Nat.reduceLeDiff, Nat.reduceBEq, Nat.reduceBNe, Nat.reduceGT, Int.reduceEq, Int.reduceLT, Int.reduceLE, Int.reduceToNat, Int.reduceAdd, Int.reduceSub, Int.reduceMul, Int.reduceNeg, Int.reduceBEq, Int.reduceBNe, b_il_Right, gs_il_Right, h, Ins.c, hz, p0, p1, h0, h2, h3]
    try simp -implicitDefEqProofs only [eqs, eqd, eqe, lh_some, ↓reduceIte, reduceCtorEq, Nat.reduceEqDiff, Nat.reduceAdd, Nat.reduceSub, Nat.reduceMul, Nat.reduceLT, Nat.reduceLeDiff, Nat.reduceBEq, Nat.reduceBNe, Nat.reduceGT, Int.reduceEq, Int.reduceLT, Int.reduceLE, Int.reduceToNat, Int.reduceAdd, Int.reduceSub, Int.reduceMul, Int.reduceNeg, Int.reduceBEq, Int.reduceBNe, b_il_Right, gs_il_Right, h, Ins.c, hz, p0, p1, h0, h2, h3]
    cases h4 : decide (1 ≤ i.n)
    · simp -implicitDefEqProofs only [eqs, eqd, eqe, lh_some, ↓reduceIte, reduceCtorEq, Nat.reduceEqDiff, Nat.reduceAdd, Nat.reduceSub, Nat.reduceMul, Nat.reduceLT, Nat.reduceLeDiff, Nat.reduceBEq, Nat.reduceBNe, Nat.reduceGT, Int.reduceEq, Int.reduceLT, Int.reduceLE, Int.reduceToNat, Int.reduceAdd, Int.reduceSub, Int.reduceMul, Int.reduceNeg, Int.reduceBEq, Int.reduceBNe, b_il_Right, gs_il_Right, h, Ins.c, hz, p0, p1, h0, h2, h3, h4]
    simp -implicitDefEqProofs only [eqs, eqd, eqe, lh_some, ↓reduceIte, reduceCtorEq, Nat.reduceEqDiff, Nat.reduceAdd, Nat.reduceSub, Nat.reduceMul, Nat.reduceLT, Nat.reduceLeDiff, Nat.reduceBEq, Nat.reduceBNe, Nat.reduceGT, Int.reduceEq, Int.reduceLT, Int.reduceLE, Int.reduceToNat, Int.reduceAdd, Int.reduceSub, Int.reduceMul, Int.reduceNeg, Int.reduceBEq, Int.reduceBNe, b_il_Right, gs_il_Right, h, Ins.c, hz, p0, p1, h0, h2, h3, h4])
theorem right_8 (k : Nat) (i : Ins) (hc : cl i.op = 8) : acall T (k + 5) 47 0 [.agg i.c] [] = some ⟨.v (.bool (right i)), [], 1⟩ := by
  rw [acall_go (body := b_il_Right) rfl rfl (Nat.zero_le _)]
  obtain ⟨s, h⟩ := ilof_a (k + 2) i.op
  rw [hc] at h
  unfold right
  rw [hc]
  simp only [Int.reduceEq, if_true, if_false]
  have hz := keeps_a (k + 3) i.ar
  generalize (i.ar == 3 || i.ar == 4) = kp at *
  cases p0 : (i.ar == 0) <;> cases p1 : (i.n == 0) <;> (
    try simp -implicitDefEqProofs only [eqs, eqd, eqe, lh_some, ↓reduceIte, reduceCtorEq, Nat.reduceEqDiff, Nat.reduceAdd, Nat.reduceSub, Nat.reduceMul, Nat.reduceLT, Nat.reduceLeDiff, Nat.reduceBEq, Nat.reduceBNe, Nat.reduceGT, Int.reduceEq, Int.reduceLT, Int.reduceLE, Int.reduceToNat, Int.reduceAdd, Int.reduceSub, Int.reduceMul, Int.reduceNeg, Int.reduceBEq, Int.reduceBNe, b_il_Right, gs_il_Right, h, Ins.c, hz, p0, p1]
    cases h0 : (i.k == 0)
    · simp -implicitDefEqProofs only [eqs, eqd, eqe, lh_some, ↓reduceIte, reduceCtorEq, Nat.reduceEqDiff, Nat.reduceAdd, Nat.reduceSub, Nat.reduceMul, Nat.reduceLT, Nat.reduceLeDiff, Nat.reduceBEq, Nat.reduceBNe, Nat.reduceGT, Int.reduceEq, Int.reduceLT, Int.reduceLE, Int.reduceToNat, Int.reduceAdd, Int.reduceSub, Int.reduceMul, Int.reduceNeg, Int.reduceBEq, Int.reduceBNe, b_il_Right, gs_il_Right, h, Ins.c, hz, p0, p1, h0]
    try simp -implicitDefEqProofs only [eqs, eqd, eqe, lh_some, ↓reduceIte, reduceCtorEq, Nat.reduceEqDiff, Nat.reduceAdd, Nat.reduceSub, Nat.reduceMul, Nat.reduceLT, Nat.reduceLeDiff, Nat.reduceBEq, Nat.reduceBNe, Nat.reduceGT, Int.reduceEq, Int.reduceLT, Int.reduceLE, Int.reduceToNat, Int.reduceAdd, Int.reduceSub, Int.reduceMul, Int.reduceNeg, Int.reduceBEq, Int.reduceBNe, b_il_Right, gs_il_Right, h, Ins.c, hz, p0, p1, h0]
    cases kp
    · simp -implicitDefEqProofs only [eqs, eqd, eqe, lh_some, ↓reduceIte, reduceCtorEq, Nat.reduceEqDiff, Nat.reduceAdd, Nat.reduceSub, Nat.reduceMul, Nat.reduceLT, Nat.reduceLeDiff, Nat.reduceBEq, Nat.reduceBNe, Nat.reduceGT, Int.reduceEq, Int.reduceLT, Int.reduceLE, Int.reduceToNat, Int.reduceAdd, Int.reduceSub, Int.reduceMul, Int.reduceNeg, Int.reduceBEq, Int.reduceBNe, b_il_Right, gs_il_Right, h, Ins.c, hz, p0, p1, h0]
    try simp -implicitDefEqProofs only [eqs, eqd, eqe, lh_some, ↓reduceIte, reduceCtorEq, Nat.reduceEqDiff, Nat.reduceAdd, Nat.reduceSub, Nat.reduceMul, Nat.reduceLT, Nat.reduceLeDiff, Nat.reduceBEq, Nat.reduceBNe, Nat.reduceGT, Int.reduceEq, Int.reduceLT, Int.reduceLE, Int.reduceToNat, Int.reduceAdd, Int.reduceSub, Int.reduceMul, Int.reduceNeg, Int.reduceBEq, Int.reduceBNe, b_il_Right, gs_il_Right, h, Ins.c, hz, p0, p1, h0]
    cases h2 : decide (0 ≤ i.at_)
    · simp -implicitDefEqProofs only [eqs, eqd, eqe, lh_some, ↓reduceIte, reduceCtorEq, Nat.reduceEqDiff, Nat.reduceAdd, Nat.reduceSub, Nat.reduceMul, Nat.reduceLT, Nat.reduceLeDiff, Nat.reduceBEq, Nat.reduceBNe, Nat.reduceGT, Int.reduceEq, Int.reduceLT, Int.reduceLE, Int.reduceToNat, Int.reduceAdd, Int.reduceSub, Int.reduceMul, Int.reduceNeg, Int.reduceBEq, Int.reduceBNe, b_il_Right, gs_il_Right, h, Ins.c, hz, p0, p1, h0, h2]
    try simp -implicitDefEqProofs only [eqs, eqd, eqe, lh_some, ↓reduceIte, reduceCtorEq, Nat.reduceEqDiff, Nat.reduceAdd, Nat.reduceSub, Nat.reduceMul, Nat.reduceLT, Nat.reduceLeDiff, Nat.reduceBEq, Nat.reduceBNe, Nat.reduceGT, Int.reduceEq, Int.reduceLT, Int.reduceLE, Int.reduceToNat, Int.reduceAdd, Int.reduceSub, Int.reduceMul, Int.reduceNeg, Int.reduceBEq, Int.reduceBNe, b_il_Right, gs_il_Right, h, Ins.c, hz, p0, p1, h0, h2]
    cases h3 : decide (i.at_ < 64)
    · simp -implicitDefEqProofs only [eqs, eqd, eqe, lh_some, ↓reduceIte, reduceCtorEq, Nat.reduceEqDiff, Nat.reduceAdd, Nat.reduceSub, Nat.reduceMul, Nat.reduceLT, Nat.reduceLeDiff, Nat.reduceBEq, Nat.reduceBNe, Nat.reduceGT, Int.reduceEq, Int.reduceLT, Int.reduceLE, Int.reduceToNat, Int.reduceAdd, Int.reduceSub, Int.reduceMul, Int.reduceNeg, Int.reduceBEq, Int.reduceBNe, b_il_Right, gs_il_Right, h, Ins.c, hz, p0, p1, h0, h2, h3]
    simp -implicitDefEqProofs only [eqs, eqd, eqe, lh_some, ↓reduceIte, reduceCtorEq, Nat.reduceEqDiff, Nat.reduceAdd, Nat.reduceSub, Nat.reduceMul, Nat.reduceLT, Nat.reduceLeDiff, Nat.reduceBEq, Nat.reduceBNe, Nat.reduceGT, Int.reduceEq, Int.reduceLT, Int.reduceLE, Int.reduceToNat, Int.reduceAdd, Int.reduceSub, Int.reduceMul, Int.reduceNeg, Int.reduceBEq, Int.reduceBNe, b_il_Right, gs_il_Right, h, Ins.c, hz, p0, p1, h0, h2, h3])
theorem right_0 (k : Nat) (i : Ins) (hc : cl i.op = 0) : acall T (k + 5) 47 0 [.agg i.c] [] = some ⟨.v (.bool (right i)), [], 1⟩ := by
  rw [acall_go (body := b_il_Right) rfl rfl (Nat.zero_le _)]
  obtain ⟨s, h⟩ := ilof_a (k + 2) i.op
  rw [hc] at h
  unfold right
  rw [hc]
  simp only [Int.reduceEq, if_true, if_false]
  cases p0 : (i.ar == 0) <;> cases p1 : (i.n == 0) <;> simp -implicitDefEqProofs only [eqs, eqd, eqe, lh_some, ↓reduceIte, reduceCtorEq, Nat.reduceEqDiff, Nat.reduceAdd, Nat.reduceSub, Nat.reduceMul, Nat.reduceLT, Nat.reduceLeDiff, Nat.reduceBEq, Nat.reduceBNe, Nat.reduceGT, Int.reduceEq, Int.reduceLT, Int.reduceLE, Int.reduceToNat, Int.reduceAdd, Int.reduceSub, Int.reduceMul, Int.reduceNeg, Int.reduceBEq, Int.reduceBNe, b_il_Right, gs_il_Right, h, Ins.c, p0, p1]
theorem right_a (k : Nat) (i : Ins) : acall T (k + 5) 47 0 [.agg i.c] [] = some ⟨.v (.bool (right i)), [], 1⟩ := by
  have h : cl i.op = 0 ∨ cl i.op = 1 ∨ cl i.op = 2 ∨ cl i.op = 3 ∨ cl i.op = 4 ∨ cl i.op = 5 ∨ cl i.op = 6 ∨ cl i.op = 7 ∨ cl i.op = 8 := by
    unfold cl
    repeat' split
    all_goals omega
  rcases h with h | h | h | h | h | h | h | h | h
  · exact right_0 k i h
  · exact right_1 k i h
  · exact right_2 k i h
  · exact right_3 k i h
  · exact right_4 k i h
  · exact right_5 k i h
  · exact right_6 k i h
  · exact right_7 k i h
  · exact right_8 k i h
end Go.Proofs.Ythkjiclplecljaa.Ver
