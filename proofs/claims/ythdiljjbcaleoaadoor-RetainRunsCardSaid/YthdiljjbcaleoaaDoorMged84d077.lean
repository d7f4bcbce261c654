/-
  DERIVED: THE SHELF's CONTRACTS AT THIS DUMP, IN PLAIN WORDS (tools/lay-plain.mjs out of 'TrydRep.lean', which tools/lay-shelf.mjs wrote): THE SAME DECLARATIONS UNDER THE SAME NAMES: 'import', 'namespace', 'open', 'def', 'theorem' AND NOTHING ELSE: no command of the shelf's: FOR A HAND-IN. Each laying: the table of numbers ('.._ren') and one theorem, a field a fact of the dump's own or the kernel's comparison; each contract: ONE APPLICATION.
-/
import Derived.Shelf.Strings.Repeat
import Derived.Test.YthdiljjbcaleoaaDoorProg
import Derived.KernelRfl
import Derived.Test.YthdiljjbcaleoaaDoorMg3f8021d2
import Derived.Test.YthdiljjbcaleoaaDoorMg53f7c5e6
namespace Go.Proofs
open Go.Shelf
def Tryd.lays105_ren : Go.Shelf.Ren := ⟨fun | 105 => 45 | 212 => 60 | 99 => 61 | 165 => 62 | 166 => 63 | 170 => 64 | 169 => 65 | 263 => 77 | 264 => 78 | 206 => 79 | 240 => 80 | 241 => 81 | 276 => 87 | 277 => 88 | n => n, fun | 9 => 9 | 3 => 3 | 4 => 4 | 20 => 20 | 0 => 0 | 46 => 96 | 109 => 98 | 5 => 5 | 72 => 103 | 76 => 106 | 51 => 22 | 146 => 118 | 53 => 120 | 148 => 121 | 70 => 101 | 37 => 28 | 75 => 105 | 127 => 123 | 164 => 128 | 80 => 82 | n => n, fun | n => n⟩
theorem Tryd.lays105 : Go.Proofs.Lays.n105 Tryd.prog Tryd.lays105_ren := {
  mixed := by kernel_rfl
  f99 := Tryd.func61.trans (congrArg some (by kernel_rfl))
  f105 := Tryd.func45.trans (congrArg some (by kernel_rfl))
  f165 := Tryd.func62.trans (congrArg some (by kernel_rfl))
  f166 := Tryd.func63.trans (congrArg some (by kernel_rfl))
  f169 := Tryd.func65.trans (congrArg some (by kernel_rfl))
  f170 := Tryd.func64.trans (congrArg some (by kernel_rfl))
  f206 := Tryd.func79.trans (congrArg some (by kernel_rfl))
  f212 := Tryd.func60.trans (congrArg some (by kernel_rfl))
  f240 := Tryd.func80.trans (congrArg some (by kernel_rfl))
  f241 := Tryd.func81.trans (congrArg some (by kernel_rfl))
  f263 := Tryd.func77.trans (congrArg some (by kernel_rfl))
  f264 := Tryd.func78.trans (congrArg some (by kernel_rfl))
  f276 := Tryd.func87.trans (congrArg some (by kernel_rfl))
  f277 := Tryd.func88.trans (congrArg some (by kernel_rfl))
  t0 := Tryd.underlying0
  a0 := Tryd.isAgg0
  z0 := Tryd.sizeOf0
  v0 := Tryd.zeroValue0
  t3 := Tryd.underlying3
  a3 := Tryd.isAgg3
  z3 := Tryd.sizeOf3
  v3 := Tryd.zeroValue3
  t4 := Tryd.underlying4
  a4 := Tryd.isAgg4
  z4 := Tryd.sizeOf4
  v4 := Tryd.zeroValue4
  t5 := Tryd.underlying5
  a5 := Tryd.isAgg5
  z5 := Tryd.sizeOf5
  v5 := Tryd.zeroValue5
  t9 := Tryd.underlying9
  a9 := Tryd.isAgg9
  z9 := Tryd.sizeOf9
  v9 := Tryd.zeroValue9
  t20 := Tryd.underlying20
  a20 := Tryd.isAgg20
  z20 := Tryd.sizeOf20
  v20 := Tryd.zeroValue20
  t37 := Tryd.underlying28
  a37 := Tryd.isAgg28
  z37 := Tryd.sizeOf28
  v37 := Tryd.zeroValue28
  t46 := Tryd.underlying96
  a46 := Tryd.isAgg96
  z46 := Tryd.sizeOf96
  v46 := Tryd.zeroValue96
  t51 := Tryd.underlying22
  a51 := Tryd.isAgg22
  z51 := Tryd.sizeOf22
  v51 := Tryd.zeroValue22
  t53 := Tryd.underlying120
  a53 := Tryd.isAgg120
  z53 := Tryd.sizeOf120
  v53 := Tryd.zeroValue120
  t70 := Tryd.underlying101
  a70 := Tryd.isAgg101
  z70 := Tryd.sizeOf101
  v70 := Tryd.zeroValue101
  t72 := Tryd.underlying103
  a72 := Tryd.isAgg103
  z72 := Tryd.sizeOf103
  v72 := Tryd.zeroValue103
  t75 := Tryd.underlying105
  a75 := Tryd.isAgg105
  z75 := Tryd.sizeOf105
  v75 := Tryd.zeroValue105
  t76 := Tryd.underlying106
  a76 := Tryd.isAgg106
  z76 := Tryd.sizeOf106
  v76 := Tryd.zeroValue106
  t109 := Tryd.underlying98
  a109 := Tryd.isAgg98
  z109 := Tryd.sizeOf98
  v109 := Tryd.zeroValue98
  t127 := Tryd.underlying123
  a127 := Tryd.isAgg123
  z127 := Tryd.sizeOf123
  v127 := Tryd.zeroValue123
  t146 := Tryd.underlying118
  a146 := Tryd.isAgg118
  z146 := Tryd.sizeOf118
  v146 := Tryd.zeroValue118
  t148 := Tryd.underlying121
  a148 := Tryd.isAgg121
  z148 := Tryd.sizeOf121
  v148 := Tryd.zeroValue121
  t164 := Tryd.underlying128
  a164 := Tryd.isAgg128
  z164 := Tryd.sizeOf128
  v164 := Tryd.zeroValue128 }
theorem Tryd.Builder_Extra_105 : Builder.Extra Tryd.prog Tryd.lays105_ren := {
  sizeBuilder := by kernel_rfl
  liesBuilder := by kernel_rfl
  t5 := Tryd.underlying5
  a5 := Tryd.isAgg5
  z5 := Tryd.sizeOf5
  v5 := Tryd.zeroValue5
  infoByte := by kernel_rfl
  cellsByte := by kernel_rfl
  sizeByte := by kernel_rfl
  neB5 := by decide }
open Go.RowKit Go.Lib in
/-- **strings.Repeat: count ≥ 0, the result within one allocation: count copies of s.** (LAID: no walk: one application.) -/
theorem Tryd.strings_Repeat (s : ByteArray) (c : Nat) (w : World) (hc : c ≤ 9223372036854775807) (hlen : s.size * c ≤ 140737488355328) :
    Calls Tryd.prog 45 #[.string s, .int .i64 c] w fun e w' => e = .returned (.string ⟨(Lib.repeatL s.data.toList c).toArray⟩) ∧ Below w.heap.size w w' := Any.strings_Repeat Tryd.lays105 Tryd.Builder_Extra_105 s c w hc hlen
end Go.Proofs

/- What is known of library functions: strings.Repeat. -/
namespace Go.Proofs.YthdiljjbcaleoaaDoor.Ext
open Go Go.Proofs.YthdiljjbcaleoaaDoor.Sym
set_option linter.unusedVariables false
def rep (s : ByteArray) (c : Nat) : ByteArray := ⟨(Lib.repeatL s.data.toList c).toArray⟩
def ext : CT := fun f n args Ω => match args, Ω with
  | [.v (.string s), .v (.int .i64 c)], [] => if f = 45 ∧ n = 0 ∧ 0 ≤ c ∧ c ≤ 9223372036854775807 ∧ s.size * c.toNat ≤ 140737488355328 then some ⟨.v (.string (rep s c.toNat)), [], 1⟩ else none
  | _, _ => none
theorem ext_ok : CallsOK Tryd.prog ext := by
  intro f n args Ω r h Im ρ w vals hR hst hn hv
  unfold ext at h
  split at h
  case h_2 => cases h
  rename_i s c
  split at h
  case isFalse => cases h
  rename_i hc
  obtain ⟨rfl, rfl, h0, h1, h2⟩ := hc
  cases h
  have hvals : vals = [.string s, .int .i64 c] := by
    match vals, hv with
    | [a, b], hv =>
      obtain ⟨ha, hb, _⟩ := hv
      cases ha
      cases hb
      rfl
  subst hvals
  have hx := Go.Proofs.Tryd.strings_Repeat s c.toNat w (by omega) h2
  rw [Int.toNat_of_nonneg h0] at hx
  refine ⟨⟨_, Tryd.func45, by kernel_rfl, by kernel_rfl⟩, hx.mono fun e w' h => ?_⟩
  obtain ⟨he, hb⟩ := h
  refine ⟨_, Im, ρ, he, ?_⟩
  exact
    { val := .v rfl
      rel := hR.same hb.block
      im := fun b arr h => h
      imn := fun b h _ => h
      roots := fun i hi => rfl
      fr := ⟨hb.os, hb.tape, hb.output, hb.size, fun b h _ => hb.block b h⟩
      still := fun h => by cases h
      lvl := by show 1 ≤ 2; decide
      new := fun b h => .inl h
      fresh := fun b h => by
        obtain ⟨k, o, s1, s2, hk, _⟩ := h
        cases hk }
end Go.Proofs.YthdiljjbcaleoaaDoor.Ext

/- The program's functions, as the abstract machine has them. Written by a program for this claim. -/
namespace Go.Proofs.YthdiljjbcaleoaaDoor.Tab
open Go Go.Proofs.YthdiljjbcaleoaaDoor.Sym
set_option linter.unusedVariables false

/-- Calls that act. -/
def hv : List Nat := [4000000, 1000000, 49, 55, 67, 50, 51, 68, 52, 40, 59, 42, 41, 44, 43, 17, 35, 24, 10, 11, 14, 9, 16, 19, 76, 57, 58, 20]
/-! fugleman/retain.Size: 15 -/
def b_retain_Size : AC :=
 (.seq (.seq (.reg [⟨(some 0), none, .mv (.c (.v (.int .i64 0)))⟩]) (.drop [0, 0]))
 (.seq (.seq (.reg [⟨(some 0), none, .mv (.c (.v (.int .i64 148)))⟩]) (.drop []))
  .ret))
def a_retain_Size : AFn := ⟨0, b_retain_Size, [.t 0], false, false⟩
theorem a_retain_Size_ok : compF Tryd.prog Tryd.f15 [[0, 0], []] false false hv = some a_retain_Size := by kernel_rfl

/-! (*fugleman/store.Store).Len: 27 -/
def b_store_Store_Len : AC :=
 (.seq (.seq (.reg [⟨(some 2), none, .mv (.c (.v (.int .i64 0)))⟩]) (.drop [1, 2]))
 (.seq (.seq (.seq (.reg [⟨(some 3), none, .mv (.t 0)⟩, ⟨(some 4), none, .eqp false (.t 3) (.c (.v (.pointer none)))⟩]) (.drop [1, 3]))
   (.cond (.t 4) (.seq (.seq (.reg [⟨(some 2), none, .mv (.c (.v (.int .i64 0)))⟩]) (.drop []))
     .ret)
    .skip))
  (.seq (.seq (.reg [⟨(some 5), none, .mv (.t 0)⟩, ⟨(some 6), none, .nilck (.t 5)⟩, ⟨(some 7), none, .fad 0 (.t 6)⟩, ⟨(some 8), none, .load none (.t 7)⟩, ⟨(some 9), none, .len (.t 8)⟩, ⟨(some 2), none, .mv (.t 9)⟩]) (.drop [3, 9]))
   .ret)))
def a_store_Store_Len : AFn := ⟨1, b_store_Store_Len, [.t 2], false, false⟩
theorem a_store_Store_Len_ok : compF Tryd.prog Tryd.f27 [[1, 2], [1, 3], [], [3, 9]] false false hv = some a_store_Store_Len := by kernel_rfl

/-! (*fugleman/store.Store).there: 37 -/
def b_store_Store_there : AC :=
 (.seq (.seq (.reg [⟨(some 6), none, .mv (.c (.v (.bool false)))⟩]) (.drop [3, 6]))
 (.seq (.seq (.reg [⟨(some 7), none, .mv (.t 1)⟩, ⟨(some 8), none, .bin .geq (.t 7) (.c (.v (.int .i64 0)))⟩, ⟨(some 9), none, .mv (.t 8)⟩, ⟨(some 10), (some (9, true)), .mv (.t 1)⟩, ⟨(some 11), (some (9, true)), .mv (.t 0)⟩, ⟨(some 12), (some (9, true)), .call (.c (.fn 27 [])) [(.t 11)]⟩, ⟨(some 13), (some (9, true)), .bin .leq (.t 10) (.t 12)⟩, ⟨(some 14), none, .pick (.t 9) (.t 13) (.c (.v (.bool false)))⟩, ⟨(some 15), none, .mv (.t 14)⟩, ⟨(some 16), (some (15, true)), .mv (.t 2)⟩, ⟨(some 17), (some (15, true)), .bin .geq (.t 16) (.c (.v (.int .i64 0)))⟩, ⟨(some 18), none, .pick (.t 15) (.t 17) (.c (.v (.bool false)))⟩, ⟨(some 19), none, .mv (.t 18)⟩, ⟨(some 20), (some (19, true)), .mv (.t 2)⟩, ⟨(some 21), (some (19, true)), .mv (.t 0)⟩, ⟨(some 22), (some (19, true)), .call (.c (.fn 27 [])) [(.t 21)]⟩, ⟨(some 23), (some (19, true)), .mv (.t 1)⟩, ⟨(some 24), (some (19, true)), .bin .sub (.t 22) (.t 23)⟩, ⟨(some 25), (some (19, true)), .bin .leq (.t 20) (.t 24)⟩, ⟨(some 26), none, .pick (.t 19) (.t 25) (.c (.v (.bool false)))⟩, ⟨(some 6), none, .mv (.t 26)⟩]) (.drop [7, 26]))
  .ret))
def a_store_Store_there : AFn := ⟨3, b_store_Store_there, [.t 6], false, false⟩
theorem a_store_Store_there_ok : compF Tryd.prog Tryd.f37 [[3, 6], [7, 26]] false false hv = some a_store_Store_there := by kernel_rfl

/-! (*fugleman/store.Store).Read: 26 -/
def b_store_Store_Read : AC :=
 (.seq (.seq (.reg [⟨(some 6), none, .mv (.c (.v (.string ⟨#[]⟩)))⟩, ⟨(some 7), none, .mv (.c (.v (.bool false)))⟩]) (.drop [3, 7]))
 (.seq (.seq (.seq (.reg [⟨(some 8), none, .mv (.t 0)⟩, ⟨(some 9), none, .eqp false (.t 8) (.c (.v (.pointer none)))⟩, ⟨(some 10), none, .mv (.t 9)⟩, ⟨(some 11), (some (10, false)), .mv (.t 0)⟩, ⟨(some 12), (some (10, false)), .mv (.t 1)⟩, ⟨(some 13), (some (10, false)), .mv (.t 2)⟩, ⟨(some 14), (some (10, false)), .call (.c (.fn 37 [])) [(.t 11), (.t 12), (.t 13)]⟩, ⟨(some 15), (some (10, false)), .un .not (.t 14)⟩, ⟨(some 16), none, .pick (.t 10) (.c (.v (.bool true))) (.t 15)⟩]) (.drop [3, 15]))
   (.cond (.t 16) (.seq (.seq (.reg [⟨(some 6), none, .mv (.c (.v (.string ⟨#[]⟩)))⟩, ⟨(some 7), none, .mv (.c (.v (.bool false)))⟩]) (.drop []))
     .ret)
    .skip))
  (.seq (.seq (.reg [⟨(some 17), none, .mv (.t 0)⟩, ⟨(some 18), none, .nilck (.t 17)⟩, ⟨(some 19), none, .fad 0 (.t 18)⟩, ⟨(some 20), none, .load none (.t 19)⟩, ⟨(some 21), none, .mv (.t 1)⟩, ⟨(some 22), none, .mv (.t 1)⟩, ⟨(some 23), none, .mv (.t 2)⟩, ⟨(some 24), none, .bin .add (.t 22) (.t 23)⟩, ⟨(some 25), none, .sls 1 (.t 20) (some (.t 21)) (some (.t 24)) none⟩, ⟨(some 26), none, .cvbs (.t 25)⟩, ⟨(some 6), none, .mv (.t 26)⟩, ⟨(some 7), none, .mv (.c (.v (.bool true)))⟩]) (.drop [8, 26]))
   .ret)))
def a_store_Store_Read : AFn := ⟨3, b_store_Store_Read, [.t 6, .t 7], false, false⟩
theorem a_store_Store_Read_ok : compF Tryd.prog Tryd.f26 [[3, 7], [3, 15], [], [8, 26]] false false hv = some a_store_Store_Read := by kernel_rfl

/-! fugleman/crc.quarter: 89 -/
def b_crc_quarter : AC :=
 (.seq (.seq (.reg [⟨(some 2), none, .mv (.c (.v (.int .u16 0)))⟩]) (.drop [1, 2]))
 (.seq (.seq (.reg [⟨(some 3), none, .build [(.v (.int .u16 0)), (.v (.int .u16 0)), (.v (.int .u16 0)), (.v (.int .u16 0)), (.v (.int .u16 0)), (.v (.int .u16 0)), (.v (.int .u16 0)), (.v (.int .u16 0)), (.v (.int .u16 0)), (.v (.int .u16 0)), (.v (.int .u16 0)), (.v (.int .u16 0)), (.v (.int .u16 0)), (.v (.int .u16 0)), (.v (.int .u16 0)), (.v (.int .u16 0))] [(0, 1, (.c (.v (.int .u16 0)))), (1, 1, (.c (.v (.int .u16 4129)))), (2, 1, (.c (.v (.int .u16 8258)))), (3, 1, (.c (.v (.int .u16 12387)))), (4, 1, (.c (.v (.int .u16 16516)))), (5, 1, (.c (.v (.int .u16 20645)))), (6, 1, (.c (.v (.int .u16 24774)))), (7, 1, (.c (.v (.int .u16 28903)))), (8, 1, (.c (.v (.int .u16 33032)))), (9, 1, (.c (.v (.int .u16 37161)))), (10, 1, (.c (.v (.int .u16 41290)))), (11, 1, (.c (.v (.int .u16 45419)))), (12, 1, (.c (.v (.int .u16 49548)))), (13, 1, (.c (.v (.int .u16 53677)))), (14, 1, (.c (.v (.int .u16 57806)))), (15, 1, (.c (.v (.int .u16 61935))))]⟩, ⟨(some 4), none, .mv (.t 0)⟩, ⟨(some 5), none, .bin .and (.t 4) (.c (.v (.int .u16 15)))⟩, ⟨(some 6), none, .ixv 16 1 none (.t 3) (.t 5)⟩, ⟨(some 2), none, .mv (.t 6)⟩]) (.drop [3, 6]))
  .ret))
def a_crc_quarter : AFn := ⟨1, b_crc_quarter, [.t 2], false, false⟩
theorem a_crc_quarter_ok : compF Tryd.prog Tryd.f89 [[1, 2], [3, 6]] false false hv = some a_crc_quarter := by kernel_rfl

/-! fugleman/crc.More: 82 -/
def l_crc_More_1 : AC :=
 (.seq (.seq (.reg [⟨(some 34), none, .mv (.t 0)⟩, ⟨(some 4), none, .mv (.t 34)⟩]) (.drop [5, 34]))
 .ret)
def l_crc_More_0 : AC :=
 (.seq (.seq (.reg [⟨(some 10), none, .bin .lss (.t 9) (.t 8)⟩]) (.drop []))
 (.seq (.cond (.t 10) .skip
   (.exit 0))
  (.seq (.block 1 (.seq (.seq (.reg [⟨(some 11), none, .mv (.t 9)⟩, ⟨(some 5), none, .mv (.t 11)⟩]) (.drop [10, 11]))
     (.seq (.seq (.reg [⟨(some 12), none, .mv (.t 1)⟩, ⟨(some 13), none, .mv (.t 5)⟩, ⟨(some 14), none, .ixstr (.t 12) (.t 13)⟩, ⟨(some 15), none, .cvi .u16 (.t 14)⟩, ⟨(some 6), none, .mv (.t 15)⟩]) (.drop [10, 15]))
      (.seq (.seq (.reg [⟨(some 16), none, .mv (.t 0)⟩, ⟨(some 17), none, .bin .shl (.t 16) (.c (.v (.int .u64 4)))⟩, ⟨(some 18), none, .mv (.t 0)⟩, ⟨(some 19), none, .bin .shr (.t 18) (.c (.v (.int .u64 12)))⟩, ⟨(some 20), none, .mv (.t 6)⟩, ⟨(some 21), none, .bin .shr (.t 20) (.c (.v (.int .u64 4)))⟩, ⟨(some 22), none, .bin .xor (.t 19) (.t 21)⟩, ⟨(some 23), none, .call (.c (.fn 89 [])) [(.t 22)]⟩, ⟨(some 24), none, .bin .xor (.t 17) (.t 23)⟩, ⟨(some 0), none, .mv (.t 24)⟩]) (.drop [10, 24]))
       (.seq (.reg [⟨(some 25), none, .mv (.t 0)⟩, ⟨(some 26), none, .bin .shl (.t 25) (.c (.v (.int .u64 4)))⟩, ⟨(some 27), none, .mv (.t 0)⟩, ⟨(some 28), none, .bin .shr (.t 27) (.c (.v (.int .u64 12)))⟩, ⟨(some 29), none, .mv (.t 6)⟩, ⟨(some 30), none, .bin .xor (.t 28) (.t 29)⟩, ⟨(some 31), none, .call (.c (.fn 89 [])) [(.t 30)]⟩, ⟨(some 32), none, .bin .xor (.t 26) (.t 31)⟩, ⟨(some 0), none, .mv (.t 32)⟩]) (.drop [10, 32]))))))
   (.seq (.reg [⟨(some 33), none, .bin .add (.t 9) (.c (.v (.int .i64 1)))⟩, ⟨(some 9), none, .mv (.t 33)⟩]) (.drop [10, 33])))))
def b_crc_More : AC :=
 (.seq (.seq (.reg [⟨(some 4), none, .mv (.c (.v (.int .u16 0)))⟩]) (.drop [2, 4]))
 (.seq (.seq (.seq (.reg [⟨(some 7), none, .mv (.t 1)⟩, ⟨(some 8), none, .lens (.t 7)⟩, ⟨(some 9), none, .mv (.c (.v (.int .i64 0)))⟩]) (.drop [2, 7]))
   (.block 0 (.loop [0, 1, 8, 9] l_crc_More_0)))
  l_crc_More_1))
def a_crc_More : AFn := ⟨2, b_crc_More, [.t 4], false, false⟩
theorem a_crc_More_ok : compF Tryd.prog Tryd.f82 [[2, 4], [2, 7], [0, 1, 8, 9], [], [10, 11], [10, 15], [10, 24], [10, 32], [10, 33], [5, 34]] false false hv = some a_crc_More := by kernel_rfl

/-! fugleman/crc.Sum: 66 -/
def b_crc_Sum : AC :=
 (.seq (.seq (.reg [⟨(some 2), none, .mv (.c (.v (.int .u16 0)))⟩]) (.drop [1, 2]))
 (.seq (.seq (.reg [⟨(some 3), none, .mv (.t 0)⟩, ⟨(some 4), none, .call (.c (.fn 82 [])) [(.c (.v (.int .u16 65535))), (.t 3)]⟩, ⟨(some 2), none, .mv (.t 4)⟩]) (.drop [3, 4]))
  .ret))
def a_crc_Sum : AFn := ⟨1, b_crc_Sum, [.t 2], false, false⟩
theorem a_crc_Sum_ok : compF Tryd.prog Tryd.f66 [[1, 2], [3, 4]] false false hv = some a_crc_Sum := by kernel_rfl

/-! fugleman/crc.Open: 48 -/
def b_crc_Open : AC :=
 (.seq (.seq (.reg [⟨(some 2), none, .mv (.c (.v (.string ⟨#[]⟩)))⟩, ⟨(some 3), none, .mv (.c (.v (.bool false)))⟩]) (.drop [1, 3]))
 (.seq (.seq (.seq (.reg [⟨(some 4), none, .mv (.t 0)⟩, ⟨(some 5), none, .lens (.t 4)⟩, ⟨(some 6), none, .bin .lss (.t 5) (.c (.v (.int .i64 2)))⟩, ⟨(some 7), none, .mv (.t 6)⟩, ⟨(some 8), (some (7, false)), .mv (.t 0)⟩, ⟨(some 9), (some (7, false)), .call (.c (.fn 66 [])) [(.t 8)]⟩, ⟨(some 10), (some (7, false)), .bin .neq (.t 9) (.c (.v (.int .u16 0)))⟩, ⟨(some 11), none, .pick (.t 7) (.c (.v (.bool true))) (.t 10)⟩]) (.drop [1, 10]))
   (.cond (.t 11) (.seq (.seq (.reg [⟨(some 2), none, .mv (.c (.v (.string ⟨#[]⟩)))⟩, ⟨(some 3), none, .mv (.c (.v (.bool false)))⟩]) (.drop []))
     .ret)
    .skip))
  (.seq (.seq (.reg [⟨(some 12), none, .mv (.t 0)⟩, ⟨(some 13), none, .mv (.t 0)⟩, ⟨(some 14), none, .lens (.t 13)⟩, ⟨(some 15), none, .bin .sub (.t 14) (.c (.v (.int .i64 2)))⟩, ⟨(some 16), none, .slstr (.t 12) none (some (.t 15))⟩, ⟨(some 2), none, .mv (.t 16)⟩, ⟨(some 3), none, .mv (.c (.v (.bool true)))⟩]) (.drop [4, 16]))
   .ret)))
def a_crc_Open : AFn := ⟨1, b_crc_Open, [.t 2, .t 3], false, false⟩
theorem a_crc_Open_ok : compF Tryd.prog Tryd.f48 [[1, 3], [1, 10], [], [4, 16]] false false hv = some a_crc_Open := by kernel_rfl

/-! fugleman/octets.NewEye: 49 -/
def b_octets_NewEye : AC :=
 (.seq (.seq (.reg [⟨(some 2), none, .mv (.c (.v (.pointer none)))⟩]) (.drop [1, 2]))
 (.seq (.seq (.reg [⟨(some 3), none, .mv (.t 0)⟩, ⟨(some 4), none, .build [(.v (.string ⟨#[]⟩)), (.v (.int .i64 0)), (.v (.bool false))] [(0, 1, (.t 3))]⟩, ⟨(some 5), none, .box (.t 4)⟩, ⟨(some 2), none, .mv (.t 5)⟩]) (.drop [3, 5]))
  .ret))
def a_octets_NewEye : AFn := ⟨1, b_octets_NewEye, [.t 2], false, false⟩
theorem a_octets_NewEye_ok : compF Tryd.prog Tryd.f49 [[1, 2], [3, 5]] false false hv = some a_octets_NewEye := by kernel_rfl

/-! (*fugleman/octets.Eye).Take: 55 -/
def b_octets_Eye_Take : AC :=
 (.seq (.seq (.reg [⟨(some 4), none, .mv (.c (.v (.string ⟨#[]⟩)))⟩]) (.drop [2, 4]))
 (.seq (.seq (.seq (.reg [⟨(some 5), none, .mv (.t 0)⟩, ⟨(some 6), none, .eqp false (.t 5) (.c (.v (.pointer none)))⟩]) (.drop [2, 5]))
   (.cond (.t 6) (.seq (.seq (.reg [⟨(some 4), none, .mv (.c (.v (.string ⟨#[]⟩)))⟩]) (.drop []))
     .ret)
    .skip))
  (.seq (.seq (.seq (.regm [(.o, ⟨(some 7), none, .mv (.t 0)⟩), (.o, ⟨(some 8), none, .mv (.t 0)⟩), (.o, ⟨(some 9), none, .nilck (.t 8)⟩), (.o, ⟨(some 10), none, .fad 2 (.t 9)⟩), (.o, ⟨(some 11), none, .load none (.t 10)⟩), (.o, ⟨(some 12), none, .mv (.t 11)⟩), (.o, ⟨(some 13), (some (12, false)), .mv (.t 1)⟩), (.o, ⟨(some 14), (some (12, false)), .bin .lss (.t 13) (.c (.v (.int .i64 0)))⟩), (.o, ⟨(some 15), none, .pick (.t 12) (.c (.v (.bool true))) (.t 14)⟩), (.o, ⟨(some 16), none, .mv (.t 15)⟩), (.o, ⟨(some 17), (some (16, false)), .mv (.t 1)⟩), (.o, ⟨(some 18), (some (16, false)), .mv (.t 0)⟩), (.o, ⟨(some 19), (some (16, false)), .nilck (.t 18)⟩), (.o, ⟨(some 20), (some (16, false)), .fad 0 (.t 19)⟩), (.o, ⟨(some 21), (some (16, false)), .load none (.t 20)⟩), (.o, ⟨(some 22), (some (16, false)), .lens (.t 21)⟩), (.o, ⟨(some 23), (some (16, false)), .mv (.t 0)⟩), (.o, ⟨(some 24), (some (16, false)), .nilck (.t 23)⟩), (.o, ⟨(some 25), (some (16, false)), .fad 1 (.t 24)⟩), (.o, ⟨(some 26), (some (16, false)), .load none (.t 25)⟩), (.o, ⟨(some 27), (some (16, false)), .bin .sub (.t 22) (.t 26)⟩), (.o, ⟨(some 28), (some (16, false)), .bin .gtr (.t 17) (.t 27)⟩), (.o, ⟨(some 29), none, .pick (.t 16) (.c (.v (.bool true))) (.t 28)⟩), (.o, ⟨(some 30), none, .nilck (.t 7)⟩), (.o, ⟨(some 31), none, .fad 2 (.t 30)⟩), (.o, ⟨none, none, .store 1 (.t 31) (.t 29)⟩)]) (.drop [2, 31]))
    (.seq (.seq (.reg [⟨(some 32), none, .mv (.t 0)⟩, ⟨(some 33), none, .nilck (.t 32)⟩, ⟨(some 34), none, .fad 2 (.t 33)⟩, ⟨(some 35), none, .load none (.t 34)⟩]) (.drop [2, 34]))
     (.cond (.t 35) (.seq (.seq (.reg [⟨(some 4), none, .mv (.c (.v (.string ⟨#[]⟩)))⟩]) (.drop []))
       .ret)
      .skip)))
   (.seq (.seq (.reg [⟨(some 36), none, .mv (.t 0)⟩, ⟨(some 37), none, .nilck (.t 36)⟩, ⟨(some 38), none, .fad 1 (.t 37)⟩, ⟨(some 39), none, .load none (.t 38)⟩, ⟨(some 40), none, .mv (.t 1)⟩, ⟨(some 41), none, .bin .add (.t 39) (.t 40)⟩, ⟨(some 42), none, .nilck (.t 36)⟩, ⟨(some 43), none, .fad 1 (.t 42)⟩, ⟨none, none, .store 1 (.t 43) (.t 41)⟩]) (.drop [2, 43]))
    (.seq (.seq (.regq [⟨(some 44), none, .mv (.t 0)⟩, ⟨(some 45), none, .nilck (.t 44)⟩, ⟨(some 46), none, .fad 0 (.t 45)⟩, ⟨(some 47), none, .load none (.t 46)⟩, ⟨(some 48), none, .mv (.t 0)⟩, ⟨(some 49), none, .nilck (.t 48)⟩, ⟨(some 50), none, .fad 1 (.t 49)⟩, ⟨(some 51), none, .load none (.t 50)⟩, ⟨(some 52), none, .mv (.t 1)⟩, ⟨(some 53), none, .bin .sub (.t 51) (.t 52)⟩, ⟨(some 54), none, .mv (.t 0)⟩, ⟨(some 55), none, .nilck (.t 54)⟩, ⟨(some 56), none, .fad 1 (.t 55)⟩, ⟨(some 57), none, .load none (.t 56)⟩, ⟨(some 58), none, .slstr (.t 47) (some (.t 53)) (some (.t 57))⟩, ⟨(some 4), none, .mv (.t 58)⟩]) (.drop [5, 58]))
     .ret)))))
def a_octets_Eye_Take : AFn := ⟨2, b_octets_Eye_Take, [.t 4], false, true⟩
theorem a_octets_Eye_Take_ok : compF Tryd.prog Tryd.f55 [[2, 4], [2, 5], [], [2, 31], [2, 34], [], [2, 43], [5, 58]] false true hv = some a_octets_Eye_Take := by kernel_rfl

/-! (*fugleman/octets.Eye).number: 67 -/
def l_octets_Eye_number_1 : AC :=
 (.seq (.seq (.reg [⟨(some 23), none, .mv (.t 5)⟩, ⟨(some 4), none, .mv (.t 23)⟩]) (.drop [5, 23]))
 .ret)
def l_octets_Eye_number_0 : AC :=
 (.seq (.seq (.reg [⟨(some 14), none, .bin .lss (.t 13) (.t 12)⟩]) (.drop []))
 (.seq (.cond (.t 14) .skip
   (.exit 0))
  (.seq (.block 1 (.seq (.seq (.reg [⟨(some 15), none, .ixs 1 (.t 11) (.t 13)⟩, ⟨(some 16), none, .load none (.t 15)⟩, ⟨(some 7), none, .mv (.t 16)⟩]) (.drop [14, 16]))
     (.seq (.reg [⟨(some 17), none, .mv (.t 5)⟩, ⟨(some 18), none, .bin .shl (.t 17) (.c (.v (.int .u64 8)))⟩, ⟨(some 19), none, .mv (.t 7)⟩, ⟨(some 20), none, .cvi .u32 (.t 19)⟩, ⟨(some 21), none, .bin .or (.t 18) (.t 20)⟩, ⟨(some 5), none, .mv (.t 21)⟩]) (.drop [14, 21]))))
   (.seq (.reg [⟨(some 22), none, .bin .add (.t 13) (.c (.v (.int .i64 1)))⟩, ⟨(some 13), none, .mv (.t 22)⟩]) (.drop [14, 22])))))
def b_octets_Eye_number : AC :=
 (.seq (.seq (.reg [⟨(some 4), none, .mv (.c (.v (.int .u32 0)))⟩]) (.drop [2, 4]))
 (.seq (.seq (.reg [⟨(some 5), none, .mv (.c (.v (.int .u32 0)))⟩]) (.drop []))
  (.seq (.seq (.seq (.reg [⟨(some 8), none, .mv (.t 0)⟩, ⟨(some 9), none, .mv (.t 1)⟩, ⟨(some 10), none, .call (.c (.fn 55 [])) [(.t 8), (.t 9)]⟩, ⟨(some 11), none, .cvsb (.t 10)⟩, ⟨(some 12), none, .len (.t 11)⟩, ⟨(some 13), none, .mv (.c (.v (.int .i64 0)))⟩]) (.drop [6, 10]))
    (.block 0 (.loop [5, 11, 12, 13] l_octets_Eye_number_0)))
   l_octets_Eye_number_1)))
def a_octets_Eye_number : AFn := ⟨2, b_octets_Eye_number, [.t 4], false, true⟩
theorem a_octets_Eye_number_ok : compF Tryd.prog Tryd.f67 [[2, 4], [], [6, 10], [5, 11, 12, 13], [], [14, 16], [14, 21], [14, 22], [5, 23]] false true hv = some a_octets_Eye_number := by kernel_rfl

/-! (*fugleman/octets.Eye).Four: 50 -/
def b_octets_Eye_Four : AC :=
 (.seq (.seq (.reg [⟨(some 2), none, .mv (.c (.v (.int .u32 0)))⟩]) (.drop [1, 2]))
 (.seq (.seq (.reg [⟨(some 3), none, .mv (.t 0)⟩, ⟨(some 4), none, .call (.c (.fn 67 [])) [(.t 3), (.c (.v (.int .i64 4)))]⟩, ⟨(some 2), none, .mv (.t 4)⟩]) (.drop [3, 4]))
  .ret))
def a_octets_Eye_Four : AFn := ⟨1, b_octets_Eye_Four, [.t 2], false, true⟩
theorem a_octets_Eye_Four_ok : compF Tryd.prog Tryd.f50 [[1, 2], [3, 4]] false true hv = some a_octets_Eye_Four := by kernel_rfl

/-! (*fugleman/octets.Eye).Two: 51 -/
def b_octets_Eye_Two : AC :=
 (.seq (.seq (.reg [⟨(some 2), none, .mv (.c (.v (.int .u16 0)))⟩]) (.drop [1, 2]))
 (.seq (.seq (.reg [⟨(some 3), none, .mv (.t 0)⟩, ⟨(some 4), none, .call (.c (.fn 67 [])) [(.t 3), (.c (.v (.int .i64 2)))]⟩, ⟨(some 5), none, .cvi .u16 (.t 4)⟩, ⟨(some 2), none, .mv (.t 5)⟩]) (.drop [3, 5]))
  .ret))
def a_octets_Eye_Two : AFn := ⟨1, b_octets_Eye_Two, [.t 2], false, true⟩
theorem a_octets_Eye_Two_ok : compF Tryd.prog Tryd.f51 [[1, 2], [3, 5]] false true hv = some a_octets_Eye_Two := by kernel_rfl

/-! (*fugleman/octets.Eye).Byte: 68 -/
def b_octets_Eye_Byte : AC :=
 (.seq (.seq (.reg [⟨(some 2), none, .mv (.c (.v (.int .u8 0)))⟩]) (.drop [1, 2]))
 (.seq (.seq (.reg [⟨(some 3), none, .mv (.t 0)⟩, ⟨(some 4), none, .call (.c (.fn 67 [])) [(.t 3), (.c (.v (.int .i64 1)))]⟩, ⟨(some 5), none, .cvi .u8 (.t 4)⟩, ⟨(some 2), none, .mv (.t 5)⟩]) (.drop [3, 5]))
  .ret))
def a_octets_Eye_Byte : AFn := ⟨1, b_octets_Eye_Byte, [.t 2], false, true⟩
theorem a_octets_Eye_Byte_ok : compF Tryd.prog Tryd.f68 [[1, 2], [3, 5]] false true hv = some a_octets_Eye_Byte := by kernel_rfl

/-! (*fugleman/octets.Eye).Small: 52 -/
def b_octets_Eye_Small : AC :=
 (.seq (.seq (.reg [⟨(some 2), none, .mv (.c (.v (.string ⟨#[]⟩)))⟩]) (.drop [1, 2]))
 (.seq (.seq (.reg [⟨(some 3), none, .mv (.t 0)⟩, ⟨(some 4), none, .mv (.t 0)⟩, ⟨(some 5), none, .call (.c (.fn 68 [])) [(.t 4)]⟩, ⟨(some 6), none, .cvi .i64 (.t 5)⟩, ⟨(some 7), none, .call (.c (.fn 55 [])) [(.t 3), (.t 6)]⟩, ⟨(some 2), none, .mv (.t 7)⟩]) (.drop [3, 7]))
  .ret))
def a_octets_Eye_Small : AFn := ⟨1, b_octets_Eye_Small, [.t 2], false, true⟩
theorem a_octets_Eye_Small_ok : compF Tryd.prog Tryd.f52 [[1, 2], [3, 7]] false true hv = some a_octets_Eye_Small := by kernel_rfl

/-! (*fugleman/octets.Eye).Blind: 53 -/
def b_octets_Eye_Blind : AC :=
 (.seq (.seq (.reg [⟨(some 2), none, .mv (.c (.v (.bool false)))⟩]) (.drop [1, 2]))
 (.seq (.seq (.reg [⟨(some 3), none, .mv (.t 0)⟩, ⟨(some 4), none, .eqp false (.t 3) (.c (.v (.pointer none)))⟩, ⟨(some 5), none, .mv (.t 4)⟩, ⟨(some 6), (some (5, false)), .mv (.t 0)⟩, ⟨(some 7), (some (5, false)), .nilck (.t 6)⟩, ⟨(some 8), (some (5, false)), .fad 2 (.t 7)⟩, ⟨(some 9), (some (5, false)), .load none (.t 8)⟩, ⟨(some 10), none, .pick (.t 5) (.c (.v (.bool true))) (.t 9)⟩, ⟨(some 2), none, .mv (.t 10)⟩]) (.drop [3, 10]))
  .ret))
def a_octets_Eye_Blind : AFn := ⟨1, b_octets_Eye_Blind, [.t 2], false, false⟩
theorem a_octets_Eye_Blind_ok : compF Tryd.prog Tryd.f53 [[1, 2], [3, 10]] false false hv = some a_octets_Eye_Blind := by kernel_rfl

/-! strings.trimLeftByte: 69 -/
def l_strings_trimLeftByte_1 : AC :=
 (.seq (.seq (.reg [⟨(some 16), none, .mv (.t 0)⟩, ⟨(some 4), none, .mv (.t 16)⟩]) (.drop [5, 16]))
 .ret)
def l_strings_trimLeftByte_0 : AC :=
 (.seq (.seq (.seq (.reg [⟨(some 5), none, .mv (.t 0)⟩, ⟨(some 6), none, .lens (.t 5)⟩, ⟨(some 7), none, .bin .gtr (.t 6) (.c (.v (.int .i64 0)))⟩, ⟨(some 8), none, .mv (.t 7)⟩, ⟨(some 9), (some (8, true)), .mv (.t 0)⟩, ⟨(some 10), (some (8, true)), .ixstr (.t 9) (.c (.v (.int .i64 0)))⟩, ⟨(some 11), (some (8, true)), .mv (.t 1)⟩, ⟨(some 12), (some (8, true)), .bin .eql (.t 10) (.t 11)⟩, ⟨(some 13), none, .pick (.t 8) (.t 12) (.c (.v (.bool false)))⟩]) (.drop [2, 12]))
  (.cond (.t 13) .skip
   (.exit 0)))
 (.block 1 (.seq (.reg [⟨(some 14), none, .mv (.t 0)⟩, ⟨(some 15), none, .slstr (.t 14) (some (.c (.v (.int .i64 1)))) none⟩, ⟨(some 0), none, .mv (.t 15)⟩]) (.drop [2, 15]))))
def b_strings_trimLeftByte : AC :=
 (.seq (.seq (.reg [⟨(some 4), none, .mv (.c (.v (.string ⟨#[]⟩)))⟩]) (.drop [2, 4]))
 (.seq (.block 0 (.loop [0, 1] l_strings_trimLeftByte_0))
  l_strings_trimLeftByte_1))
def a_strings_trimLeftByte : AFn := ⟨2, b_strings_trimLeftByte, [.t 4], false, false⟩
theorem a_strings_trimLeftByte_ok : compF Tryd.prog Tryd.f69 [[2, 4], [0, 1], [2, 12], [2, 15], [5, 16]] false false hv = some a_strings_trimLeftByte := by kernel_rfl

/-! strings.trimRightByte: 70 -/
def l_strings_trimRightByte_1 : AC :=
 (.seq (.seq (.reg [⟨(some 22), none, .mv (.t 0)⟩, ⟨(some 4), none, .mv (.t 22)⟩]) (.drop [5, 22]))
 .ret)
def l_strings_trimRightByte_0 : AC :=
 (.seq (.seq (.seq (.reg [⟨(some 5), none, .mv (.t 0)⟩, ⟨(some 6), none, .lens (.t 5)⟩, ⟨(some 7), none, .bin .gtr (.t 6) (.c (.v (.int .i64 0)))⟩, ⟨(some 8), none, .mv (.t 7)⟩, ⟨(some 9), (some (8, true)), .mv (.t 0)⟩, ⟨(some 10), (some (8, true)), .mv (.t 0)⟩, ⟨(some 11), (some (8, true)), .lens (.t 10)⟩, ⟨(some 12), (some (8, true)), .bin .sub (.t 11) (.c (.v (.int .i64 1)))⟩, ⟨(some 13), (some (8, true)), .ixstr (.t 9) (.t 12)⟩, ⟨(some 14), (some (8, true)), .mv (.t 1)⟩, ⟨(some 15), (some (8, true)), .bin .eql (.t 13) (.t 14)⟩, ⟨(some 16), none, .pick (.t 8) (.t 15) (.c (.v (.bool false)))⟩]) (.drop [2, 15]))
  (.cond (.t 16) .skip
   (.exit 0)))
 (.block 1 (.seq (.reg [⟨(some 17), none, .mv (.t 0)⟩, ⟨(some 18), none, .mv (.t 0)⟩, ⟨(some 19), none, .lens (.t 18)⟩, ⟨(some 20), none, .bin .sub (.t 19) (.c (.v (.int .i64 1)))⟩, ⟨(some 21), none, .slstr (.t 17) none (some (.t 20))⟩, ⟨(some 0), none, .mv (.t 21)⟩]) (.drop [2, 21]))))
def b_strings_trimRightByte : AC :=
 (.seq (.seq (.reg [⟨(some 4), none, .mv (.c (.v (.string ⟨#[]⟩)))⟩]) (.drop [2, 4]))
 (.seq (.block 0 (.loop [0, 1] l_strings_trimRightByte_0))
  l_strings_trimRightByte_1))
def a_strings_trimRightByte : AFn := ⟨2, b_strings_trimRightByte, [.t 4], false, false⟩
theorem a_strings_trimRightByte_ok : compF Tryd.prog Tryd.f70 [[2, 4], [0, 1], [2, 15], [2, 21], [5, 22]] false false hv = some a_strings_trimRightByte := by kernel_rfl

/-! strings.makeASCIISet: 71 -/
def l_strings_makeASCIISet_1 : AC :=
 (.seq (.seq (.reg [⟨(some 20), none, .load (some 256) (.t 2)⟩, ⟨none, none, .store 256 (.t 2) (.t 20)⟩, ⟨(some 3), none, .mv (.c (.v (.bool true)))⟩]) (.drop [4, 20]))
 .ret)
def l_strings_makeASCIISet_0 : AC :=
 (.seq (.seq (.seq (.reg [⟨(some 6), none, .mv (.t 4)⟩, ⟨(some 7), none, .mv (.t 0)⟩, ⟨(some 8), none, .lens (.t 7)⟩, ⟨(some 9), none, .bin .lss (.t 6) (.t 8)⟩]) (.drop [5, 8]))
  (.cond (.t 9) .skip
   (.exit 0)))
 (.seq (.block 1 (.seq (.seq (.reg [⟨(some 12), none, .mv (.t 0)⟩, ⟨(some 13), none, .mv (.t 4)⟩, ⟨(some 14), none, .ixstr (.t 12) (.t 13)⟩, ⟨(some 5), none, .mv (.t 14)⟩]) (.drop [6, 14]))
    (.seq (.seq (.seq (.reg [⟨(some 15), none, .mv (.t 5)⟩, ⟨(some 16), none, .bin .geq (.t 15) (.c (.v (.int .u8 128)))⟩]) (.drop [6, 15]))
      (.cond (.t 16) (.seq (.seq (.reg [⟨(some 17), none, .load (some 256) (.t 2)⟩, ⟨none, none, .store 256 (.t 2) (.t 17)⟩, ⟨(some 3), none, .mv (.c (.v (.bool false)))⟩]) (.drop [4, 17]))
        .ret)
       .skip))
     (.seq (.reg [⟨(some 18), none, .mv (.t 5)⟩, ⟨(some 19), none, .ixa 256 1 (.t 2) (.t 18)⟩, ⟨none, none, .store 1 (.t 19) (.c (.v (.bool true)))⟩]) (.drop [5, 19])))))
  (.seq (.reg [⟨(some 10), none, .mv (.t 4)⟩, ⟨(some 11), none, .bin .add (.t 10) (.c (.v (.int .i64 1)))⟩, ⟨(some 4), none, .mv (.t 11)⟩]) (.drop [5, 11]))))
def b_strings_makeASCIISet : AC :=
 (.seq (.seq (.reg [⟨(some 2), none, .alloc [(.v (.bool false)), (.v (.bool false)), (.v (.bool false)), (.v (.bool false)), (.v (.bool false)), (.v (.bool false)), (.v (.bool false)), (.v (.bool false)), (.v (.bool false)), (.v (.bool false)), (.v (.bool false)), (.v (.bool false)), (.v (.bool false)), (.v (.bool false)), (.v (.bool false)), (.v (.bool false)), (.v (.bool false)), (.v (.bool false)), (.v (.bool false)), (.v (.bool false)), (.v (.bool false)), (.v (.bool false)), (.v (.bool false)), (.v (.bool false)), (.v (.bool false)), (.v (.bool false)), (.v (.bool false)), (.v (.bool false)), (.v (.bool false)), (.v (.bool false)), (.v (.bool false)), (.v (.bool false)), (.v (.bool false)), (.v (.bool false)), (.v (.bool false)), (.v (.bool false)), (.v (.bool false)), (.v (.bool false)), (.v (.bool false)), (.v (.bool false)), (.v (.bool false)), (.v (.bool false)), (.v (.bool false)), (.v (.bool false)), (.v (.bool false)), (.v (.bool false)), (.v (.bool false)), (.v (.bool false)), (.v (.bool false)), (.v (.bool false)), (.v (.bool false)), (.v (.bool false)), (.v (.bool false)), (.v (.bool false)), (.v (.bool false)), (.v (.bool false)), (.v (.bool false)), (.v (.bool false)), (.v (.bool false)), (.v (.bool false)), (.v (.bool false)), (.v (.bool false)), (.v (.bool false)), (.v (.bool false)), (.v (.bool false)), (.v (.bool false)), (.v (.bool false)), (.v (.bool false)), (.v (.bool false)), (.v (.bool false)), (.v (.bool false)), (.v (.bool false)), (.v (.bool false)), (.v (.bool false)), (.v (.bool false)), (.v (.bool false)), (.v (.bool false)), (.v (.bool false)), (.v (.bool false)), (.v (.bool false)), (.v (.bool false)), (.v (.bool false)), (.v (.bool false)), (.v (.bool false)), (.v (.bool false)), (.v (.bool false)), (.v (.bool false)), (.v (.bool false)), (.v (.bool false)), (.v (.bool false)), (.v (.bool false)), (.v (.bool false)), (.v (.bool false)), (.v (.bool false)), (.v (.bool false)), (.v (.bool false)), (.v (.bool false)), (.v (.bool false)), (.v (.bool false)), (.v (.bool false)), (.v (.bool false)), (.v (.bool false)), (.v (.bool false)), (.v (.bool false)), (.v (.bool false)), (.v (.bool false)), (.v (.bool false)), (.v (.bool false)), (.v (.bool false)), (.v (.bool false)), (.v (.bool false)), (.v (.bool false)), (.v (.bool false)), (.v (.bool false)), (.v (.bool false)), (.v (.bool false)), (.v (.bool false)), (.v (.bool false)), (.v (.bool false)), (.v (.bool false)), (.v (.bool false)), (.v (.bool false)), (.v (.bool false)), (.v (.bool false)), (.v (.bool false)), (.v (.bool false)), (.v (.bool false)), (.v (.bool false)), (.v (.bool false)), (.v (.bool false)), (.v (.bool false)), (.v (.bool false)), (.v (.bool false)), (.v (.bool false)), (.v (.bool false)), (.v (.bool false)), (.v (.bool false)), (.v (.bool false)), (.v (.bool false)), (.v (.bool false)), (.v (.bool false)), (.v (.bool false)), (.v (.bool false)), (.v (.bool false)), (.v (.bool false)), (.v (.bool false)), (.v (.bool false)), (.v (.bool false)), (.v (.bool false)), (.v (.bool false)), (.v (.bool false)), (.v (.bool false)), (.v (.bool false)), (.v (.bool false)), (.v (.bool false)), (.v (.bool false)), (.v (.bool false)), (.v (.bool false)), (.v (.bool false)), (.v (.bool false)), (.v (.bool false)), (.v (.bool false)), (.v (.bool false)), (.v (.bool false)), (.v (.bool false)), (.v (.bool false)), (.v (.bool false)), (.v (.bool false)), (.v (.bool false)), (.v (.bool false)), (.v (.bool false)), (.v (.bool false)), (.v (.bool false)), (.v (.bool false)), (.v (.bool false)), (.v (.bool false)), (.v (.bool false)), (.v (.bool false)), (.v (.bool false)), (.v (.bool false)), (.v (.bool false)), (.v (.bool false)), (.v (.bool false)), (.v (.bool false)), (.v (.bool false)), (.v (.bool false)), (.v (.bool false)), (.v (.bool false)), (.v (.bool false)), (.v (.bool false)), (.v (.bool false)), (.v (.bool false)), (.v (.bool false)), (.v (.bool false)), (.v (.bool false)), (.v (.bool false)), (.v (.bool false)), (.v (.bool false)), (.v (.bool false)), (.v (.bool false)), (.v (.bool false)), (.v (.bool false)), (.v (.bool false)), (.v (.bool false)), (.v (.bool false)), (.v (.bool false)), (.v (.bool false)), (.v (.bool false)), (.v (.bool false)), (.v (.bool false)), (.v (.bool false)), (.v (.bool false)), (.v (.bool false)), (.v (.bool false)), (.v (.bool false)), (.v (.bool false)), (.v (.bool false)), (.v (.bool false)), (.v (.bool false)), (.v (.bool false)), (.v (.bool false)), (.v (.bool false)), (.v (.bool false)), (.v (.bool false)), (.v (.bool false)), (.v (.bool false)), (.v (.bool false)), (.v (.bool false)), (.v (.bool false)), (.v (.bool false)), (.v (.bool false)), (.v (.bool false)), (.v (.bool false)), (.v (.bool false)), (.v (.bool false)), (.v (.bool false)), (.v (.bool false)), (.v (.bool false)), (.v (.bool false)), (.v (.bool false)), (.v (.bool false)), (.v (.bool false)), (.v (.bool false)), (.v (.bool false)), (.v (.bool false)), (.v (.bool false)), (.v (.bool false)), (.v (.bool false)), (.v (.bool false)), (.v (.bool false)), (.v (.bool false)), (.v (.bool false)), (.v (.bool false)), (.v (.bool false)), (.v (.bool false)), (.v (.bool false))]⟩, ⟨(some 3), none, .mv (.c (.v (.bool false)))⟩]) (.drop [3, 3]))
 (.seq (.seq (.seq (.reg [⟨(some 4), none, .mv (.c (.v (.int .i64 0)))⟩]) (.drop []))
   (.block 0 (.loop [0, 2, 4] l_strings_makeASCIISet_0)))
  l_strings_makeASCIISet_1))
def a_strings_makeASCIISet : AFn := ⟨1, b_strings_makeASCIISet, [.cell 2 (some 256), .t 3], false, false⟩
theorem a_strings_makeASCIISet_ok : compF Tryd.prog Tryd.f71 [[3, 3], [], [0, 2, 4], [5, 8], [6, 14], [6, 15], [4, 17], [5, 19], [5, 11], [4, 20]] false false hv = some a_strings_makeASCIISet := by kernel_rfl

/-! (*strings.asciiSet).contains: 83 -/
def b_strings_asciiSet_contains : AC :=
 (.seq (.seq (.reg [⟨(some 4), none, .mv (.c (.v (.bool false)))⟩]) (.drop [2, 4]))
 (.seq (.seq (.reg [⟨(some 5), none, .mv (.t 0)⟩, ⟨(some 6), none, .mv (.t 1)⟩, ⟨(some 7), none, .nilck (.t 5)⟩, ⟨(some 8), none, .ixa 256 1 (.t 7) (.t 6)⟩, ⟨(some 9), none, .load none (.t 8)⟩, ⟨(some 4), none, .mv (.t 9)⟩]) (.drop [5, 9]))
  .ret))
def a_strings_asciiSet_contains : AFn := ⟨2, b_strings_asciiSet_contains, [.t 4], false, false⟩
theorem a_strings_asciiSet_contains_ok : compF Tryd.prog Tryd.f83 [[2, 4], [5, 9]] false false hv = some a_strings_asciiSet_contains := by kernel_rfl

/-! strings.trimLeftASCII: 72 -/
def l_strings_trimLeftASCII_1 : AC :=
 (.seq (.seq (.reg [⟨(some 15), none, .mv (.t 0)⟩, ⟨(some 4), none, .mv (.t 15)⟩]) (.drop [5, 15]))
 .ret)
def l_strings_trimLeftASCII_0 : AC :=
 (.seq (.seq (.seq (.reg [⟨(some 5), none, .mv (.t 0)⟩, ⟨(some 6), none, .lens (.t 5)⟩, ⟨(some 7), none, .bin .gtr (.t 6) (.c (.v (.int .i64 0)))⟩]) (.drop [2, 6]))
  (.cond (.t 7) .skip
   (.exit 0)))
 (.block 1 (.seq (.seq (.seq (.reg [⟨(some 8), none, .mv (.t 1)⟩, ⟨(some 9), none, .mv (.t 0)⟩, ⟨(some 10), none, .ixstr (.t 9) (.c (.v (.int .i64 0)))⟩, ⟨(some 11), none, .call (.c (.fn 83 [])) [(.t 8), (.t 10)]⟩, ⟨(some 12), none, .un .not (.t 11)⟩]) (.drop [2, 11]))
    (.cond (.t 12) (.exit 0)
     .skip))
   (.seq (.reg [⟨(some 13), none, .mv (.t 0)⟩, ⟨(some 14), none, .slstr (.t 13) (some (.c (.v (.int .i64 1)))) none⟩, ⟨(some 0), none, .mv (.t 14)⟩]) (.drop [2, 14])))))
def b_strings_trimLeftASCII : AC :=
 (.seq (.seq (.reg [⟨(some 4), none, .mv (.c (.v (.string ⟨#[]⟩)))⟩]) (.drop [2, 4]))
 (.seq (.block 0 (.loop [0, 1] l_strings_trimLeftASCII_0))
  l_strings_trimLeftASCII_1))
def a_strings_trimLeftASCII : AFn := ⟨2, b_strings_trimLeftASCII, [.t 4], false, false⟩
theorem a_strings_trimLeftASCII_ok : compF Tryd.prog Tryd.f72 [[2, 4], [0, 1], [2, 6], [2, 11], [2, 14], [5, 15]] false false hv = some a_strings_trimLeftASCII := by kernel_rfl

/-! strings.trimRightASCII: 73 -/
def l_strings_trimRightASCII_1 : AC :=
 (.seq (.seq (.reg [⟨(some 21), none, .mv (.t 0)⟩, ⟨(some 4), none, .mv (.t 21)⟩]) (.drop [5, 21]))
 .ret)
def l_strings_trimRightASCII_0 : AC :=
 (.seq (.seq (.seq (.reg [⟨(some 5), none, .mv (.t 0)⟩, ⟨(some 6), none, .lens (.t 5)⟩, ⟨(some 7), none, .bin .gtr (.t 6) (.c (.v (.int .i64 0)))⟩]) (.drop [2, 6]))
  (.cond (.t 7) .skip
   (.exit 0)))
 (.block 1 (.seq (.seq (.seq (.reg [⟨(some 8), none, .mv (.t 1)⟩, ⟨(some 9), none, .mv (.t 0)⟩, ⟨(some 10), none, .mv (.t 0)⟩, ⟨(some 11), none, .lens (.t 10)⟩, ⟨(some 12), none, .bin .sub (.t 11) (.c (.v (.int .i64 1)))⟩, ⟨(some 13), none, .ixstr (.t 9) (.t 12)⟩, ⟨(some 14), none, .call (.c (.fn 83 [])) [(.t 8), (.t 13)]⟩, ⟨(some 15), none, .un .not (.t 14)⟩]) (.drop [2, 14]))
    (.cond (.t 15) (.exit 0)
     .skip))
   (.seq (.reg [⟨(some 16), none, .mv (.t 0)⟩, ⟨(some 17), none, .mv (.t 0)⟩, ⟨(some 18), none, .lens (.t 17)⟩, ⟨(some 19), none, .bin .sub (.t 18) (.c (.v (.int .i64 1)))⟩, ⟨(some 20), none, .slstr (.t 16) none (some (.t 19))⟩, ⟨(some 0), none, .mv (.t 20)⟩]) (.drop [2, 20])))))
def b_strings_trimRightASCII : AC :=
 (.seq (.seq (.reg [⟨(some 4), none, .mv (.c (.v (.string ⟨#[]⟩)))⟩]) (.drop [2, 4]))
 (.seq (.block 0 (.loop [0, 1] l_strings_trimRightASCII_0))
  l_strings_trimRightASCII_1))
def a_strings_trimRightASCII : AFn := ⟨2, b_strings_trimRightASCII, [.t 4], false, false⟩
theorem a_strings_trimRightASCII_ok : compF Tryd.prog Tryd.f73 [[2, 4], [0, 1], [2, 6], [2, 14], [2, 20], [5, 21]] false false hv = some a_strings_trimRightASCII := by kernel_rfl

/-! unicode/utf8.DecodeRuneInString: 84 -/
def c_utf8_DecodeRuneInString_0 : AC :=
 (.seq (.seq (.reg [⟨(some 11), none, .mv (.t 0)⟩, ⟨(some 12), none, .ixstr (.t 11) (.c (.v (.int .i64 0)))⟩, ⟨(some 13), none, .cvi .i32 (.t 12)⟩, ⟨(some 2), none, .mv (.t 13)⟩, ⟨(some 3), none, .mv (.c (.v (.int .i64 1)))⟩]) (.drop [4, 13]))
     .ret)
theorem g_utf8_DecodeRuneInString_0 {C : CT} {lf : Nat} {ks : List It} {s : St} : type_of% (@Sym.go_as C lf ks s _ _ c_utf8_DecodeRuneInString_0.eq_1) := Sym.go_as c_utf8_DecodeRuneInString_0.eq_1
def c_utf8_DecodeRuneInString_1 : AC :=
 (.seq (.reg [⟨(some 15), none, .mv (.t 0)⟩, ⟨(some 16), none, .call (.c (.fn 90 [])) [(.t 15)]⟩, ⟨(some 14), none, .mv (.t 16)⟩, ⟨(some 17), none, .ext 0 (.t 14)⟩, ⟨(some 18), none, .ext 1 (.t 14)⟩, ⟨(some 2), none, .mv (.t 17)⟩, ⟨(some 3), none, .mv (.t 18)⟩]) (.drop [4, 18]))
theorem g_utf8_DecodeRuneInString_1 {C : CT} {lf : Nat} {ks : List It} {s : St} : type_of% (@Sym.go_as C lf ks s _ _ c_utf8_DecodeRuneInString_1.eq_1) := Sym.go_as c_utf8_DecodeRuneInString_1.eq_1
def b_utf8_DecodeRuneInString : AC :=
 (.seq (.seq (.reg [⟨(some 2), none, .mv (.c (.v (.int .i32 0)))⟩, ⟨(some 3), none, .mv (.c (.v (.int .i64 0)))⟩]) (.drop [1, 3]))
 (.seq (.seq (.seq (.reg [⟨(some 4), none, .mv (.t 0)⟩, ⟨(some 5), none, .bin .neq (.t 4) (.c (.v (.string ⟨#[]⟩)))⟩, ⟨(some 6), none, .mv (.t 5)⟩, ⟨(some 7), (some (6, true)), .mv (.t 0)⟩, ⟨(some 8), (some (6, true)), .ixstr (.t 7) (.c (.v (.int .i64 0)))⟩, ⟨(some 9), (some (6, true)), .bin .lss (.t 8) (.c (.v (.int .u8 128)))⟩, ⟨(some 10), none, .pick (.t 6) (.t 9) (.c (.v (.bool false)))⟩]) (.drop [1, 9]))
   (.cond (.t 10) c_utf8_DecodeRuneInString_0
    c_utf8_DecodeRuneInString_1))
  .ret))
def a_utf8_DecodeRuneInString : AFn := ⟨1, b_utf8_DecodeRuneInString, [.t 2, .t 3], false, false⟩
theorem a_utf8_DecodeRuneInString_ok : compF Tryd.prog Tryd.f84 [[1, 3], [1, 9], [4, 13], [4, 18]] false false hv = some a_utf8_DecodeRuneInString := by kernel_rfl

/-! internal/stringslite.IndexByte: 97 -/
def b_stringslite_IndexByte : AC :=
 (.seq (.seq (.reg [⟨(some 4), none, .mv (.c (.v (.int .i64 0)))⟩]) (.drop [2, 4]))
 (.seq (.seq (.reg [⟨(some 5), none, .mv (.t 0)⟩, ⟨(some 6), none, .mv (.t 1)⟩, ⟨(some 7), none, .call (.c (.fn 98 [])) [(.t 5), (.t 6)]⟩, ⟨(some 4), none, .mv (.t 7)⟩]) (.drop [5, 7]))
  .ret))
def a_stringslite_IndexByte : AFn := ⟨2, b_stringslite_IndexByte, [.t 4], false, false⟩
theorem a_stringslite_IndexByte_ok : compF Tryd.prog Tryd.f97 [[2, 4], [5, 7]] false false hv = some a_stringslite_IndexByte := by kernel_rfl

/-! strings.IndexByte: 93 -/
def b_strings_IndexByte : AC :=
 (.seq (.seq (.reg [⟨(some 4), none, .mv (.c (.v (.int .i64 0)))⟩]) (.drop [2, 4]))
 (.seq (.seq (.reg [⟨(some 5), none, .mv (.t 0)⟩, ⟨(some 6), none, .mv (.t 1)⟩, ⟨(some 7), none, .call (.c (.fn 97 [])) [(.t 5), (.t 6)]⟩, ⟨(some 4), none, .mv (.t 7)⟩]) (.drop [5, 7]))
  .ret))
def a_strings_IndexByte : AFn := ⟨2, b_strings_IndexByte, [.t 4], false, false⟩
theorem a_strings_IndexByte_ok : compF Tryd.prog Tryd.f93 [[2, 4], [5, 7]] false false hv = some a_strings_IndexByte := by kernel_rfl

/-! unicode/utf8.ValidRune: 94 -/
def c_utf8_ValidRune_0 : AC :=
 (.seq (.seq (.reg [⟨(some 11), none, .mv (.t 0)⟩, ⟨(some 12), none, .bin .lss (.c (.v (.int .i32 57343))) (.t 11)⟩, ⟨(some 13), none, .mv (.t 12)⟩, ⟨(some 14), (some (13, true)), .mv (.t 0)⟩, ⟨(some 15), (some (13, true)), .bin .leq (.t 14) (.c (.v (.int .i32 1114111)))⟩, ⟨(some 16), none, .pick (.t 13) (.t 15) (.c (.v (.bool false)))⟩, ⟨(some 10), none, .mv (.t 16)⟩]) (.drop [11, 16]))
      (.cond (.t 10) (.seq (.seq (.reg [⟨(some 2), none, .mv (.c (.v (.bool true)))⟩]) (.drop []))
        .ret)
       .skip))
theorem g_utf8_ValidRune_0 {C : CT} {lf : Nat} {ks : List It} {s : St} : type_of% (@Sym.go_as C lf ks s _ _ c_utf8_ValidRune_0.eq_1) := Sym.go_as c_utf8_ValidRune_0.eq_1
def b_utf8_ValidRune : AC :=
 (.seq (.seq (.reg [⟨(some 2), none, .mv (.c (.v (.bool false)))⟩]) (.drop [1, 2]))
 (.seq (.block 0 (.seq (.seq (.reg [⟨(some 4), none, .mv (.t 0)⟩, ⟨(some 5), none, .bin .leq (.c (.v (.int .i32 0))) (.t 4)⟩, ⟨(some 6), none, .mv (.t 5)⟩, ⟨(some 7), (some (6, true)), .mv (.t 0)⟩, ⟨(some 8), (some (6, true)), .bin .lss (.t 7) (.c (.v (.int .i32 55296)))⟩, ⟨(some 9), none, .pick (.t 6) (.t 8) (.c (.v (.bool false)))⟩, ⟨(some 3), none, .mv (.t 9)⟩]) (.drop [4, 9]))
    (.cond (.t 3) (.seq (.seq (.reg [⟨(some 2), none, .mv (.c (.v (.bool true)))⟩]) (.drop []))
      .ret)
     c_utf8_ValidRune_0)))
  (.seq (.seq (.reg [⟨(some 2), none, .mv (.c (.v (.bool false)))⟩]) (.drop []))
   .ret)))
def a_utf8_ValidRune : AFn := ⟨1, b_utf8_ValidRune, [.t 2], false, false⟩
theorem a_utf8_ValidRune_ok : compF Tryd.prog Tryd.f94 [[1, 2], [4, 9], [], [11, 16], [], []] false false hv = some a_utf8_ValidRune := by kernel_rfl

/-! internal/bytealg.Cutover: 95 -/
def b_bytealg_Cutover : AC :=
 (.seq (.seq (.reg [⟨(some 2), none, .mv (.c (.v (.int .i64 0)))⟩]) (.drop [1, 2]))
 (.seq (.seq (.reg [⟨(some 3), none, .mv (.t 0)⟩, ⟨(some 4), none, .bin .add (.t 3) (.c (.v (.int .i64 16)))⟩, ⟨(some 5), none, .bin .quo (.t 4) (.c (.v (.int .i64 8)))⟩, ⟨(some 2), none, .mv (.t 5)⟩]) (.drop [3, 5]))
  .ret))
def a_bytealg_Cutover : AFn := ⟨1, b_bytealg_Cutover, [.t 2], false, false⟩
theorem a_bytealg_Cutover_ok : compF Tryd.prog Tryd.f95 [[1, 2], [3, 5]] false false hv = some a_bytealg_Cutover := by kernel_rfl

/-! strings.ContainsRune: 85 -/
def b_strings_ContainsRune : AC :=
 (.seq (.seq (.reg [⟨(some 4), none, .mv (.c (.v (.bool false)))⟩]) (.drop [2, 4]))
 (.seq (.seq (.reg [⟨(some 5), none, .mv (.t 0)⟩, ⟨(some 6), none, .mv (.t 1)⟩, ⟨(some 7), none, .call (.c (.fn 91 [])) [(.t 5), (.t 6)]⟩, ⟨(some 8), none, .bin .geq (.t 7) (.c (.v (.int .i64 0)))⟩, ⟨(some 4), none, .mv (.t 8)⟩]) (.drop [5, 8]))
  .ret))
def a_strings_ContainsRune : AFn := ⟨2, b_strings_ContainsRune, [.t 4], false, false⟩
theorem a_strings_ContainsRune_ok : compF Tryd.prog Tryd.f85 [[2, 4], [5, 8]] false false hv = some a_strings_ContainsRune := by kernel_rfl

/-! strings.trimLeftUnicode: 74 -/
def l_strings_trimLeftUnicode_1 : AC :=
 (.seq (.seq (.reg [⟨(some 22), none, .mv (.t 0)⟩, ⟨(some 4), none, .mv (.t 22)⟩]) (.drop [5, 22]))
 .ret)
def l_strings_trimLeftUnicode_0 : AC :=
 (.seq (.seq (.seq (.reg [⟨(some 7), none, .mv (.t 0)⟩, ⟨(some 8), none, .lens (.t 7)⟩, ⟨(some 9), none, .bin .gtr (.t 8) (.c (.v (.int .i64 0)))⟩]) (.drop [2, 8]))
  (.cond (.t 9) .skip
   (.exit 0)))
 (.block 1 (.seq (.seq (.reg [⟨(some 11), none, .mv (.t 0)⟩, ⟨(some 12), none, .call (.c (.fn 84 [])) [(.t 11)]⟩, ⟨(some 10), none, .mv (.t 12)⟩, ⟨(some 13), none, .ext 0 (.t 10)⟩, ⟨(some 14), none, .ext 1 (.t 10)⟩, ⟨(some 5), none, .mv (.t 13)⟩, ⟨(some 6), none, .mv (.t 14)⟩]) (.drop [7, 14]))
   (.seq (.seq (.seq (.reg [⟨(some 15), none, .mv (.t 1)⟩, ⟨(some 16), none, .mv (.t 5)⟩, ⟨(some 17), none, .call (.c (.fn 85 [])) [(.t 15), (.t 16)]⟩, ⟨(some 18), none, .un .not (.t 17)⟩]) (.drop [7, 17]))
     (.cond (.t 18) (.exit 0)
      .skip))
    (.seq (.reg [⟨(some 19), none, .mv (.t 0)⟩, ⟨(some 20), none, .mv (.t 6)⟩, ⟨(some 21), none, .slstr (.t 19) (some (.t 20)) none⟩, ⟨(some 0), none, .mv (.t 21)⟩]) (.drop [2, 21]))))))
def b_strings_trimLeftUnicode : AC :=
 (.seq (.seq (.reg [⟨(some 4), none, .mv (.c (.v (.string ⟨#[]⟩)))⟩]) (.drop [2, 4]))
 (.seq (.block 0 (.loop [0, 1] l_strings_trimLeftUnicode_0))
  l_strings_trimLeftUnicode_1))
def a_strings_trimLeftUnicode : AFn := ⟨2, b_strings_trimLeftUnicode, [.t 4], false, false⟩
theorem a_strings_trimLeftUnicode_ok : compF Tryd.prog Tryd.f74 [[2, 4], [0, 1], [2, 8], [7, 14], [7, 17], [2, 21], [5, 22]] false false hv = some a_strings_trimLeftUnicode := by kernel_rfl

/-! unicode/utf8.RuneStart: 92 -/
def b_utf8_RuneStart : AC :=
 (.seq (.seq (.reg [⟨(some 2), none, .mv (.c (.v (.bool false)))⟩]) (.drop [1, 2]))
 (.seq (.seq (.reg [⟨(some 3), none, .mv (.t 0)⟩, ⟨(some 4), none, .bin .and (.t 3) (.c (.v (.int .u8 192)))⟩, ⟨(some 5), none, .bin .neq (.t 4) (.c (.v (.int .u8 128)))⟩, ⟨(some 2), none, .mv (.t 5)⟩]) (.drop [3, 5]))
  .ret))
def a_utf8_RuneStart : AFn := ⟨1, b_utf8_RuneStart, [.t 2], false, false⟩
theorem a_utf8_RuneStart_ok : compF Tryd.prog Tryd.f92 [[1, 2], [3, 5]] false false hv = some a_utf8_RuneStart := by kernel_rfl

/-! unicode/utf8.DecodeLastRuneInString: 86 -/
def l_utf8_DecodeLastRuneInString_1 : AC :=
 (.seq (.seq (.seq (.reg [⟨(some 34), none, .mv (.t 5)⟩, ⟨(some 35), none, .bin .lss (.t 34) (.c (.v (.int .i64 0)))⟩]) (.drop [6, 34]))
  (.cond (.t 35) (.seq (.reg [⟨(some 5), none, .mv (.c (.v (.int .i64 0)))⟩]) (.drop []))
   .skip))
 (.seq (.seq (.reg [⟨(some 37), none, .mv (.t 0)⟩, ⟨(some 38), none, .mv (.t 5)⟩, ⟨(some 39), none, .mv (.t 4)⟩, ⟨(some 40), none, .slstr (.t 37) (some (.t 38)) (some (.t 39))⟩, ⟨(some 41), none, .call (.c (.fn 84 [])) [(.t 40)]⟩, ⟨(some 36), none, .mv (.t 41)⟩, ⟨(some 42), none, .ext 0 (.t 36)⟩, ⟨(some 43), none, .ext 1 (.t 36)⟩, ⟨(some 2), none, .mv (.t 42)⟩, ⟨(some 3), none, .mv (.t 43)⟩]) (.drop [6, 43]))
  (.seq (.seq (.seq (.reg [⟨(some 44), none, .mv (.t 5)⟩, ⟨(some 45), none, .mv (.t 3)⟩, ⟨(some 46), none, .bin .add (.t 44) (.t 45)⟩, ⟨(some 47), none, .mv (.t 4)⟩, ⟨(some 48), none, .bin .neq (.t 46) (.t 47)⟩]) (.drop [4, 47]))
    (.cond (.t 48) (.seq (.seq (.reg [⟨(some 2), none, .mv (.c (.v (.int .i32 65533)))⟩, ⟨(some 3), none, .mv (.c (.v (.int .i64 1)))⟩]) (.drop []))
      .ret)
     .skip))
   (.seq (.seq (.reg [⟨(some 49), none, .mv (.t 2)⟩, ⟨(some 50), none, .mv (.t 3)⟩, ⟨(some 2), none, .mv (.t 49)⟩, ⟨(some 3), none, .mv (.t 50)⟩]) (.drop [4, 50]))
    .ret))))
def l_utf8_DecodeLastRuneInString_0 : AC :=
 (.seq (.seq (.seq (.reg [⟨(some 25), none, .mv (.t 5)⟩, ⟨(some 26), none, .mv (.t 6)⟩, ⟨(some 27), none, .bin .geq (.t 25) (.t 26)⟩]) (.drop [7, 26]))
  (.cond (.t 27) .skip
   (.exit 0)))
 (.seq (.block 1 (.seq (.seq (.reg [⟨(some 30), none, .mv (.t 0)⟩, ⟨(some 31), none, .mv (.t 5)⟩, ⟨(some 32), none, .ixstr (.t 30) (.t 31)⟩, ⟨(some 33), none, .call (.c (.fn 92 [])) [(.t 32)]⟩]) (.drop [7, 32]))
    (.cond (.t 33) (.exit 0)
     .skip)))
  (.seq (.reg [⟨(some 28), none, .mv (.t 5)⟩, ⟨(some 29), none, .bin .sub (.t 28) (.c (.v (.int .i64 1)))⟩, ⟨(some 5), none, .mv (.t 29)⟩]) (.drop [7, 29]))))
def b_utf8_DecodeLastRuneInString : AC :=
 (.seq (.seq (.reg [⟨(some 2), none, .mv (.c (.v (.int .i32 0)))⟩, ⟨(some 3), none, .mv (.c (.v (.int .i64 0)))⟩]) (.drop [1, 3]))
 (.seq (.seq (.reg [⟨(some 7), none, .mv (.t 0)⟩, ⟨(some 8), none, .lens (.t 7)⟩, ⟨(some 4), none, .mv (.t 8)⟩]) (.drop [5, 8]))
  (.seq (.seq (.seq (.reg [⟨(some 9), none, .mv (.t 4)⟩, ⟨(some 10), none, .bin .eql (.t 9) (.c (.v (.int .i64 0)))⟩]) (.drop [5, 9]))
    (.cond (.t 10) (.seq (.seq (.reg [⟨(some 2), none, .mv (.c (.v (.int .i32 65533)))⟩, ⟨(some 3), none, .mv (.c (.v (.int .i64 0)))⟩]) (.drop []))
      .ret)
     .skip))
   (.seq (.seq (.reg [⟨(some 11), none, .mv (.t 4)⟩, ⟨(some 12), none, .bin .sub (.t 11) (.c (.v (.int .i64 1)))⟩, ⟨(some 5), none, .mv (.t 12)⟩]) (.drop [6, 12]))
    (.seq (.seq (.reg [⟨(some 13), none, .mv (.t 0)⟩, ⟨(some 14), none, .mv (.t 5)⟩, ⟨(some 15), none, .ixstr (.t 13) (.t 14)⟩, ⟨(some 16), none, .cvi .i32 (.t 15)⟩, ⟨(some 2), none, .mv (.t 16)⟩]) (.drop [6, 16]))
     (.seq (.seq (.seq (.reg [⟨(some 17), none, .mv (.t 2)⟩, ⟨(some 18), none, .bin .lss (.t 17) (.c (.v (.int .i32 128)))⟩]) (.drop [6, 17]))
       (.cond (.t 18) (.seq (.seq (.reg [⟨(some 19), none, .mv (.t 2)⟩, ⟨(some 2), none, .mv (.t 19)⟩, ⟨(some 3), none, .mv (.c (.v (.int .i64 1)))⟩]) (.drop [4, 19]))
         .ret)
        .skip))
      (.seq (.seq (.reg [⟨(some 20), none, .mv (.t 4)⟩, ⟨(some 21), none, .bin .sub (.t 20) (.c (.v (.int .i64 4)))⟩, ⟨(some 22), none, .max [(.t 21), (.c (.v (.int .i64 0)))]⟩, ⟨(some 6), none, .mv (.t 22)⟩]) (.drop [7, 22]))
       (.seq (.seq (.seq (.reg [⟨(some 23), none, .mv (.t 5)⟩, ⟨(some 24), none, .bin .sub (.t 23) (.c (.v (.int .i64 1)))⟩, ⟨(some 5), none, .mv (.t 24)⟩]) (.drop [7, 24]))
         (.block 0 (.loop [0, 4, 5, 6] l_utf8_DecodeLastRuneInString_0)))
        l_utf8_DecodeLastRuneInString_1))))))))
def a_utf8_DecodeLastRuneInString : AFn := ⟨1, b_utf8_DecodeLastRuneInString, [.t 2, .t 3], false, false⟩
theorem a_utf8_DecodeLastRuneInString_ok : compF Tryd.prog Tryd.f86 [[1, 3], [5, 8], [5, 9], [], [6, 12], [6, 16], [6, 17], [4, 19], [7, 22], [7, 24], [0, 4, 5, 6], [7, 26], [7, 32], [7, 29], [6, 34], [], [6, 43], [4, 47], [], [4, 50]] false false hv = some a_utf8_DecodeLastRuneInString := by kernel_rfl

/-! strings.trimRightUnicode: 75 -/
def l_strings_trimRightUnicode_1 : AC :=
 (.seq (.seq (.reg [⟨(some 33), none, .mv (.t 0)⟩, ⟨(some 4), none, .mv (.t 33)⟩]) (.drop [5, 33]))
 .ret)
def c_strings_trimRightUnicode_0 : AC :=
 (.seq (.reg [⟨(some 19), none, .mv (.t 0)⟩, ⟨(some 20), none, .call (.c (.fn 86 [])) [(.t 19)]⟩, ⟨(some 18), none, .mv (.t 20)⟩, ⟨(some 21), none, .ext 0 (.t 18)⟩, ⟨(some 22), none, .ext 1 (.t 18)⟩, ⟨(some 5), none, .mv (.t 21)⟩, ⟨(some 6), none, .mv (.t 22)⟩]) (.drop [7, 22]))
theorem g_strings_trimRightUnicode_0 {C : CT} {lf : Nat} {ks : List It} {s : St} : type_of% (@Sym.go_as C lf ks s _ _ c_strings_trimRightUnicode_0.eq_1) := Sym.go_as c_strings_trimRightUnicode_0.eq_1
def l_strings_trimRightUnicode_0 : AC :=
 (.seq (.seq (.seq (.reg [⟨(some 7), none, .mv (.t 0)⟩, ⟨(some 8), none, .lens (.t 7)⟩, ⟨(some 9), none, .bin .gtr (.t 8) (.c (.v (.int .i64 0)))⟩]) (.drop [2, 8]))
  (.cond (.t 9) .skip
   (.exit 0)))
 (.block 1 (.seq (.seq (.reg [⟨(some 10), none, .mv (.t 0)⟩, ⟨(some 11), none, .mv (.t 0)⟩, ⟨(some 12), none, .lens (.t 11)⟩, ⟨(some 13), none, .bin .sub (.t 12) (.c (.v (.int .i64 1)))⟩, ⟨(some 14), none, .ixstr (.t 10) (.t 13)⟩, ⟨(some 15), none, .cvi .i32 (.t 14)⟩, ⟨(some 5), none, .mv (.t 15)⟩, ⟨(some 6), none, .mv (.c (.v (.int .i64 1)))⟩]) (.drop [7, 15]))
   (.seq (.seq (.seq (.reg [⟨(some 16), none, .mv (.t 5)⟩, ⟨(some 17), none, .bin .geq (.t 16) (.c (.v (.int .i32 128)))⟩]) (.drop [7, 16]))
     (.cond (.t 17) c_strings_trimRightUnicode_0
      .skip))
    (.seq (.seq (.seq (.reg [⟨(some 23), none, .mv (.t 1)⟩, ⟨(some 24), none, .mv (.t 5)⟩, ⟨(some 25), none, .call (.c (.fn 85 [])) [(.t 23), (.t 24)]⟩, ⟨(some 26), none, .un .not (.t 25)⟩]) (.drop [7, 25]))
      (.cond (.t 26) (.exit 0)
       .skip))
     (.seq (.reg [⟨(some 27), none, .mv (.t 0)⟩, ⟨(some 28), none, .mv (.t 0)⟩, ⟨(some 29), none, .lens (.t 28)⟩, ⟨(some 30), none, .mv (.t 6)⟩, ⟨(some 31), none, .bin .sub (.t 29) (.t 30)⟩, ⟨(some 32), none, .slstr (.t 27) none (some (.t 31))⟩, ⟨(some 0), none, .mv (.t 32)⟩]) (.drop [2, 32])))))))
def b_strings_trimRightUnicode : AC :=
 (.seq (.seq (.reg [⟨(some 4), none, .mv (.c (.v (.string ⟨#[]⟩)))⟩]) (.drop [2, 4]))
 (.seq (.block 0 (.loop [0, 1] l_strings_trimRightUnicode_0))
  l_strings_trimRightUnicode_1))
def a_strings_trimRightUnicode : AFn := ⟨2, b_strings_trimRightUnicode, [.t 4], false, false⟩
theorem a_strings_trimRightUnicode_ok : compF Tryd.prog Tryd.f75 [[2, 4], [0, 1], [2, 8], [7, 15], [7, 16], [7, 22], [7, 25], [2, 32], [5, 33]] false false hv = some a_strings_trimRightUnicode := by kernel_rfl

/-! strings.Trim: 54 -/
def c_strings_Trim_0 : AC :=
 (.seq (.seq (.regq [⟨(some 22), none, .mv (.t 0)⟩, ⟨(some 23), none, .mv (.t 1)⟩, ⟨(some 24), none, .ixstr (.t 23) (.c (.v (.int .i64 0)))⟩, ⟨(some 25), none, .call (.c (.fn 70 [])) [(.t 22), (.t 24)]⟩, ⟨(some 26), none, .mv (.t 1)⟩, ⟨(some 27), none, .ixstr (.t 26) (.c (.v (.int .i64 0)))⟩, ⟨(some 28), none, .call (.c (.fn 69 [])) [(.t 25), (.t 27)]⟩, ⟨(some 4), none, .mv (.t 28)⟩]) (.drop [5, 28]))
      .ret)
theorem g_strings_Trim_0 {C : CT} {lf : Nat} {ks : List It} {s : St} : type_of% (@Sym.go_as C lf ks s _ _ c_strings_Trim_0.eq_1) := Sym.go_as c_strings_Trim_0.eq_1
def b_strings_Trim : AC :=
 (.seq (.seq (.reg [⟨(some 4), none, .mv (.c (.v (.string ⟨#[]⟩)))⟩]) (.drop [2, 4]))
 (.seq (.seq (.seq (.reg [⟨(some 7), none, .mv (.t 0)⟩, ⟨(some 8), none, .bin .eql (.t 7) (.c (.v (.string ⟨#[]⟩)))⟩, ⟨(some 9), none, .mv (.t 8)⟩, ⟨(some 10), (some (9, false)), .mv (.t 1)⟩, ⟨(some 11), (some (9, false)), .bin .eql (.t 10) (.c (.v (.string ⟨#[]⟩)))⟩, ⟨(some 12), none, .pick (.t 9) (.c (.v (.bool true))) (.t 11)⟩]) (.drop [2, 11]))
   (.cond (.t 12) (.seq (.seq (.reg [⟨(some 13), none, .mv (.t 0)⟩, ⟨(some 4), none, .mv (.t 13)⟩]) (.drop [5, 13]))
     .ret)
    .skip))
  (.seq (.seq (.seq (.reg [⟨(some 14), none, .mv (.t 1)⟩, ⟨(some 15), none, .lens (.t 14)⟩, ⟨(some 16), none, .bin .eql (.t 15) (.c (.v (.int .i64 1)))⟩, ⟨(some 17), none, .mv (.t 16)⟩, ⟨(some 18), (some (17, true)), .mv (.t 1)⟩, ⟨(some 19), (some (17, true)), .ixstr (.t 18) (.c (.v (.int .i64 0)))⟩, ⟨(some 20), (some (17, true)), .bin .lss (.t 19) (.c (.v (.int .u8 128)))⟩, ⟨(some 21), none, .pick (.t 17) (.t 20) (.c (.v (.bool false)))⟩]) (.drop [2, 20]))
    (.cond (.t 21) c_strings_Trim_0
     .skip))
   (.seq (.seq (.seq (.reg [⟨(some 30), none, .mv (.t 1)⟩, ⟨(some 31), none, .call (.c (.fn 71 [])) [(.t 30)]⟩, ⟨(some 29), none, .mv (.t 31)⟩, ⟨(some 32), none, .ext 0 (.t 29)⟩, ⟨(some 33), none, .ext 1 (.t 29)⟩, ⟨(some 5), none, .alloc [(.v (.bool false)), (.v (.bool false)), (.v (.bool false)), (.v (.bool false)), (.v (.bool false)), (.v (.bool false)), (.v (.bool false)), (.v (.bool false)), (.v (.bool false)), (.v (.bool false)), (.v (.bool false)), (.v (.bool false)), (.v (.bool false)), (.v (.bool false)), (.v (.bool false)), (.v (.bool false)), (.v (.bool false)), (.v (.bool false)), (.v (.bool false)), (.v (.bool false)), (.v (.bool false)), (.v (.bool false)), (.v (.bool false)), (.v (.bool false)), (.v (.bool false)), (.v (.bool false)), (.v (.bool false)), (.v (.bool false)), (.v (.bool false)), (.v (.bool false)), (.v (.bool false)), (.v (.bool false)), (.v (.bool false)), (.v (.bool false)), (.v (.bool false)), (.v (.bool false)), (.v (.bool false)), (.v (.bool false)), (.v (.bool false)), (.v (.bool false)), (.v (.bool false)), (.v (.bool false)), (.v (.bool false)), (.v (.bool false)), (.v (.bool false)), (.v (.bool false)), (.v (.bool false)), (.v (.bool false)), (.v (.bool false)), (.v (.bool false)), (.v (.bool false)), (.v (.bool false)), (.v (.bool false)), (.v (.bool false)), (.v (.bool false)), (.v (.bool false)), (.v (.bool false)), (.v (.bool false)), (.v (.bool false)), (.v (.bool false)), (.v (.bool false)), (.v (.bool false)), (.v (.bool false)), (.v (.bool false)), (.v (.bool false)), (.v (.bool false)), (.v (.bool false)), (.v (.bool false)), (.v (.bool false)), (.v (.bool false)), (.v (.bool false)), (.v (.bool false)), (.v (.bool false)), (.v (.bool false)), (.v (.bool false)), (.v (.bool false)), (.v (.bool false)), (.v (.bool false)), (.v (.bool false)), (.v (.bool false)), (.v (.bool false)), (.v (.bool false)), (.v (.bool false)), (.v (.bool false)), (.v (.bool false)), (.v (.bool false)), (.v (.bool false)), (.v (.bool false)), (.v (.bool false)), (.v (.bool false)), (.v (.bool false)), (.v (.bool false)), (.v (.bool false)), (.v (.bool false)), (.v (.bool false)), (.v (.bool false)), (.v (.bool false)), (.v (.bool false)), (.v (.bool false)), (.v (.bool false)), (.v (.bool false)), (.v (.bool false)), (.v (.bool false)), (.v (.bool false)), (.v (.bool false)), (.v (.bool false)), (.v (.bool false)), (.v (.bool false)), (.v (.bool false)), (.v (.bool false)), (.v (.bool false)), (.v (.bool false)), (.v (.bool false)), (.v (.bool false)), (.v (.bool false)), (.v (.bool false)), (.v (.bool false)), (.v (.bool false)), (.v (.bool false)), (.v (.bool false)), (.v (.bool false)), (.v (.bool false)), (.v (.bool false)), (.v (.bool false)), (.v (.bool false)), (.v (.bool false)), (.v (.bool false)), (.v (.bool false)), (.v (.bool false)), (.v (.bool false)), (.v (.bool false)), (.v (.bool false)), (.v (.bool false)), (.v (.bool false)), (.v (.bool false)), (.v (.bool false)), (.v (.bool false)), (.v (.bool false)), (.v (.bool false)), (.v (.bool false)), (.v (.bool false)), (.v (.bool false)), (.v (.bool false)), (.v (.bool false)), (.v (.bool false)), (.v (.bool false)), (.v (.bool false)), (.v (.bool false)), (.v (.bool false)), (.v (.bool false)), (.v (.bool false)), (.v (.bool false)), (.v (.bool false)), (.v (.bool false)), (.v (.bool false)), (.v (.bool false)), (.v (.bool false)), (.v (.bool false)), (.v (.bool false)), (.v (.bool false)), (.v (.bool false)), (.v (.bool false)), (.v (.bool false)), (.v (.bool false)), (.v (.bool false)), (.v (.bool false)), (.v (.bool false)), (.v (.bool false)), (.v (.bool false)), (.v (.bool false)), (.v (.bool false)), (.v (.bool false)), (.v (.bool false)), (.v (.bool false)), (.v (.bool false)), (.v (.bool false)), (.v (.bool false)), (.v (.bool false)), (.v (.bool false)), (.v (.bool false)), (.v (.bool false)), (.v (.bool false)), (.v (.bool false)), (.v (.bool false)), (.v (.bool false)), (.v (.bool false)), (.v (.bool false)), (.v (.bool false)), (.v (.bool false)), (.v (.bool false)), (.v (.bool false)), (.v (.bool false)), (.v (.bool false)), (.v (.bool false)), (.v (.bool false)), (.v (.bool false)), (.v (.bool false)), (.v (.bool false)), (.v (.bool false)), (.v (.bool false)), (.v (.bool false)), (.v (.bool false)), (.v (.bool false)), (.v (.bool false)), (.v (.bool false)), (.v (.bool false)), (.v (.bool false)), (.v (.bool false)), (.v (.bool false)), (.v (.bool false)), (.v (.bool false)), (.v (.bool false)), (.v (.bool false)), (.v (.bool false)), (.v (.bool false)), (.v (.bool false)), (.v (.bool false)), (.v (.bool false)), (.v (.bool false)), (.v (.bool false)), (.v (.bool false)), (.v (.bool false)), (.v (.bool false)), (.v (.bool false)), (.v (.bool false)), (.v (.bool false)), (.v (.bool false)), (.v (.bool false)), (.v (.bool false)), (.v (.bool false)), (.v (.bool false)), (.v (.bool false)), (.v (.bool false)), (.v (.bool false)), (.v (.bool false)), (.v (.bool false)), (.v (.bool false)), (.v (.bool false)), (.v (.bool false)), (.v (.bool false)), (.v (.bool false)), (.v (.bool false)), (.v (.bool false)), (.v (.bool false)), (.v (.bool false)), (.v (.bool false)), (.v (.bool false)), (.v (.bool false)), (.v (.bool false)), (.v (.bool false)), (.v (.bool false)), (.v (.bool false)), (.v (.bool false)), (.v (.bool false)), (.v (.bool false)), (.v (.bool false))]⟩, ⟨none, none, .store 256 (.t 5) (.t 32)⟩, ⟨(some 6), none, .mv (.t 33)⟩]) (.drop [7, 33]))
     (.seq (.seq (.reg [⟨(some 34), none, .mv (.t 6)⟩]) (.drop []))
      (.cond (.t 34) (.seq (.seq (.reg [⟨(some 35), none, .mv (.t 0)⟩, ⟨(some 36), none, .call (.c (.fn 73 [])) [(.t 35), (.t 5)]⟩, ⟨(some 37), none, .call (.c (.fn 72 [])) [(.t 36), (.t 5)]⟩, ⟨(some 4), none, .mv (.t 37)⟩]) (.drop [5, 37]))
        .ret)
       .skip)))
    (.seq (.seq (.reg [⟨(some 38), none, .mv (.t 0)⟩, ⟨(some 39), none, .mv (.t 1)⟩, ⟨(some 40), none, .call (.c (.fn 75 [])) [(.t 38), (.t 39)]⟩, ⟨(some 41), none, .mv (.t 1)⟩, ⟨(some 42), none, .call (.c (.fn 74 [])) [(.t 40), (.t 41)]⟩, ⟨(some 4), none, .mv (.t 42)⟩]) (.drop [5, 42]))
     .ret)))))
def a_strings_Trim : AFn := ⟨2, b_strings_Trim, [.t 4], false, false⟩
theorem a_strings_Trim_ok : compF Tryd.prog Tryd.f54 [[2, 4], [2, 11], [5, 13], [2, 20], [5, 28], [7, 33], [], [5, 37], [5, 42]] false false hv = some a_strings_Trim := by kernel_rfl

/-! (*fugleman/octets.Eye).Left: 56 -/
def b_octets_Eye_Left : AC :=
 (.seq (.seq (.reg [⟨(some 2), none, .mv (.c (.v (.int .i64 0)))⟩]) (.drop [1, 2]))
 (.seq (.seq (.seq (.reg [⟨(some 3), none, .mv (.t 0)⟩, ⟨(some 4), none, .call (.c (.fn 53 [])) [(.t 3)]⟩]) (.drop [1, 3]))
   (.cond (.t 4) (.seq (.seq (.reg [⟨(some 2), none, .mv (.c (.v (.int .i64 0)))⟩]) (.drop []))
     .ret)
    .skip))
  (.seq (.seq (.regq [⟨(some 5), none, .mv (.t 0)⟩, ⟨(some 6), none, .nilck (.t 5)⟩, ⟨(some 7), none, .fad 0 (.t 6)⟩, ⟨(some 8), none, .load none (.t 7)⟩, ⟨(some 9), none, .lens (.t 8)⟩, ⟨(some 10), none, .mv (.t 0)⟩, ⟨(some 11), none, .nilck (.t 10)⟩, ⟨(some 12), none, .fad 1 (.t 11)⟩, ⟨(some 13), none, .load none (.t 12)⟩, ⟨(some 14), none, .bin .sub (.t 9) (.t 13)⟩, ⟨(some 2), none, .mv (.t 14)⟩]) (.drop [3, 14]))
   .ret)))
def a_octets_Eye_Left : AFn := ⟨1, b_octets_Eye_Left, [.t 2], false, false⟩
theorem a_octets_Eye_Left_ok : compF Tryd.prog Tryd.f56 [[1, 2], [1, 3], [], [3, 14]] false false hv = some a_octets_Eye_Left := by kernel_rfl

/-! fugleman/retain.parse: 36 -/
def b_retain_parse : AC :=
 (.seq (.seq (.reg [⟨(some 2), none, .alloc [(.v (.int .u32 0)), (.v (.int .u16 0)), (.v (.string ⟨#[]⟩))]⟩, ⟨(some 3), none, .mv (.c (.v (.bool false)))⟩]) (.drop [3, 3]))
 (.seq (.seq (.reg [⟨(some 9), none, .mv (.t 0)⟩, ⟨(some 10), none, .slstr (.t 9) (some (.c (.v (.int .i64 1)))) none⟩, ⟨(some 11), none, .call (.c (.fn 48 [])) [(.t 10)]⟩, ⟨(some 8), none, .mv (.t 11)⟩, ⟨(some 12), none, .ext 0 (.t 8)⟩, ⟨(some 13), none, .ext 1 (.t 8)⟩, ⟨(some 4), none, .mv (.t 12)⟩, ⟨(some 5), none, .mv (.t 13)⟩]) (.drop [6, 13]))
  (.seq (.seq (.seq (.reg [⟨(some 14), none, .mv (.t 5)⟩, ⟨(some 15), none, .un .not (.t 14)⟩, ⟨(some 16), none, .mv (.t 15)⟩, ⟨(some 17), (some (16, false)), .mv (.t 0)⟩, ⟨(some 18), (some (16, false)), .slstr (.t 17) none (some (.c (.v (.int .i64 1))))⟩, ⟨(some 19), (some (16, false)), .bin .neq (.t 18) (.c (.v (.string ⟨#[165]⟩)))⟩, ⟨(some 20), none, .pick (.t 16) (.c (.v (.bool true))) (.t 19)⟩]) (.drop [5, 19]))
    (.cond (.t 20) (.seq (.seq (.reg [⟨(some 21), none, .build [(.v (.int .u32 0)), (.v (.int .u16 0)), (.v (.string ⟨#[]⟩))] []⟩, ⟨none, none, .store 3 (.t 2) (.t 21)⟩, ⟨(some 3), none, .mv (.c (.v (.bool false)))⟩]) (.drop [4, 21]))
      .ret)
     .skip))
   (.seq (.seq (.reg [⟨(some 22), none, .mv (.t 4)⟩, ⟨(some 23), none, .call (.c (.fn 49 [])) [(.t 22)]⟩, ⟨(some 6), none, .mv (.t 23)⟩]) (.drop [7, 23]))
    (.seq (.seq (.reg [⟨(some 24), none, .mv (.t 6)⟩, ⟨(some 25), none, .call (.c (.fn 50 [])) [(.t 24)]⟩, ⟨(some 26), none, .mv (.t 6)⟩, ⟨(some 27), none, .call (.c (.fn 51 [])) [(.t 26)]⟩, ⟨(some 28), none, .mv (.t 6)⟩, ⟨(some 29), none, .call (.c (.fn 52 [])) [(.t 28)]⟩, ⟨(some 30), none, .build [(.v (.int .u32 0)), (.v (.int .u16 0)), (.v (.string ⟨#[]⟩))] [(0, 1, (.t 25)), (1, 1, (.t 27)), (2, 1, (.t 29))]⟩, ⟨(some 7), none, .alloc [(.v (.int .u32 0)), (.v (.int .u16 0)), (.v (.string ⟨#[]⟩))]⟩, ⟨none, none, .store 3 (.t 7) (.t 30)⟩]) (.drop [8, 30]))
     (.seq (.seq (.seq (.reg [⟨(some 31), none, .mv (.t 6)⟩, ⟨(some 32), none, .call (.c (.fn 53 [])) [(.t 31)]⟩, ⟨(some 33), none, .mv (.t 32)⟩, ⟨(some 34), (some (33, false)), .mv (.t 6)⟩, ⟨(some 35), (some (33, false)), .mv (.t 6)⟩, ⟨(some 36), (some (33, false)), .call (.c (.fn 56 [])) [(.t 35)]⟩, ⟨(some 37), (some (33, false)), .call (.c (.fn 55 [])) [(.t 34), (.t 36)]⟩, ⟨(some 38), (some (33, false)), .call (.c (.fn 54 [])) [(.t 37), (.c (.v (.string ⟨#[0]⟩)))]⟩, ⟨(some 39), (some (33, false)), .bin .neq (.t 38) (.c (.v (.string ⟨#[]⟩)))⟩, ⟨(some 40), none, .pick (.t 33) (.c (.v (.bool true))) (.t 39)⟩]) (.drop [8, 39]))
       (.cond (.t 40) (.seq (.seq (.reg [⟨(some 41), none, .build [(.v (.int .u32 0)), (.v (.int .u16 0)), (.v (.string ⟨#[]⟩))] []⟩, ⟨none, none, .store 3 (.t 2) (.t 41)⟩, ⟨(some 3), none, .mv (.c (.v (.bool false)))⟩]) (.drop [4, 41]))
         .ret)
        .skip))
      (.seq (.seq (.reg [⟨(some 42), none, .load (some 3) (.t 7)⟩, ⟨none, none, .store 3 (.t 2) (.t 42)⟩, ⟨(some 3), none, .mv (.c (.v (.bool true)))⟩]) (.drop [4, 42]))
       .ret)))))))
def a_retain_parse : AFn := ⟨1, b_retain_parse, [.cell 2 (some 3), .t 3], false, false⟩
theorem a_retain_parse_ok : compF Tryd.prog Tryd.f36 [[3, 3], [6, 13], [5, 19], [4, 21], [7, 23], [8, 30], [8, 39], [4, 41], [4, 42]] false false hv = some a_retain_parse := by kernel_rfl

/-! fugleman/retain.newest: 25 -/
def l_retain_newest_1 : AC :=
 (.seq (.seq (.regm [(.o, ⟨(some 47), none, .mv (.t 5)⟩), (.o, ⟨(some 48), none, .load (some 3) (.t 6)⟩), (.o, ⟨(some 49), none, .mv (.t 7)⟩), (.o, ⟨(some 2), none, .mv (.t 47)⟩), (.o, ⟨none, none, .store 3 (.t 3) (.t 48)⟩), (.o, ⟨(some 4), none, .mv (.t 49)⟩)]) (.drop [5, 49]))
 .ret)
def c_retain_newest_0 : AC :=
 (.seq (.seq (.reg [⟨(some 26), none, .build [(.v (.int .u32 0)), (.v (.int .u16 0)), (.v (.string ⟨#[]⟩))] []⟩, ⟨(some 2), none, .mv (.c (.v (.int .i64 0)))⟩, ⟨none, none, .store 3 (.t 3) (.t 26)⟩, ⟨(some 4), none, .mv (.c (.v (.bool false)))⟩]) (.drop [5, 26]))
          .ret)
theorem g_retain_newest_0 {C : CT} {lf : Nat} {ks : List It} {s : St} : type_of% (@Sym.go_as C lf ks s _ _ c_retain_newest_0.eq_1) := Sym.go_as c_retain_newest_0.eq_1
def c_retain_newest_1 : AC :=
 (.seq (.regm [(.o, ⟨(some 44), none, .mv (.t 8)⟩), (.o, ⟨(some 45), none, .load (some 3) (.t 11)⟩), (.o, ⟨(some 5), none, .mv (.t 44)⟩), (.o, ⟨none, none, .store 3 (.t 6) (.t 45)⟩), (.o, ⟨(some 7), none, .mv (.c (.v (.bool true)))⟩)]) (.drop [15, 45]))
theorem g_retain_newest_1 {C : CT} {lf : Nat} {ks : List It} {s : St} : type_of% (@Sym.go_as C lf ks s _ _ c_retain_newest_1.eq_1) := Sym.go_as c_retain_newest_1.eq_1
def l_retain_newest_0 : AC :=
 (.seq (.seq (.reg [⟨(some 15), none, .bin .lss (.t 14) (.c (.v (.int .i64 2)))⟩]) (.drop []))
 (.seq (.cond (.t 15) .skip
   (.exit 0))
  (.seq (.block 1 (.seq (.seq (.reg [⟨(some 16), none, .mv (.t 14)⟩, ⟨(some 8), none, .mv (.t 16)⟩]) (.drop [15, 16]))
     (.seq (.seq (.reg [⟨(some 18), none, .mv (.t 0)⟩, ⟨(some 19), none, .mv (.t 8)⟩, ⟨(some 20), none, .bin .mul (.t 19) (.c (.v (.int .i64 74)))⟩, ⟨(some 21), none, .call (.c (.fn 26 [])) [(.t 18), (.t 20), (.c (.v (.int .i64 74)))]⟩, ⟨(some 17), none, .mv (.t 21)⟩, ⟨(some 22), none, .ext 0 (.t 17)⟩, ⟨(some 23), none, .ext 1 (.t 17)⟩, ⟨(some 9), none, .mv (.t 22)⟩, ⟨(some 10), none, .mv (.t 23)⟩]) (.drop [15, 23]))
      (.seq (.seq (.seq (.reg [⟨(some 24), none, .mv (.t 10)⟩, ⟨(some 25), none, .un .not (.t 24)⟩]) (.drop [15, 24]))
        (.cond (.t 25) c_retain_newest_0
         .skip))
       (.seq (.seq (.reg [⟨(some 28), none, .mv (.t 9)⟩, ⟨(some 29), none, .call (.c (.fn 36 [])) [(.t 28)]⟩, ⟨(some 27), none, .mv (.t 29)⟩, ⟨(some 30), none, .ext 0 (.t 27)⟩, ⟨(some 31), none, .ext 1 (.t 27)⟩, ⟨(some 11), none, .alloc [(.v (.int .u32 0)), (.v (.int .u16 0)), (.v (.string ⟨#[]⟩))]⟩, ⟨none, none, .store 3 (.t 11) (.t 30)⟩, ⟨(some 12), none, .mv (.t 31)⟩]) (.drop [15, 31]))
        (.seq (.seq (.reg [⟨(some 32), none, .mv (.t 12)⟩, ⟨(some 33), none, .mv (.t 32)⟩, ⟨(some 34), (some (33, true)), .mv (.t 7)⟩, ⟨(some 35), (some (33, true)), .un .not (.t 34)⟩, ⟨(some 36), (some (33, true)), .mv (.t 35)⟩, ⟨(some 37), (some (36, false)), .fad 0 (.t 11)⟩, ⟨(some 38), (some (36, false)), .load none (.t 37)⟩, ⟨(some 39), (some (36, false)), .fad 0 (.t 6)⟩, ⟨(some 40), (some (36, false)), .load none (.t 39)⟩, ⟨(some 41), (some (36, false)), .bin .gtr (.t 38) (.t 40)⟩, ⟨(some 42), (some (33, true)), .pick (.t 36) (.c (.v (.bool true))) (.t 41)⟩, ⟨(some 43), none, .pick (.t 33) (.t 42) (.c (.v (.bool false)))⟩]) (.drop [15, 42]))
         (.cond (.t 43) c_retain_newest_1
          .skip)))))))
   (.seq (.reg [⟨(some 46), none, .bin .add (.t 14) (.c (.v (.int .i64 1)))⟩, ⟨(some 14), none, .mv (.t 46)⟩]) (.drop [15, 46])))))
def b_retain_newest : AC :=
 (.seq (.seq (.reg [⟨(some 2), none, .mv (.c (.v (.int .i64 0)))⟩, ⟨(some 3), none, .alloc [(.v (.int .u32 0)), (.v (.int .u16 0)), (.v (.string ⟨#[]⟩))]⟩, ⟨(some 4), none, .mv (.c (.v (.bool false)))⟩]) (.drop [1, 2, 4, 4]))
 (.seq (.seq (.reg [⟨(some 13), none, .build [(.v (.int .u32 0)), (.v (.int .u16 0)), (.v (.string ⟨#[]⟩))] []⟩, ⟨(some 6), none, .alloc [(.v (.int .u32 0)), (.v (.int .u16 0)), (.v (.string ⟨#[]⟩))]⟩, ⟨(some 5), none, .mv (.c (.v (.int .i64 0)))⟩, ⟨none, none, .store 3 (.t 6) (.t 13)⟩, ⟨(some 7), none, .mv (.c (.v (.bool false)))⟩]) (.drop [8, 13]))
  (.seq (.seq (.seq (.reg [⟨(some 14), none, .mv (.c (.v (.int .i64 0)))⟩]) (.drop []))
    (.block 0 (.loop [0, 3, 5, 6, 7, 14] l_retain_newest_0)))
   l_retain_newest_1)))
def a_retain_newest : AFn := ⟨1, b_retain_newest, [.t 2, .cell 3 (some 3), .t 4], false, false⟩
theorem a_retain_newest_ok : compF Tryd.prog Tryd.f25 [[1, 2, 4, 4], [8, 13], [], [0, 3, 5, 6, 7, 14], [], [15, 16], [15, 23], [15, 24], [5, 26], [15, 31], [15, 42], [15, 45], [15, 46], [5, 49]] false false hv = some a_retain_newest := by kernel_rfl

/-! fugleman/octets.NewPen: 40 -/
def b_octets_NewPen : AC :=
 (.seq (.seq (.reg [⟨(some 0), none, .mv (.c (.v (.pointer none)))⟩]) (.drop [0, 0]))
 (.seq (.seq (.reg [⟨(some 1), none, .build [(.v (.slice none 0 0))] []⟩, ⟨(some 2), none, .box (.t 1)⟩, ⟨(some 0), none, .mv (.t 2)⟩]) (.drop [1, 2]))
  .ret))
def a_octets_NewPen : AFn := ⟨0, b_octets_NewPen, [.t 0], false, false⟩
theorem a_octets_NewPen_ok : compF Tryd.prog Tryd.f40 [[0, 0], [1, 2]] false false hv = some a_octets_NewPen := by kernel_rfl

/-! (*fugleman/octets.Pen).Byte: 59 -/
def c_octets_Pen_Byte_0 : AC :=
 (.seq (.reg [⟨(some 7), none, .mv (.t 0)⟩, ⟨(some 8), none, .mv (.t 0)⟩, ⟨(some 9), none, .nilck (.t 8)⟩, ⟨(some 10), none, .fad 0 (.t 9)⟩, ⟨(some 11), none, .load none (.t 10)⟩, ⟨(some 12), none, .mv (.t 1)⟩, ⟨(some 13), none, .row 1 1 [(.v (.int .u8 0))] [(0, 1, (.t 12))]⟩, ⟨(some 14), none, .app 1 1 (.t 11) (.t 13)⟩, ⟨(some 15), none, .nilck (.t 7)⟩, ⟨(some 16), none, .fad 0 (.t 15)⟩, ⟨none, none, .store 1 (.t 16) (.t 14)⟩]) (.drop [1, 16]))
theorem g_octets_Pen_Byte_0 {C : CT} {lf : Nat} {ks : List It} {s : St} : type_of% (@Sym.go_as C lf ks s _ _ c_octets_Pen_Byte_0.eq_1) := Sym.go_as c_octets_Pen_Byte_0.eq_1
def b_octets_Pen_Byte : AC :=
 (.seq (.seq (.reg [⟨(some 4), none, .mv (.c (.v (.pointer none)))⟩]) (.drop [2, 4]))
 (.seq (.seq (.seq (.reg [⟨(some 5), none, .mv (.t 0)⟩, ⟨(some 6), none, .eqp true (.t 5) (.c (.v (.pointer none)))⟩]) (.drop [2, 5]))
   (.cond (.t 6) c_octets_Pen_Byte_0
    .skip))
  (.seq (.seq (.reg [⟨(some 17), none, .mv (.t 0)⟩, ⟨(some 4), none, .mv (.t 17)⟩]) (.drop [5, 17]))
   .ret)))
def a_octets_Pen_Byte : AFn := ⟨2, b_octets_Pen_Byte, [.t 4], false, true⟩
theorem a_octets_Pen_Byte_ok : compF Tryd.prog Tryd.f59 [[2, 4], [2, 5], [1, 16], [5, 17]] false true hv = some a_octets_Pen_Byte := by kernel_rfl

/-! (*fugleman/octets.Pen).Two: 42 -/
def b_octets_Pen_Two : AC :=
 (.seq (.seq (.reg [⟨(some 4), none, .mv (.c (.v (.pointer none)))⟩]) (.drop [2, 4]))
 (.seq (.seq (.reg [⟨(some 5), none, .mv (.t 0)⟩, ⟨(some 6), none, .mv (.t 1)⟩, ⟨(some 7), none, .bin .shr (.t 6) (.c (.v (.int .u64 8)))⟩, ⟨(some 8), none, .cvi .u8 (.t 7)⟩, ⟨(some 9), none, .call (.c (.fn 59 [])) [(.t 5), (.t 8)]⟩, ⟨(some 10), none, .mv (.t 1)⟩, ⟨(some 11), none, .cvi .u8 (.t 10)⟩, ⟨(some 12), none, .call (.c (.fn 59 [])) [(.t 9), (.t 11)]⟩, ⟨(some 4), none, .mv (.t 12)⟩]) (.drop [5, 12]))
  .ret))
def a_octets_Pen_Two : AFn := ⟨2, b_octets_Pen_Two, [.t 4], false, true⟩
theorem a_octets_Pen_Two_ok : compF Tryd.prog Tryd.f42 [[2, 4], [5, 12]] false true hv = some a_octets_Pen_Two := by kernel_rfl

/-! (*fugleman/octets.Pen).Four: 41 -/
def b_octets_Pen_Four : AC :=
 (.seq (.seq (.reg [⟨(some 4), none, .mv (.c (.v (.pointer none)))⟩]) (.drop [2, 4]))
 (.seq (.seq (.reg [⟨(some 5), none, .mv (.t 0)⟩, ⟨(some 6), none, .mv (.t 1)⟩, ⟨(some 7), none, .bin .shr (.t 6) (.c (.v (.int .u64 16)))⟩, ⟨(some 8), none, .cvi .u16 (.t 7)⟩, ⟨(some 9), none, .call (.c (.fn 42 [])) [(.t 5), (.t 8)]⟩, ⟨(some 10), none, .mv (.t 1)⟩, ⟨(some 11), none, .cvi .u16 (.t 10)⟩, ⟨(some 12), none, .call (.c (.fn 42 [])) [(.t 9), (.t 11)]⟩, ⟨(some 4), none, .mv (.t 12)⟩]) (.drop [5, 12]))
  .ret))
def a_octets_Pen_Four : AFn := ⟨2, b_octets_Pen_Four, [.t 4], false, true⟩
theorem a_octets_Pen_Four_ok : compF Tryd.prog Tryd.f41 [[2, 4], [5, 12]] false true hv = some a_octets_Pen_Four := by kernel_rfl

/-! (*fugleman/octets.Pen).Text: 44 -/
def c_octets_Pen_Text_0 : AC :=
 (.seq (.reg [⟨(some 7), none, .mv (.t 0)⟩, ⟨(some 8), none, .mv (.t 0)⟩, ⟨(some 9), none, .nilck (.t 8)⟩, ⟨(some 10), none, .fad 0 (.t 9)⟩, ⟨(some 11), none, .load none (.t 10)⟩, ⟨(some 12), none, .mv (.t 1)⟩, ⟨(some 13), none, .app 1 1 (.t 11) (.t 12)⟩, ⟨(some 14), none, .nilck (.t 7)⟩, ⟨(some 15), none, .fad 0 (.t 14)⟩, ⟨none, none, .store 1 (.t 15) (.t 13)⟩]) (.drop [1, 15]))
theorem g_octets_Pen_Text_0 {C : CT} {lf : Nat} {ks : List It} {s : St} : type_of% (@Sym.go_as C lf ks s _ _ c_octets_Pen_Text_0.eq_1) := Sym.go_as c_octets_Pen_Text_0.eq_1
def b_octets_Pen_Text : AC :=
 (.seq (.seq (.reg [⟨(some 4), none, .mv (.c (.v (.pointer none)))⟩]) (.drop [2, 4]))
 (.seq (.seq (.seq (.reg [⟨(some 5), none, .mv (.t 0)⟩, ⟨(some 6), none, .eqp true (.t 5) (.c (.v (.pointer none)))⟩]) (.drop [2, 5]))
   (.cond (.t 6) c_octets_Pen_Text_0
    .skip))
  (.seq (.seq (.reg [⟨(some 16), none, .mv (.t 0)⟩, ⟨(some 4), none, .mv (.t 16)⟩]) (.drop [5, 16]))
   .ret)))
def a_octets_Pen_Text : AFn := ⟨2, b_octets_Pen_Text, [.t 4], false, true⟩
theorem a_octets_Pen_Text_ok : compF Tryd.prog Tryd.f44 [[2, 4], [2, 5], [1, 15], [5, 16]] false true hv = some a_octets_Pen_Text := by kernel_rfl

/-! (*fugleman/octets.Pen).Small: 43 -/
def b_octets_Pen_Small : AC :=
 (.seq (.seq (.reg [⟨(some 4), none, .mv (.c (.v (.bool false)))⟩]) (.drop [2, 4]))
 (.seq (.seq (.seq (.reg [⟨(some 5), none, .mv (.t 0)⟩, ⟨(some 6), none, .eqp false (.t 5) (.c (.v (.pointer none)))⟩, ⟨(some 7), none, .mv (.t 6)⟩, ⟨(some 8), (some (7, false)), .mv (.t 1)⟩, ⟨(some 9), (some (7, false)), .lens (.t 8)⟩, ⟨(some 10), (some (7, false)), .bin .gtr (.t 9) (.c (.v (.int .i64 255)))⟩, ⟨(some 11), none, .pick (.t 7) (.c (.v (.bool true))) (.t 10)⟩]) (.drop [2, 10]))
   (.cond (.t 11) (.seq (.seq (.reg [⟨(some 4), none, .mv (.c (.v (.bool false)))⟩]) (.drop []))
     .ret)
    .skip))
  (.seq (.seq (.reg [⟨(some 12), none, .mv (.t 0)⟩, ⟨(some 13), none, .mv (.t 1)⟩, ⟨(some 14), none, .lens (.t 13)⟩, ⟨(some 15), none, .cvi .u8 (.t 14)⟩, ⟨(some 16), none, .call (.c (.fn 59 [])) [(.t 12), (.t 15)]⟩, ⟨(some 17), none, .mv (.t 1)⟩, ⟨(some 18), none, .call (.c (.fn 44 [])) [(.t 16), (.t 17)]⟩]) (.drop [0, 18]))
   (.seq (.seq (.reg [⟨(some 4), none, .mv (.c (.v (.bool true)))⟩]) (.drop []))
    .ret))))
def a_octets_Pen_Small : AFn := ⟨2, b_octets_Pen_Small, [.t 4], false, true⟩
theorem a_octets_Pen_Small_ok : compF Tryd.prog Tryd.f43 [[2, 4], [2, 10], [], [0, 18], []] false true hv = some a_octets_Pen_Small := by kernel_rfl

/-! math/bits.Mul32: 77 -/
def b_bits_Mul32 : AC :=
 (.seq (.seq (.reg [⟨(some 4), none, .mv (.c (.v (.int .u32 0)))⟩, ⟨(some 5), none, .mv (.c (.v (.int .u32 0)))⟩]) (.drop [2, 5]))
 (.seq (.seq (.reg [⟨(some 7), none, .mv (.t 0)⟩, ⟨(some 8), none, .cvi .u64 (.t 7)⟩, ⟨(some 9), none, .mv (.t 1)⟩, ⟨(some 10), none, .cvi .u64 (.t 9)⟩, ⟨(some 11), none, .bin .mul (.t 8) (.t 10)⟩, ⟨(some 6), none, .mv (.t 11)⟩]) (.drop [7, 11]))
  (.seq (.seq (.reg [⟨(some 12), none, .mv (.t 6)⟩, ⟨(some 13), none, .bin .shr (.t 12) (.c (.v (.int .u64 32)))⟩, ⟨(some 14), none, .cvi .u32 (.t 13)⟩, ⟨(some 15), none, .mv (.t 6)⟩, ⟨(some 16), none, .cvi .u32 (.t 15)⟩, ⟨(some 4), none, .mv (.t 14)⟩, ⟨(some 5), none, .mv (.t 16)⟩]) (.drop [6, 16]))
   .ret)))
def a_bits_Mul32 : AFn := ⟨2, b_bits_Mul32, [.t 4, .t 5], false, false⟩
theorem a_bits_Mul32_ok : compF Tryd.prog Tryd.f77 [[2, 5], [7, 11], [6, 16]] false false hv = some a_bits_Mul32 := by kernel_rfl

/-! math/bits.Mul64: 78 -/
def b_bits_Mul64 : AC :=
 (.seq (.seq (.reg [⟨(some 4), none, .mv (.c (.v (.int .u64 0)))⟩, ⟨(some 5), none, .mv (.c (.v (.int .u64 0)))⟩]) (.drop [2, 5]))
 (.seq (.seq (.reg [⟨(some 14), none, .mv (.t 0)⟩, ⟨(some 15), none, .bin .and (.t 14) (.c (.v (.int .u64 4294967295)))⟩, ⟨(some 6), none, .mv (.t 15)⟩]) (.drop [7, 15]))
  (.seq (.seq (.reg [⟨(some 16), none, .mv (.t 0)⟩, ⟨(some 17), none, .bin .shr (.t 16) (.c (.v (.int .u64 32)))⟩, ⟨(some 7), none, .mv (.t 17)⟩]) (.drop [8, 17]))
   (.seq (.seq (.reg [⟨(some 18), none, .mv (.t 1)⟩, ⟨(some 19), none, .bin .and (.t 18) (.c (.v (.int .u64 4294967295)))⟩, ⟨(some 8), none, .mv (.t 19)⟩]) (.drop [9, 19]))
    (.seq (.seq (.reg [⟨(some 20), none, .mv (.t 1)⟩, ⟨(some 21), none, .bin .shr (.t 20) (.c (.v (.int .u64 32)))⟩, ⟨(some 9), none, .mv (.t 21)⟩]) (.drop [10, 21]))
     (.seq (.seq (.reg [⟨(some 22), none, .mv (.t 6)⟩, ⟨(some 23), none, .mv (.t 8)⟩, ⟨(some 24), none, .bin .mul (.t 22) (.t 23)⟩, ⟨(some 10), none, .mv (.t 24)⟩]) (.drop [11, 24]))
      (.seq (.seq (.reg [⟨(some 25), none, .mv (.t 7)⟩, ⟨(some 26), none, .mv (.t 8)⟩, ⟨(some 27), none, .bin .mul (.t 25) (.t 26)⟩, ⟨(some 28), none, .mv (.t 10)⟩, ⟨(some 29), none, .bin .shr (.t 28) (.c (.v (.int .u64 32)))⟩, ⟨(some 30), none, .bin .add (.t 27) (.t 29)⟩, ⟨(some 11), none, .mv (.t 30)⟩]) (.drop [12, 30]))
       (.seq (.seq (.reg [⟨(some 31), none, .mv (.t 11)⟩, ⟨(some 32), none, .bin .and (.t 31) (.c (.v (.int .u64 4294967295)))⟩, ⟨(some 12), none, .mv (.t 32)⟩]) (.drop [13, 32]))
        (.seq (.seq (.reg [⟨(some 33), none, .mv (.t 11)⟩, ⟨(some 34), none, .bin .shr (.t 33) (.c (.v (.int .u64 32)))⟩, ⟨(some 13), none, .mv (.t 34)⟩]) (.drop [14, 34]))
         (.seq (.seq (.reg [⟨(some 35), none, .mv (.t 12)⟩, ⟨(some 36), none, .mv (.t 6)⟩, ⟨(some 37), none, .mv (.t 9)⟩, ⟨(some 38), none, .bin .mul (.t 36) (.t 37)⟩, ⟨(some 39), none, .bin .add (.t 35) (.t 38)⟩, ⟨(some 12), none, .mv (.t 39)⟩]) (.drop [14, 39]))
          (.seq (.seq (.reg [⟨(some 40), none, .mv (.t 7)⟩, ⟨(some 41), none, .mv (.t 9)⟩, ⟨(some 42), none, .bin .mul (.t 40) (.t 41)⟩, ⟨(some 43), none, .mv (.t 13)⟩, ⟨(some 44), none, .bin .add (.t 42) (.t 43)⟩, ⟨(some 45), none, .mv (.t 12)⟩, ⟨(some 46), none, .bin .shr (.t 45) (.c (.v (.int .u64 32)))⟩, ⟨(some 47), none, .bin .add (.t 44) (.t 46)⟩, ⟨(some 4), none, .mv (.t 47)⟩]) (.drop [5, 47]))
           (.seq (.seq (.reg [⟨(some 48), none, .mv (.t 0)⟩, ⟨(some 49), none, .mv (.t 1)⟩, ⟨(some 50), none, .bin .mul (.t 48) (.t 49)⟩, ⟨(some 5), none, .mv (.t 50)⟩]) (.drop [6, 50]))
            .ret))))))))))))
def a_bits_Mul64 : AFn := ⟨2, b_bits_Mul64, [.t 4, .t 5], false, false⟩
theorem a_bits_Mul64_ok : compF Tryd.prog Tryd.f78 [[2, 5], [7, 15], [8, 17], [9, 19], [10, 21], [11, 24], [12, 30], [13, 32], [14, 34], [14, 39], [5, 47], [6, 50]] false false hv = some a_bits_Mul64 := by kernel_rfl

/-! math/bits.Mul: 60 -/
def c_bits_Mul_0 : AC :=
 (.seq (.seq (.reg [⟨(some 11), none, .mv (.t 0)⟩, ⟨(some 12), none, .cvi .u32 (.t 11)⟩, ⟨(some 13), none, .mv (.t 1)⟩, ⟨(some 14), none, .cvi .u32 (.t 13)⟩, ⟨(some 15), none, .call (.c (.fn 77 [])) [(.t 12), (.t 14)]⟩, ⟨(some 10), none, .mv (.t 15)⟩, ⟨(some 16), none, .ext 0 (.t 10)⟩, ⟨(some 17), none, .ext 1 (.t 10)⟩, ⟨(some 6), none, .mv (.t 16)⟩, ⟨(some 7), none, .mv (.t 17)⟩]) (.drop [8, 17]))
    (.seq (.seq (.reg [⟨(some 18), none, .mv (.t 6)⟩, ⟨(some 19), none, .cvi .u64 (.t 18)⟩, ⟨(some 20), none, .mv (.t 7)⟩, ⟨(some 21), none, .cvi .u64 (.t 20)⟩, ⟨(some 4), none, .mv (.t 19)⟩, ⟨(some 5), none, .mv (.t 21)⟩]) (.drop [6, 21]))
     .ret))
theorem g_bits_Mul_0 {C : CT} {lf : Nat} {ks : List It} {s : St} : type_of% (@Sym.go_as C lf ks s _ _ c_bits_Mul_0.eq_1) := Sym.go_as c_bits_Mul_0.eq_1
def b_bits_Mul : AC :=
 (.seq (.seq (.reg [⟨(some 4), none, .mv (.c (.v (.int .u64 0)))⟩, ⟨(some 5), none, .mv (.c (.v (.int .u64 0)))⟩]) (.drop [2, 5]))
 (.seq (.cond (.c (.v (.bool false))) c_bits_Mul_0
   .skip)
  (.seq (.seq (.reg [⟨(some 23), none, .mv (.t 0)⟩, ⟨(some 24), none, .mv (.t 1)⟩, ⟨(some 25), none, .call (.c (.fn 78 [])) [(.t 23), (.t 24)]⟩, ⟨(some 22), none, .mv (.t 25)⟩, ⟨(some 26), none, .ext 0 (.t 22)⟩, ⟨(some 27), none, .ext 1 (.t 22)⟩, ⟨(some 8), none, .mv (.t 26)⟩, ⟨(some 9), none, .mv (.t 27)⟩]) (.drop [10, 27]))
   (.seq (.seq (.reg [⟨(some 28), none, .mv (.t 8)⟩, ⟨(some 29), none, .mv (.t 9)⟩, ⟨(some 4), none, .mv (.t 28)⟩, ⟨(some 5), none, .mv (.t 29)⟩]) (.drop [6, 29]))
    .ret))))
def a_bits_Mul : AFn := ⟨2, b_bits_Mul, [.t 4, .t 5], false, false⟩
theorem a_bits_Mul_ok : compF Tryd.prog Tryd.f60 [[2, 5], [8, 17], [6, 21], [10, 27], [6, 29]] false false hv = some a_bits_Mul := by kernel_rfl

/-! internal/stringslite.HasPrefix: 79 -/
def b_stringslite_HasPrefix : AC :=
 (.seq (.seq (.reg [⟨(some 4), none, .mv (.c (.v (.bool false)))⟩]) (.drop [2, 4]))
 (.seq (.seq (.reg [⟨(some 5), none, .mv (.t 0)⟩, ⟨(some 6), none, .lens (.t 5)⟩, ⟨(some 7), none, .mv (.t 1)⟩, ⟨(some 8), none, .lens (.t 7)⟩, ⟨(some 9), none, .bin .geq (.t 6) (.t 8)⟩, ⟨(some 10), none, .mv (.t 9)⟩, ⟨(some 11), (some (10, true)), .mv (.t 0)⟩, ⟨(some 12), (some (10, true)), .mv (.t 1)⟩, ⟨(some 13), (some (10, true)), .lens (.t 12)⟩, ⟨(some 14), (some (10, true)), .slstr (.t 11) none (some (.t 13))⟩, ⟨(some 15), (some (10, true)), .mv (.t 1)⟩, ⟨(some 16), (some (10, true)), .bin .eql (.t 14) (.t 15)⟩, ⟨(some 17), none, .pick (.t 10) (.t 16) (.c (.v (.bool false)))⟩, ⟨(some 4), none, .mv (.t 17)⟩]) (.drop [5, 17]))
  .ret))
def a_stringslite_HasPrefix : AFn := ⟨2, b_stringslite_HasPrefix, [.t 4], false, false⟩
theorem a_stringslite_HasPrefix_ok : compF Tryd.prog Tryd.f79 [[2, 4], [5, 17]] false false hv = some a_stringslite_HasPrefix := by kernel_rfl

/-! strings.HasPrefix: 61 -/
def b_strings_HasPrefix : AC :=
 (.seq (.seq (.reg [⟨(some 4), none, .mv (.c (.v (.bool false)))⟩]) (.drop [2, 4]))
 (.seq (.seq (.reg [⟨(some 5), none, .mv (.t 0)⟩, ⟨(some 6), none, .mv (.t 1)⟩, ⟨(some 7), none, .call (.c (.fn 79 [])) [(.t 5), (.t 6)]⟩, ⟨(some 4), none, .mv (.t 7)⟩]) (.drop [5, 7]))
  .ret))
def a_strings_HasPrefix : AFn := ⟨2, b_strings_HasPrefix, [.t 4], false, false⟩
theorem a_strings_HasPrefix_ok : compF Tryd.prog Tryd.f61 [[2, 4], [5, 7]] false false hv = some a_strings_HasPrefix := by kernel_rfl

/-! (*strings.Builder).Len: 64 -/
def b_strings_Builder_Len : AC :=
 (.seq (.seq (.reg [⟨(some 2), none, .mv (.c (.v (.int .i64 0)))⟩]) (.drop [1, 2]))
 (.seq (.seq (.reg [⟨(some 3), none, .mv (.t 0)⟩, ⟨(some 4), none, .nilck (.t 3)⟩, ⟨(some 5), none, .fad 1 (.t 4)⟩, ⟨(some 6), none, .load none (.t 5)⟩, ⟨(some 7), none, .len (.t 6)⟩, ⟨(some 2), none, .mv (.t 7)⟩]) (.drop [3, 7]))
  .ret))
def a_strings_Builder_Len : AFn := ⟨1, b_strings_Builder_Len, [.t 2], false, false⟩
theorem a_strings_Builder_Len_ok : compF Tryd.prog Tryd.f64 [[1, 2], [3, 7]] false false hv = some a_strings_Builder_Len := by kernel_rfl

/-! fugleman/crc.Sealed: 46 -/
def b_crc_Sealed : AC :=
 (.seq (.seq (.reg [⟨(some 2), none, .mv (.c (.v (.string ⟨#[]⟩)))⟩]) (.drop [1, 2]))
 (.seq (.seq (.reg [⟨(some 4), none, .mv (.t 0)⟩, ⟨(some 5), none, .call (.c (.fn 66 [])) [(.t 4)]⟩, ⟨(some 3), none, .mv (.t 5)⟩]) (.drop [4, 5]))
  (.seq (.seq (.reg [⟨(some 6), none, .mv (.t 0)⟩, ⟨(some 7), none, .mv (.t 3)⟩, ⟨(some 8), none, .bin .shr (.t 7) (.c (.v (.int .u64 8)))⟩, ⟨(some 9), none, .cvi .u8 (.t 8)⟩, ⟨(some 10), none, .mv (.t 3)⟩, ⟨(some 11), none, .cvi .u8 (.t 10)⟩, ⟨(some 12), none, .row 1 2 [(.v (.int .u8 0))] [(0, 1, (.t 9)), (1, 1, (.t 11))]⟩, ⟨(some 13), none, .cvbs (.t 12)⟩, ⟨(some 14), none, .bin .add (.t 6) (.t 13)⟩, ⟨(some 2), none, .mv (.t 14)⟩]) (.drop [3, 14]))
   .ret)))
def a_crc_Sealed : AFn := ⟨1, b_crc_Sealed, [.t 2], false, false⟩
theorem a_crc_Sealed_ok : compF Tryd.prog Tryd.f46 [[1, 2], [4, 5], [3, 14]] false false hv = some a_crc_Sealed := by kernel_rfl

/-! (*fugleman/octets.Pen).String: 47 -/
def b_octets_Pen_String : AC :=
 (.seq (.seq (.reg [⟨(some 2), none, .mv (.c (.v (.string ⟨#[]⟩)))⟩]) (.drop [1, 2]))
 (.seq (.seq (.seq (.reg [⟨(some 3), none, .mv (.t 0)⟩, ⟨(some 4), none, .eqp false (.t 3) (.c (.v (.pointer none)))⟩]) (.drop [1, 3]))
   (.cond (.t 4) (.seq (.seq (.reg [⟨(some 2), none, .mv (.c (.v (.string ⟨#[]⟩)))⟩]) (.drop []))
     .ret)
    .skip))
  (.seq (.seq (.reg [⟨(some 5), none, .mv (.t 0)⟩, ⟨(some 6), none, .nilck (.t 5)⟩, ⟨(some 7), none, .fad 0 (.t 6)⟩, ⟨(some 8), none, .load none (.t 7)⟩, ⟨(some 9), none, .cvbs (.t 8)⟩, ⟨(some 2), none, .mv (.t 9)⟩]) (.drop [3, 9]))
   .ret)))
def a_octets_Pen_String : AFn := ⟨1, b_octets_Pen_String, [.t 2], false, false⟩
theorem a_octets_Pen_String_ok : compF Tryd.prog Tryd.f47 [[1, 2], [1, 3], [], [3, 9]] false false hv = some a_octets_Pen_String := by kernel_rfl

/-! fugleman/retain.body: 34 -/
def b_retain_body : AC :=
 (.seq (.seq (.reg [⟨(some 1), none, .box (.t 0)⟩, ⟨(some 2), none, .mv (.c (.v (.string ⟨#[]⟩)))⟩]) (.drop [2, 2]))
 (.seq (.seq (.regx (.op .o ⟨(some 5), none, .fad 0 (.t 1)⟩
     (.op .o ⟨(some 8), none, .fad 1 (.t 1)⟩
      (.alt (.op .o ⟨(some 4), none, .call (.c (.fn 40 [])) []⟩
        (.op .o ⟨(some 6), none, .load none (.t 5)⟩
         (.alt (.op .o ⟨(some 7), none, .call (.c (.fn 41 [])) [(.t 4), (.t 6)]⟩
           (.op .o ⟨(some 9), none, .load none (.t 8)⟩
            (.op .o ⟨(some 10), none, .call (.c (.fn 42 [])) [(.t 7), (.t 9)]⟩
             (.op .o ⟨(some 3), none, .mv (.t 10)⟩
              .nil))))
          (.op .o ⟨(some 9), none, .load none (.t 8)⟩
           (.op .o ⟨(some 7), none, .call (.c (.fn 41 [])) [(.t 4), (.t 6)]⟩
            (.op .o ⟨(some 10), none, .call (.c (.fn 42 [])) [(.t 7), (.t 9)]⟩
             (.op .o ⟨(some 3), none, .mv (.t 10)⟩
              .nil)))))))
       (.alt (.op .o ⟨(some 6), none, .load none (.t 5)⟩
         (.alt (.op .o ⟨(some 4), none, .call (.c (.fn 40 [])) []⟩
           (.alt (.op .o ⟨(some 7), none, .call (.c (.fn 41 [])) [(.t 4), (.t 6)]⟩
             (.op .o ⟨(some 9), none, .load none (.t 8)⟩
              (.op .o ⟨(some 10), none, .call (.c (.fn 42 [])) [(.t 7), (.t 9)]⟩
               (.op .o ⟨(some 3), none, .mv (.t 10)⟩
                .nil))))
            (.op .o ⟨(some 9), none, .load none (.t 8)⟩
             (.op .o ⟨(some 7), none, .call (.c (.fn 41 [])) [(.t 4), (.t 6)]⟩
              (.op .o ⟨(some 10), none, .call (.c (.fn 42 [])) [(.t 7), (.t 9)]⟩
               (.op .o ⟨(some 3), none, .mv (.t 10)⟩
                .nil))))))
          (.op .o ⟨(some 9), none, .load none (.t 8)⟩
           (.op .o ⟨(some 4), none, .call (.c (.fn 40 [])) []⟩
            (.op .o ⟨(some 7), none, .call (.c (.fn 41 [])) [(.t 4), (.t 6)]⟩
             (.op .o ⟨(some 10), none, .call (.c (.fn 42 [])) [(.t 7), (.t 9)]⟩
              (.op .o ⟨(some 3), none, .mv (.t 10)⟩
               .nil)))))))
        (.op .o ⟨(some 9), none, .load none (.t 8)⟩
         (.alt (.op .o ⟨(some 4), none, .call (.c (.fn 40 [])) []⟩
           (.op .o ⟨(some 6), none, .load none (.t 5)⟩
            (.op .o ⟨(some 7), none, .call (.c (.fn 41 [])) [(.t 4), (.t 6)]⟩
             (.op .o ⟨(some 10), none, .call (.c (.fn 42 [])) [(.t 7), (.t 9)]⟩
              (.op .o ⟨(some 3), none, .mv (.t 10)⟩
               .nil)))))
          (.op .o ⟨(some 6), none, .load none (.t 5)⟩
           (.op .o ⟨(some 4), none, .call (.c (.fn 40 [])) []⟩
            (.op .o ⟨(some 7), none, .call (.c (.fn 41 [])) [(.t 4), (.t 6)]⟩
             (.op .o ⟨(some 10), none, .call (.c (.fn 42 [])) [(.t 7), (.t 9)]⟩
              (.op .o ⟨(some 3), none, .mv (.t 10)⟩
               .nil)))))))))))) (.drop [4, 10]))
  (.seq (.seq (.reg [⟨(some 11), none, .mv (.t 3)⟩, ⟨(some 12), none, .fad 2 (.t 1)⟩, ⟨(some 13), none, .load none (.t 12)⟩, ⟨(some 14), none, .call (.c (.fn 43 [])) [(.t 11), (.t 13)]⟩]) (.drop [4, 14]))
   (.seq (.seq (.reg [⟨(some 15), none, .mv (.t 3)⟩, ⟨(some 16), none, .fad 2 (.t 1)⟩, ⟨(some 17), none, .load none (.t 16)⟩, ⟨(some 18), none, .lens (.t 17)⟩, ⟨(some 19), none, .bin .sub (.c (.v (.int .i64 64))) (.t 18)⟩, ⟨(some 20), none, .call (.c (.fn 45 [])) [(.c (.v (.string ⟨#[0]⟩))), (.t 19)]⟩, ⟨(some 21), none, .call (.c (.fn 44 [])) [(.t 15), (.t 20)]⟩]) (.drop [4, 21]))
    (.seq (.seq (.reg [⟨(some 22), none, .mv (.t 3)⟩, ⟨(some 23), none, .call (.c (.fn 47 [])) [(.t 22)]⟩, ⟨(some 24), none, .call (.c (.fn 46 [])) [(.t 23)]⟩, ⟨(some 2), none, .mv (.t 24)⟩]) (.drop [3, 24]))
     .ret)))))
def a_retain_body : AFn := ⟨1, b_retain_body, [.t 2], false, false⟩
theorem a_retain_body_ok : compF Tryd.prog Tryd.f34 [[2, 2], [4, 10], [4, 14], [4, 21], [3, 24]] false false hv = some a_retain_body := by kernel_rfl

/-! (*fugleman/store.Store).Off: 17 -/
def c_store_Store_Off_0 : AC :=
 (.seq (.reg [⟨(some 4), none, .mv (.t 0)⟩, ⟨(some 5), none, .mv (.t 0)⟩, ⟨(some 6), none, .mv (.t 0)⟩, ⟨(some 7), none, .nilck (.t 4)⟩, ⟨(some 8), none, .fad 1 (.t 7)⟩, ⟨none, none, .store 1 (.t 8) (.c (.v (.bool true)))⟩, ⟨(some 9), none, .nilck (.t 5)⟩, ⟨(some 10), none, .fad 2 (.t 9)⟩, ⟨none, none, .store 1 (.t 10) (.c (.v (.bool false)))⟩, ⟨(some 11), none, .nilck (.t 6)⟩, ⟨(some 12), none, .fad 3 (.t 11)⟩, ⟨none, none, .store 1 (.t 12) (.c (.v (.int .i64 0)))⟩]) (.drop [0, 12]))
theorem g_store_Store_Off_0 {C : CT} {lf : Nat} {ks : List It} {s : St} : type_of% (@Sym.go_as C lf ks s _ _ c_store_Store_Off_0.eq_1) := Sym.go_as c_store_Store_Off_0.eq_1
def b_store_Store_Off : AC :=
 (.seq (.seq (.reg [⟨(some 2), none, .mv (.t 0)⟩, ⟨(some 3), none, .eqp true (.t 2) (.c (.v (.pointer none)))⟩]) (.drop [1, 2]))
 (.cond (.t 3) c_store_Store_Off_0
  .skip))
def a_store_Store_Off : AFn := ⟨1, b_store_Store_Off, [], false, true⟩
theorem a_store_Store_Off_ok : compF Tryd.prog Tryd.f17 [[1, 2], [0, 12]] false true hv = some a_store_Store_Off := by kernel_rfl

/-! (*fugleman/store.Store).Write: 35 -/
def c_store_Store_Write_0 : AC :=
 (.seq (.seq (.reg [⟨(some 19), none, .mv (.t 0)⟩, ⟨(some 20), none, .nilck (.t 19)⟩, ⟨(some 21), none, .fad 1 (.t 20)⟩, ⟨(some 22), none, .load none (.t 21)⟩, ⟨(some 18), none, .mv (.t 22)⟩]) (.drop [19, 22]))
        (.cond (.t 18) (.seq (.seq (.reg [⟨(some 6), none, .mv (.c (.v (.int .i64 12)))⟩]) (.drop []))
          .ret)
         .skip))
theorem g_store_Store_Write_0 {C : CT} {lf : Nat} {ks : List It} {s : St} : type_of% (@Sym.go_as C lf ks s _ _ c_store_Store_Write_0.eq_1) := Sym.go_as c_store_Store_Write_0.eq_1
def c_store_Store_Write_1 : AC :=
 (.seq (.seq (.reg [⟨(some 12), none, .mv (.t 0)⟩, ⟨(some 13), none, .mv (.t 1)⟩, ⟨(some 14), none, .mv (.t 2)⟩, ⟨(some 15), none, .lens (.t 14)⟩, ⟨(some 16), none, .call (.c (.fn 37 [])) [(.t 12), (.t 13), (.t 15)]⟩, ⟨(some 17), none, .un .not (.t 16)⟩, ⟨(some 11), none, .mv (.t 17)⟩]) (.drop [12, 17]))
      (.cond (.t 11) (.seq (.seq (.reg [⟨(some 6), none, .mv (.c (.v (.int .i64 1)))⟩]) (.drop []))
        .ret)
       c_store_Store_Write_0))
theorem g_store_Store_Write_1 {C : CT} {lf : Nat} {ks : List It} {s : St} : type_of% (@Sym.go_as C lf ks s _ _ c_store_Store_Write_1.eq_1) := Sym.go_as c_store_Store_Write_1.eq_1
def c_store_Store_Write_2 : AC :=
 (.seq (.seq (.reg [⟨(some 29), none, .mv (.t 7)⟩, ⟨(some 30), none, .mv (.t 0)⟩, ⟨(some 31), none, .nilck (.t 30)⟩, ⟨(some 32), none, .fad 3 (.t 31)⟩, ⟨(some 33), none, .load none (.t 32)⟩, ⟨(some 34), none, .min [(.t 29), (.t 33)]⟩, ⟨(some 7), none, .mv (.t 34)⟩]) (.drop [8, 34]))
       (.seq (.reg [⟨(some 35), none, .mv (.t 0)⟩, ⟨(some 36), none, .nilck (.t 35)⟩, ⟨(some 37), none, .fad 3 (.t 36)⟩, ⟨(some 38), none, .load none (.t 37)⟩, ⟨(some 39), none, .mv (.t 7)⟩, ⟨(some 40), none, .bin .sub (.t 38) (.t 39)⟩, ⟨(some 41), none, .nilck (.t 35)⟩, ⟨(some 42), none, .fad 3 (.t 41)⟩, ⟨none, none, .store 1 (.t 42) (.t 40)⟩]) (.drop [8, 42])))
theorem g_store_Store_Write_2 {C : CT} {lf : Nat} {ks : List It} {s : St} : type_of% (@Sym.go_as C lf ks s _ _ c_store_Store_Write_2.eq_1) := Sym.go_as c_store_Store_Write_2.eq_1
def b_store_Store_Write : AC :=
 (.seq (.seq (.reg [⟨(some 6), none, .mv (.c (.v (.int .i64 0)))⟩]) (.drop [3, 6]))
 (.seq (.block 0 (.seq (.seq (.reg [⟨(some 9), none, .mv (.t 0)⟩, ⟨(some 10), none, .eqp false (.t 9) (.c (.v (.pointer none)))⟩, ⟨(some 8), none, .mv (.t 10)⟩]) (.drop [9, 10]))
    (.cond (.t 8) (.seq (.seq (.reg [⟨(some 6), none, .mv (.c (.v (.int .i64 12)))⟩]) (.drop []))
      .ret)
     c_store_Store_Write_1)))
  (.seq (.seq (.reg [⟨(some 23), none, .mv (.t 2)⟩, ⟨(some 24), none, .lens (.t 23)⟩, ⟨(some 7), none, .mv (.t 24)⟩]) (.drop [8, 24]))
   (.seq (.seq (.seq (.reg [⟨(some 25), none, .mv (.t 0)⟩, ⟨(some 26), none, .nilck (.t 25)⟩, ⟨(some 27), none, .fad 2 (.t 26)⟩, ⟨(some 28), none, .load none (.t 27)⟩]) (.drop [8, 27]))
     (.cond (.t 28) c_store_Store_Write_2
      .skip))
    (.seq (.seq (.regm [(.o, ⟨(some 43), none, .mv (.t 0)⟩), (.o, ⟨(some 44), none, .nilck (.t 43)⟩), (.o, ⟨(some 45), none, .fad 0 (.t 44)⟩), (.o, ⟨(some 46), none, .load none (.t 45)⟩), (.o, ⟨(some 47), none, .mv (.t 1)⟩), (.o, ⟨(some 48), none, .sls 1 (.t 46) (some (.t 47)) none none⟩), (.o, ⟨(some 49), none, .mv (.t 2)⟩), (.o, ⟨(some 50), none, .mv (.t 7)⟩), (.o, ⟨(some 51), none, .slstr (.t 49) none (some (.t 50))⟩), (.o, ⟨(some 52), none, .cpy 1 (.t 48) (.t 51)⟩)]) (.drop [8, 52]))
     (.seq (.seq (.reg [⟨(some 53), none, .mv (.t 0)⟩, ⟨(some 54), none, .nilck (.t 53)⟩, ⟨(some 55), none, .fad 4 (.t 54)⟩, ⟨(some 56), none, .load none (.t 55)⟩, ⟨(some 57), none, .mv (.t 7)⟩, ⟨(some 58), none, .bin .add (.t 56) (.t 57)⟩, ⟨(some 59), none, .nilck (.t 53)⟩, ⟨(some 60), none, .fad 4 (.t 59)⟩, ⟨none, none, .store 1 (.t 60) (.t 58)⟩]) (.drop [8, 60]))
      (.seq (.seq (.seq (.reg [⟨(some 61), none, .mv (.t 7)⟩, ⟨(some 62), none, .mv (.t 2)⟩, ⟨(some 63), none, .lens (.t 62)⟩, ⟨(some 64), none, .bin .lss (.t 61) (.t 63)⟩]) (.drop [1, 63]))
        (.cond (.t 64) (.seq (.seq (.reg [⟨(some 65), none, .mv (.t 0)⟩, ⟨(some 66), none, .call (.c (.fn 17 [])) [(.t 65)]⟩]) (.drop [0, 66]))
          (.seq (.seq (.reg [⟨(some 6), none, .mv (.c (.v (.int .i64 12)))⟩]) (.drop []))
           .ret))
         .skip))
       (.seq (.seq (.reg [⟨(some 6), none, .mv (.c (.v (.int .i64 0)))⟩]) (.drop []))
        .ret))))))))
def a_store_Store_Write : AFn := ⟨3, b_store_Store_Write, [.t 6], false, true⟩
theorem a_store_Store_Write_ok : compF Tryd.prog Tryd.f35 [[3, 6], [9, 10], [], [12, 17], [], [19, 22], [], [8, 24], [8, 27], [8, 34], [8, 42], [8, 52], [8, 60], [1, 63], [0, 66], [], []] false true hv = some a_store_Store_Write := by kernel_rfl

/-! fugleman/retain.commit: 24 -/
def l_retain_commit_1 : AC :=
 (.seq (.seq (.reg [⟨(some 59), none, .load (some 3) (.t 3)⟩, ⟨none, none, .store 3 (.t 4) (.t 59)⟩, ⟨(some 5), none, .mv (.c (.v (.int .i64 0)))⟩]) (.drop [6, 59]))
 .ret)
def l_retain_commit_0 : AC :=
 (.seq (.seq (.reg [⟨(some 42), none, .bin .lss (.t 41) (.t 40)⟩]) (.drop []))
 (.seq (.cond (.t 42) .skip
   (.exit 0))
  (.seq (.block 1 (.seq (.seq (.reg [⟨(some 43), none, .ixs 2 (.t 39) (.t 41)⟩, ⟨(some 44), none, .load (some 2) (.t 43)⟩, ⟨(some 10), none, .alloc [(.v (.int .i64 0)), (.v (.string ⟨#[]⟩))]⟩, ⟨none, none, .store 2 (.t 10) (.t 44)⟩]) (.drop [42, 44]))
     (.seq (.seq (.reg [⟨(some 45), none, .mv (.t 0)⟩, ⟨(some 46), none, .mv (.t 6)⟩, ⟨(some 47), none, .bin .mul (.t 46) (.c (.v (.int .i64 74)))⟩, ⟨(some 48), none, .fad 0 (.t 10)⟩, ⟨(some 49), none, .load none (.t 48)⟩, ⟨(some 50), none, .bin .add (.t 47) (.t 49)⟩, ⟨(some 51), none, .fad 1 (.t 10)⟩, ⟨(some 52), none, .load none (.t 51)⟩, ⟨(some 53), none, .call (.c (.fn 35 [])) [(.t 45), (.t 50), (.t 52)]⟩, ⟨(some 11), none, .mv (.t 53)⟩]) (.drop [42, 53]))
      (.seq (.seq (.reg [⟨(some 54), none, .mv (.t 11)⟩, ⟨(some 55), none, .bin .neq (.t 54) (.c (.v (.int .i64 0)))⟩]) (.drop [42, 54]))
       (.cond (.t 55) (.seq (.seq (.reg [⟨(some 56), none, .build [(.v (.int .u32 0)), (.v (.int .u16 0)), (.v (.string ⟨#[]⟩))] []⟩, ⟨(some 57), none, .mv (.t 11)⟩, ⟨none, none, .store 3 (.t 4) (.t 56)⟩, ⟨(some 5), none, .mv (.t 57)⟩]) (.drop [6, 57]))
         .ret)
        .skip)))))
   (.seq (.reg [⟨(some 58), none, .bin .add (.t 41) (.c (.v (.int .i64 1)))⟩, ⟨(some 41), none, .mv (.t 58)⟩]) (.drop [42, 58])))))
def b_retain_commit : AC :=
 (.seq (.seq (.reg [⟨(some 3), none, .box (.t 1)⟩, ⟨(some 4), none, .alloc [(.v (.int .u32 0)), (.v (.int .u16 0)), (.v (.string ⟨#[]⟩))]⟩, ⟨(some 5), none, .mv (.c (.v (.int .i64 0)))⟩]) (.drop [5, 5]))
 (.seq (.seq (.reg [⟨(some 13), none, .mv (.t 0)⟩, ⟨(some 14), none, .call (.c (.fn 25 [])) [(.t 13)]⟩, ⟨(some 12), none, .mv (.t 14)⟩, ⟨(some 15), none, .ext 0 (.t 12)⟩, ⟨(some 16), none, .ext 1 (.t 12)⟩, ⟨(some 17), none, .ext 2 (.t 12)⟩, ⟨(some 7), none, .alloc [(.v (.int .u32 0)), (.v (.int .u16 0)), (.v (.string ⟨#[]⟩))]⟩, ⟨(some 6), none, .mv (.t 15)⟩, ⟨none, none, .store 3 (.t 7) (.t 16)⟩, ⟨(some 8), none, .mv (.t 17)⟩]) (.drop [9, 17]))
  (.seq (.seq (.seq (.reg [⟨(some 18), none, .fad 0 (.t 7)⟩, ⟨(some 19), none, .load none (.t 18)⟩, ⟨(some 20), none, .bin .eql (.t 19) (.c (.v (.int .u32 4294967295)))⟩]) (.drop [9, 19]))
    (.cond (.t 20) (.seq (.seq (.reg [⟨(some 21), none, .build [(.v (.int .u32 0)), (.v (.int .u16 0)), (.v (.string ⟨#[]⟩))] []⟩, ⟨none, none, .store 3 (.t 4) (.t 21)⟩, ⟨(some 5), none, .mv (.c (.v (.int .i64 13)))⟩]) (.drop [6, 21]))
      .ret)
     .skip))
   (.seq (.seq (.seq (.reg [⟨(some 22), none, .mv (.t 0)⟩, ⟨(some 23), none, .call (.c (.fn 27 [])) [(.t 22)]⟩, ⟨(some 24), none, .call (.c (.fn 15 [])) []⟩, ⟨(some 25), none, .bin .lss (.t 23) (.t 24)⟩]) (.drop [9, 24]))
     (.cond (.t 25) (.seq (.seq (.reg [⟨(some 26), none, .build [(.v (.int .u32 0)), (.v (.int .u16 0)), (.v (.string ⟨#[]⟩))] []⟩, ⟨none, none, .store 3 (.t 4) (.t 26)⟩, ⟨(some 5), none, .mv (.c (.v (.int .i64 1)))⟩]) (.drop [6, 26]))
       .ret)
      .skip))
    (.seq (.seq (.reg [⟨(some 27), none, .fad 0 (.t 7)⟩, ⟨(some 28), none, .load none (.t 27)⟩, ⟨(some 29), none, .bin .add (.t 28) (.c (.v (.int .u32 1)))⟩, ⟨(some 30), none, .fad 0 (.t 3)⟩, ⟨none, none, .store 1 (.t 30) (.t 29)⟩]) (.drop [9, 30]))
     (.seq (.seq (.seq (.reg [⟨(some 31), none, .mv (.t 8)⟩]) (.drop []))
       (.cond (.t 31) (.seq (.reg [⟨(some 32), none, .mv (.t 6)⟩, ⟨(some 33), none, .bin .sub (.c (.v (.int .i64 1))) (.t 32)⟩, ⟨(some 6), none, .mv (.t 33)⟩]) (.drop [7, 33]))
        .skip))
      (.seq (.seq (.seq (.reg [⟨(some 34), none, .build [(.v (.int .i64 0)), (.v (.string ⟨#[]⟩))] [(0, 1, (.c (.v (.int .i64 0)))), (1, 1, (.c (.v (.string ⟨#[0]⟩))))]⟩, ⟨(some 35), none, .load (some 3) (.t 3)⟩, ⟨(some 36), none, .call (.c (.fn 34 [])) [(.t 35)]⟩, ⟨(some 37), none, .build [(.v (.int .i64 0)), (.v (.string ⟨#[]⟩))] [(0, 1, (.c (.v (.int .i64 1)))), (1, 1, (.t 36))]⟩, ⟨(some 38), none, .build [(.v (.int .i64 0)), (.v (.string ⟨#[]⟩))] [(0, 1, (.c (.v (.int .i64 0)))), (1, 1, (.c (.v (.string ⟨#[165]⟩))))]⟩, ⟨(some 39), none, .row 2 3 [(.v (.int .i64 0)), (.v (.string ⟨#[]⟩))] [(0, 2, (.t 34)), (2, 2, (.t 37)), (4, 2, (.t 38))]⟩, ⟨(some 40), none, .len (.t 39)⟩, ⟨(some 41), none, .mv (.c (.v (.int .i64 0)))⟩]) (.drop [7, 38]))
        (.block 0 (.loop [0, 3, 4, 6, 39, 40, 41] l_retain_commit_0)))
       l_retain_commit_1)))))))
def a_retain_commit : AFn := ⟨2, b_retain_commit, [.cell 4 (some 3), .t 5], false, true⟩
theorem a_retain_commit_ok : compF Tryd.prog Tryd.f24 [[5, 5], [9, 17], [9, 19], [6, 21], [9, 24], [6, 26], [9, 30], [], [7, 33], [7, 38], [0, 3, 4, 6, 39, 40, 41], [], [42, 44], [42, 53], [42, 54], [6, 57], [42, 58], [6, 59]] false true hv = some a_retain_commit := by kernel_rfl

/-! fugleman/retain.Commit: 10 -/
def b_retain_Commit : AC :=
 (.seq (.seq (.reg [⟨(some 6), none, .mv (.c (.v (.int .i64 0)))⟩]) (.drop [3, 6]))
 (.seq (.seq (.seq (.reg [⟨(some 9), none, .mv (.t 2)⟩, ⟨(some 10), none, .lens (.t 9)⟩, ⟨(some 11), none, .bin .gtr (.t 10) (.c (.v (.int .i64 64)))⟩]) (.drop [3, 10]))
   (.cond (.t 11) (.seq (.seq (.reg [⟨(some 6), none, .mv (.c (.v (.int .i64 2)))⟩]) (.drop []))
     .ret)
    .skip))
  (.seq (.seq (.reg [⟨(some 13), none, .mv (.t 0)⟩, ⟨(some 14), none, .mv (.t 1)⟩, ⟨(some 15), none, .mv (.t 2)⟩, ⟨(some 16), none, .build [(.v (.int .u32 0)), (.v (.int .u16 0)), (.v (.string ⟨#[]⟩))] [(1, 1, (.t 14)), (2, 1, (.t 15))]⟩, ⟨(some 17), none, .call (.c (.fn 24 [])) [(.t 13), (.t 16)]⟩, ⟨(some 12), none, .mv (.t 17)⟩, ⟨(some 18), none, .ext 0 (.t 12)⟩, ⟨(some 19), none, .ext 1 (.t 12)⟩, ⟨(some 7), none, .alloc [(.v (.int .u32 0)), (.v (.int .u16 0)), (.v (.string ⟨#[]⟩))]⟩, ⟨none, none, .store 3 (.t 7) (.t 18)⟩, ⟨(some 8), none, .mv (.t 19)⟩]) (.drop [0, 7, 9, 19]))
   (.seq (.seq (.reg [⟨(some 20), none, .mv (.t 8)⟩, ⟨(some 6), none, .mv (.t 20)⟩]) (.drop [7, 20]))
    .ret))))
def a_retain_Commit : AFn := ⟨3, b_retain_Commit, [.t 6], false, true⟩
theorem a_retain_Commit_ok : compF Tryd.prog Tryd.f10 [[3, 6], [3, 10], [], [0, 7, 9, 19], [7, 20]] false true hv = some a_retain_Commit := by kernel_rfl

end Go.Proofs.YthdiljjbcaleoaaDoor.Tab

namespace Go.Proofs.YthdiljjbcaleoaaDoor.Tab
open Go Go.Proofs.YthdiljjbcaleoaaDoor.Sym
set_option linter.unusedVariables false

/-! fugleman/retain.Boot: 11 -/
def b_retain_Boot : AC :=
 (.seq (.seq (.reg [⟨(some 2), none, .alloc [(.v (.int .u32 0)), (.v (.int .u16 0)), (.v (.string ⟨#[]⟩))]⟩, ⟨(some 3), none, .mv (.c (.v (.int .i64 0)))⟩]) (.drop [3, 3]))
 (.seq (.seq (.reg [⟨(some 8), none, .mv (.t 0)⟩, ⟨(some 9), none, .call (.c (.fn 25 [])) [(.t 8)]⟩, ⟨(some 7), none, .mv (.t 9)⟩, ⟨(some 10), none, .ext 0 (.t 7)⟩, ⟨(some 11), none, .ext 1 (.t 7)⟩, ⟨(some 12), none, .ext 2 (.t 7)⟩, ⟨(some 5), none, .alloc [(.v (.int .u32 0)), (.v (.int .u16 0)), (.v (.string ⟨#[]⟩))]⟩, ⟨(some 4), none, .mv (.t 10)⟩, ⟨none, none, .store 3 (.t 5) (.t 11)⟩, ⟨(some 6), none, .mv (.t 12)⟩]) (.drop [3, 4, 6, 12]))
  (.seq (.seq (.seq (.reg [⟨(some 13), none, .fad 1 (.t 5)⟩, ⟨(some 14), none, .load none (.t 13)⟩, ⟨(some 15), none, .bin .eql (.t 14) (.c (.v (.int .u16 65535)))⟩]) (.drop [6, 14]))
    (.cond (.t 15) (.seq (.seq (.reg [⟨(some 16), none, .build [(.v (.int .u32 0)), (.v (.int .u16 0)), (.v (.string ⟨#[]⟩))] []⟩, ⟨none, none, .store 3 (.t 2) (.t 16)⟩, ⟨(some 3), none, .mv (.c (.v (.int .i64 13)))⟩]) (.drop [4, 16]))
      .ret)
     .skip))
   (.seq (.seq (.reg [⟨(some 17), none, .fad 1 (.t 5)⟩, ⟨(some 18), none, .load none (.t 17)⟩, ⟨(some 19), none, .bin .add (.t 18) (.c (.v (.int .u16 1)))⟩, ⟨(some 20), none, .fad 1 (.t 5)⟩, ⟨none, none, .store 1 (.t 20) (.t 19)⟩]) (.drop [6, 20]))
    (.seq (.seq (.reg [⟨(some 21), none, .mv (.t 0)⟩, ⟨(some 22), none, .load (some 3) (.t 5)⟩, ⟨(some 23), none, .call (.c (.fn 24 [])) [(.t 21), (.t 22)]⟩, ⟨(some 24), none, .ext 0 (.t 23)⟩, ⟨(some 25), none, .ext 1 (.t 23)⟩, ⟨none, none, .store 3 (.t 2) (.t 24)⟩, ⟨(some 3), none, .mv (.t 25)⟩]) (.drop [4, 25]))
     .ret)))))
def a_retain_Boot : AFn := ⟨1, b_retain_Boot, [.cell 2 (some 3), .t 3], false, true⟩
theorem a_retain_Boot_ok : compF Tryd.prog Tryd.f11 [[3, 3], [3, 4, 6, 12], [6, 14], [4, 16], [6, 20], [4, 25]] false true hv = some a_retain_Boot := by kernel_rfl

/-! fugleman/retain.Load: 12 -/
def b_retain_Load : AC :=
 (.seq (.seq (.reg [⟨(some 2), none, .alloc [(.v (.int .u32 0)), (.v (.int .u16 0)), (.v (.string ⟨#[]⟩))]⟩, ⟨(some 3), none, .mv (.c (.v (.bool false)))⟩]) (.drop [3, 3]))
 (.seq (.seq (.reg [⟨(some 8), none, .mv (.t 0)⟩, ⟨(some 9), none, .call (.c (.fn 25 [])) [(.t 8)]⟩, ⟨(some 7), none, .mv (.t 9)⟩, ⟨(some 10), none, .ext 0 (.t 7)⟩, ⟨(some 11), none, .ext 1 (.t 7)⟩, ⟨(some 12), none, .ext 2 (.t 7)⟩, ⟨(some 5), none, .alloc [(.v (.int .u32 0)), (.v (.int .u16 0)), (.v (.string ⟨#[]⟩))]⟩, ⟨(some 4), none, .mv (.t 10)⟩, ⟨none, none, .store 3 (.t 5) (.t 11)⟩, ⟨(some 6), none, .mv (.t 12)⟩]) (.drop [3, 4, 7, 12]))
  (.seq (.seq (.reg [⟨(some 13), none, .load (some 3) (.t 5)⟩, ⟨(some 14), none, .mv (.t 6)⟩, ⟨none, none, .store 3 (.t 2) (.t 13)⟩, ⟨(some 3), none, .mv (.t 14)⟩]) (.drop [4, 14]))
   .ret)))
def a_retain_Load : AFn := ⟨1, b_retain_Load, [.cell 2 (some 3), .t 3], false, false⟩
theorem a_retain_Load_ok : compF Tryd.prog Tryd.f12 [[3, 3], [3, 4, 7, 12], [4, 14]] false false hv = some a_retain_Load := by kernel_rfl

/-! fugleman/store.New: 14 -/
def b_store_New : AC :=
 (.seq (.seq (.reg [⟨(some 2), none, .mv (.c (.v (.pointer none)))⟩]) (.drop [1, 2]))
 (.seq (.seq (.reg [⟨(some 3), none, .mv (.t 0)⟩, ⟨(some 4), none, .max [(.t 3), (.c (.v (.int .i64 0)))]⟩, ⟨(some 5), none, .min [(.t 4), (.c (.v (.int .i64 1000)))]⟩, ⟨(some 6), none, .mks 1 1 [(.v (.int .u8 0))] (.t 5) (.t 5)⟩, ⟨(some 7), none, .build [(.v (.slice none 0 0)), (.v (.bool false)), (.v (.bool false)), (.v (.int .i64 0)), (.v (.int .i64 0))] [(0, 1, (.t 6))]⟩, ⟨(some 8), none, .box (.t 7)⟩, ⟨(some 2), none, .mv (.t 8)⟩]) (.drop [3, 8]))
  .ret))
def a_store_New : AFn := ⟨1, b_store_New, [.t 2], false, false⟩
theorem a_store_New_ok : compF Tryd.prog Tryd.f14 [[1, 2], [3, 8]] false false hv = some a_store_New := by kernel_rfl

/-! fugleman/retain.Cost: 18 -/
def b_retain_Cost : AC :=
 (.seq (.seq (.reg [⟨(some 0), none, .mv (.c (.v (.int .i64 0)))⟩]) (.drop [0, 0]))
 (.seq (.seq (.reg [⟨(some 0), none, .mv (.c (.v (.int .i64 75)))⟩]) (.drop []))
  .ret))
def a_retain_Cost : AFn := ⟨0, b_retain_Cost, [.t 0], false, false⟩
theorem a_retain_Cost_ok : compF Tryd.prog Tryd.f18 [[0, 0], []] false false hv = some a_retain_Cost := by kernel_rfl

/-! fugleman/fuglemanlaw07.awake: 7 -/
def b_fuglemanlaw07_awake : AC :=
 (.seq (.seq (.reg [⟨(some 0), none, .mv (.c (.v (.bool false)))⟩]) (.drop [0, 0]))
 (.seq (.seq (.reg [⟨(some 9), none, .call (.c (.fn 15 [])) []⟩, ⟨(some 10), none, .call (.c (.fn 14 [])) [(.t 9)]⟩, ⟨(some 1), none, .mv (.t 10)⟩]) (.drop [2, 10]))
  (.seq (.seq (.reg [⟨(some 12), none, .mv (.t 1)⟩, ⟨(some 13), none, .call (.c (.fn 11 [])) [(.t 12)]⟩, ⟨(some 11), none, .mv (.t 13)⟩, ⟨(some 14), none, .ext 0 (.t 11)⟩, ⟨(some 15), none, .ext 1 (.t 11)⟩, ⟨(some 2), none, .alloc [(.v (.int .u32 0)), (.v (.int .u16 0)), (.v (.string ⟨#[]⟩))]⟩, ⟨none, none, .store 3 (.t 2) (.t 14)⟩, ⟨(some 3), none, .mv (.t 15)⟩]) (.drop [4, 15]))
   (.seq (.seq (.reg [⟨(some 16), none, .mv (.t 1)⟩, ⟨(some 17), none, .fad 1 (.t 2)⟩, ⟨(some 18), none, .load none (.t 17)⟩, ⟨(some 19), none, .call (.c (.fn 10 [])) [(.t 16), (.t 18), (.c (.v (.string ⟨#[120, 121]⟩)))]⟩, ⟨(some 4), none, .mv (.t 19)⟩]) (.drop [5, 19]))
    (.seq (.seq (.reg [⟨(some 21), none, .mv (.t 1)⟩, ⟨(some 22), none, .call (.c (.fn 11 [])) [(.t 21)]⟩, ⟨(some 20), none, .mv (.t 22)⟩, ⟨(some 23), none, .ext 0 (.t 20)⟩, ⟨(some 24), none, .ext 1 (.t 20)⟩, ⟨(some 5), none, .alloc [(.v (.int .u32 0)), (.v (.int .u16 0)), (.v (.string ⟨#[]⟩))]⟩, ⟨none, none, .store 3 (.t 5) (.t 23)⟩, ⟨(some 6), none, .mv (.t 24)⟩]) (.drop [7, 24]))
     (.seq (.seq (.reg [⟨(some 26), none, .mv (.t 1)⟩, ⟨(some 27), none, .call (.c (.fn 12 [])) [(.t 26)]⟩, ⟨(some 25), none, .mv (.t 27)⟩, ⟨(some 28), none, .ext 0 (.t 25)⟩, ⟨(some 29), none, .ext 1 (.t 25)⟩, ⟨(some 7), none, .alloc [(.v (.int .u32 0)), (.v (.int .u16 0)), (.v (.string ⟨#[]⟩))]⟩, ⟨none, none, .store 3 (.t 7) (.t 28)⟩, ⟨(some 8), none, .mv (.t 29)⟩]) (.drop [9, 29]))
      (.seq (.seq (.reg [⟨(some 30), none, .mv (.t 3)⟩, ⟨(some 31), none, .bin .eql (.t 30) (.c (.v (.int .i64 0)))⟩, ⟨(some 32), none, .mv (.t 31)⟩, ⟨(some 33), (some (32, true)), .mv (.t 4)⟩, ⟨(some 34), (some (32, true)), .bin .eql (.t 33) (.c (.v (.int .i64 0)))⟩, ⟨(some 35), none, .pick (.t 32) (.t 34) (.c (.v (.bool false)))⟩, ⟨(some 36), none, .mv (.t 35)⟩, ⟨(some 37), (some (36, true)), .mv (.t 6)⟩, ⟨(some 38), (some (36, true)), .bin .eql (.t 37) (.c (.v (.int .i64 0)))⟩, ⟨(some 39), none, .pick (.t 36) (.t 38) (.c (.v (.bool false)))⟩, ⟨(some 40), none, .mv (.t 39)⟩, ⟨(some 41), (some (40, true)), .mv (.t 8)⟩, ⟨(some 42), none, .pick (.t 40) (.t 41) (.c (.v (.bool false)))⟩, ⟨(some 43), none, .mv (.t 42)⟩, ⟨(some 44), (some (43, true)), .fad 1 (.t 5)⟩, ⟨(some 45), (some (43, true)), .load none (.t 44)⟩, ⟨(some 46), (some (43, true)), .bin .eql (.t 45) (.c (.v (.int .u16 2)))⟩, ⟨(some 47), none, .pick (.t 43) (.t 46) (.c (.v (.bool false)))⟩, ⟨(some 48), none, .mv (.t 47)⟩, ⟨(some 49), (some (48, true)), .fad 2 (.t 5)⟩, ⟨(some 50), (some (48, true)), .load none (.t 49)⟩, ⟨(some 51), (some (48, true)), .bin .eql (.t 50) (.c (.v (.string ⟨#[120, 121]⟩)))⟩, ⟨(some 52), none, .pick (.t 48) (.t 51) (.c (.v (.bool false)))⟩, ⟨(some 53), none, .mv (.t 52)⟩, ⟨(some 54), (some (53, true)), .load (some 3) (.t 7)⟩, ⟨(some 55), (some (53, true)), .load (some 3) (.t 5)⟩, ⟨(some 56), (some (53, true)), .eqst false [(0, .i), (1, .i), (2, .s)] (.t 54) (.t 55)⟩, ⟨(some 57), none, .pick (.t 53) (.t 56) (.c (.v (.bool false)))⟩, ⟨(some 58), none, .mv (.t 57)⟩, ⟨(some 59), (some (58, true)), .fad 0 (.t 7)⟩, ⟨(some 60), (some (58, true)), .load none (.t 59)⟩, ⟨(some 61), (some (58, true)), .bin .eql (.t 60) (.c (.v (.int .u32 3)))⟩, ⟨(some 62), none, .pick (.t 58) (.t 61) (.c (.v (.bool false)))⟩, ⟨(some 63), none, .mv (.t 62)⟩, ⟨(some 64), (some (63, true)), .call (.c (.fn 18 [])) []⟩, ⟨(some 65), (some (63, true)), .bin .eql (.t 64) (.c (.v (.int .i64 75)))⟩, ⟨(some 66), none, .pick (.t 63) (.t 65) (.c (.v (.bool false)))⟩, ⟨(some 0), none, .mv (.t 66)⟩]) (.drop [1, 66]))
       .ret)))))))
def a_fuglemanlaw07_awake : AFn := ⟨0, b_fuglemanlaw07_awake, [.t 0], false, false⟩
theorem a_fuglemanlaw07_awake_ok : compF Tryd.prog Tryd.f7 [[0, 0], [2, 10], [4, 15], [5, 19], [7, 24], [9, 29], [1, 66]] false false hv = some a_fuglemanlaw07_awake := by kernel_rfl

/-! fugleman/fuglemanref02.Bytes: 22 -/
def l_fuglemanref02_Bytes_1 : AC :=
 (.seq (.seq (.reg [⟨(some 21), none, .mv (.t 5)⟩, ⟨(some 4), none, .mv (.t 21)⟩]) (.drop [5, 21]))
 .ret)
def l_fuglemanref02_Bytes_0 : AC :=
 (.seq (.seq (.seq (.reg [⟨(some 7), none, .mv (.t 6)⟩, ⟨(some 8), none, .mv (.t 1)⟩, ⟨(some 9), none, .bin .lss (.t 7) (.t 8)⟩]) (.drop [7, 8]))
  (.cond (.t 9) .skip
   (.exit 0)))
 (.seq (.block 1 (.seq (.seq (.reg [⟨(some 12), none, .mv (.t 0)⟩, ⟨(some 13), none, .bin .rem (.t 12) (.c (.v (.int .u32 256)))⟩, ⟨(some 14), none, .cvi .u8 (.t 13)⟩, ⟨(some 15), none, .row 1 1 [(.v (.int .u8 0))] [(0, 1, (.t 14))]⟩, ⟨(some 16), none, .cvbs (.t 15)⟩, ⟨(some 17), none, .mv (.t 5)⟩, ⟨(some 18), none, .bin .add (.t 16) (.t 17)⟩, ⟨(some 5), none, .mv (.t 18)⟩]) (.drop [7, 18]))
    (.seq (.reg [⟨(some 19), none, .mv (.t 0)⟩, ⟨(some 20), none, .bin .quo (.t 19) (.c (.v (.int .u32 256)))⟩, ⟨(some 0), none, .mv (.t 20)⟩]) (.drop [7, 20]))))
  (.seq (.reg [⟨(some 10), none, .mv (.t 6)⟩, ⟨(some 11), none, .bin .add (.t 10) (.c (.v (.int .i64 1)))⟩, ⟨(some 6), none, .mv (.t 11)⟩]) (.drop [7, 11]))))
def b_fuglemanref02_Bytes : AC :=
 (.seq (.seq (.reg [⟨(some 4), none, .mv (.c (.v (.string ⟨#[]⟩)))⟩]) (.drop [2, 4]))
 (.seq (.seq (.reg [⟨(some 5), none, .mv (.c (.v (.string ⟨#[]⟩)))⟩]) (.drop []))
  (.seq (.seq (.seq (.reg [⟨(some 6), none, .mv (.c (.v (.int .i64 0)))⟩]) (.drop []))
    (.block 0 (.loop [0, 1, 5, 6] l_fuglemanref02_Bytes_0)))
   l_fuglemanref02_Bytes_1)))
def a_fuglemanref02_Bytes : AFn := ⟨2, b_fuglemanref02_Bytes, [.t 4], false, false⟩
theorem a_fuglemanref02_Bytes_ok : compF Tryd.prog Tryd.f22 [[2, 4], [], [], [0, 1, 5, 6], [7, 8], [7, 18], [7, 20], [7, 11], [5, 21]] false false hv = some a_fuglemanref02_Bytes := by kernel_rfl

/-! fugleman/fuglemanref01.More: 39 -/
def l_fuglemanref01_More_3 : AC :=
 (.seq (.seq (.reg [⟨(some 34), none, .mv (.t 5)⟩, ⟨(some 35), none, .cvi .u16 (.t 34)⟩, ⟨(some 4), none, .mv (.t 35)⟩]) (.drop [5, 35]))
 .ret)
def l_fuglemanref01_More_2 : AC :=
 (.seq (.reg [⟨(some 14), none, .mv (.t 6)⟩, ⟨(some 15), none, .bin .add (.t 14) (.c (.v (.int .i64 1)))⟩, ⟨(some 6), none, .mv (.t 15)⟩]) (.drop [7, 15]))
def l_fuglemanref01_More_1 : AC :=
 (.seq (.seq (.seq (.reg [⟨(some 23), none, .mv (.t 7)⟩, ⟨(some 24), none, .bin .lss (.t 23) (.c (.v (.int .i64 8)))⟩]) (.drop [8, 23]))
  (.cond (.t 24) .skip
   (.exit 2)))
 (.seq (.block 3 (.seq (.seq (.reg [⟨(some 27), none, .mv (.t 5)⟩, ⟨(some 28), none, .bin .mul (.c (.v (.int .i64 2))) (.t 27)⟩, ⟨(some 5), none, .mv (.t 28)⟩]) (.drop [8, 28]))
    (.seq (.seq (.reg [⟨(some 29), none, .mv (.t 5)⟩, ⟨(some 30), none, .bin .geq (.t 29) (.c (.v (.int .i64 65536)))⟩]) (.drop [8, 29]))
     (.cond (.t 30) (.seq (.reg [⟨(some 31), none, .mv (.t 5)⟩, ⟨(some 32), none, .bin .sub (.t 31) (.c (.v (.int .i64 65536)))⟩, ⟨(some 33), none, .bin .xor (.t 32) (.c (.v (.int .i64 4129)))⟩, ⟨(some 5), none, .mv (.t 33)⟩]) (.drop [8, 33]))
      .skip))))
  (.seq (.reg [⟨(some 25), none, .mv (.t 7)⟩, ⟨(some 26), none, .bin .add (.t 25) (.c (.v (.int .i64 1)))⟩, ⟨(some 7), none, .mv (.t 26)⟩]) (.drop [8, 26]))))
def l_fuglemanref01_More_0 : AC :=
 (.seq (.seq (.seq (.reg [⟨(some 10), none, .mv (.t 6)⟩, ⟨(some 11), none, .mv (.t 1)⟩, ⟨(some 12), none, .lens (.t 11)⟩, ⟨(some 13), none, .bin .lss (.t 10) (.t 12)⟩]) (.drop [7, 12]))
  (.cond (.t 13) .skip
   (.exit 0)))
 (.seq (.block 1 (.seq (.seq (.reg [⟨(some 16), none, .mv (.t 5)⟩, ⟨(some 17), none, .mv (.t 1)⟩, ⟨(some 18), none, .mv (.t 6)⟩, ⟨(some 19), none, .ixstr (.t 17) (.t 18)⟩, ⟨(some 20), none, .cvi .i64 (.t 19)⟩, ⟨(some 21), none, .bin .mul (.t 20) (.c (.v (.int .i64 256)))⟩, ⟨(some 22), none, .bin .xor (.t 16) (.t 21)⟩, ⟨(some 5), none, .mv (.t 22)⟩]) (.drop [7, 22]))
    (.seq (.seq (.reg [⟨(some 7), none, .mv (.c (.v (.int .i64 0)))⟩]) (.drop []))
     (.block 2 (.loop [1, 5, 6, 7] l_fuglemanref01_More_1)))))
  l_fuglemanref01_More_2))
def b_fuglemanref01_More : AC :=
 (.seq (.seq (.reg [⟨(some 4), none, .mv (.c (.v (.int .u16 0)))⟩]) (.drop [2, 4]))
 (.seq (.seq (.reg [⟨(some 8), none, .mv (.t 0)⟩, ⟨(some 9), none, .cvi .i64 (.t 8)⟩, ⟨(some 5), none, .mv (.t 9)⟩]) (.drop [6, 9]))
  (.seq (.seq (.seq (.reg [⟨(some 6), none, .mv (.c (.v (.int .i64 0)))⟩]) (.drop []))
    (.block 0 (.loop [1, 5, 6] l_fuglemanref01_More_0)))
   l_fuglemanref01_More_3)))
def a_fuglemanref01_More : AFn := ⟨2, b_fuglemanref01_More, [.t 4], false, false⟩
theorem a_fuglemanref01_More_ok : compF Tryd.prog Tryd.f39 [[2, 4], [6, 9], [], [1, 5, 6], [7, 12], [7, 22], [], [1, 5, 6, 7], [8, 23], [8, 28], [8, 29], [8, 33], [8, 26], [7, 15], [5, 35]] false false hv = some a_fuglemanref01_More := by kernel_rfl

/-! fugleman/fuglemanref01.Sum: 33 -/
def b_fuglemanref01_Sum : AC :=
 (.seq (.seq (.reg [⟨(some 2), none, .mv (.c (.v (.int .u16 0)))⟩]) (.drop [1, 2]))
 (.seq (.seq (.reg [⟨(some 3), none, .mv (.t 0)⟩, ⟨(some 4), none, .call (.c (.fn 39 [])) [(.c (.v (.int .u16 65535))), (.t 3)]⟩, ⟨(some 2), none, .mv (.t 4)⟩]) (.drop [3, 4]))
  .ret))
def a_fuglemanref01_Sum : AFn := ⟨1, b_fuglemanref01_Sum, [.t 2], false, false⟩
theorem a_fuglemanref01_Sum_ok : compF Tryd.prog Tryd.f33 [[1, 2], [3, 4]] false false hv = some a_fuglemanref01_Sum := by kernel_rfl

/-! fugleman/fuglemanref01.Sealed: 23 -/
def b_fuglemanref01_Sealed : AC :=
 (.seq (.seq (.reg [⟨(some 2), none, .mv (.c (.v (.string ⟨#[]⟩)))⟩]) (.drop [1, 2]))
 (.seq (.seq (.reg [⟨(some 4), none, .mv (.t 0)⟩, ⟨(some 5), none, .call (.c (.fn 33 [])) [(.t 4)]⟩, ⟨(some 3), none, .mv (.t 5)⟩]) (.drop [4, 5]))
  (.seq (.seq (.reg [⟨(some 6), none, .mv (.t 0)⟩, ⟨(some 7), none, .mv (.t 3)⟩, ⟨(some 8), none, .bin .quo (.t 7) (.c (.v (.int .u16 256)))⟩, ⟨(some 9), none, .cvi .u8 (.t 8)⟩, ⟨(some 10), none, .mv (.t 3)⟩, ⟨(some 11), none, .bin .rem (.t 10) (.c (.v (.int .u16 256)))⟩, ⟨(some 12), none, .cvi .u8 (.t 11)⟩, ⟨(some 13), none, .row 1 2 [(.v (.int .u8 0))] [(0, 1, (.t 9)), (1, 1, (.t 12))]⟩, ⟨(some 14), none, .cvbs (.t 13)⟩, ⟨(some 15), none, .bin .add (.t 6) (.t 14)⟩, ⟨(some 2), none, .mv (.t 15)⟩]) (.drop [3, 15]))
   .ret)))
def a_fuglemanref01_Sealed : AFn := ⟨1, b_fuglemanref01_Sealed, [.t 2], false, false⟩
theorem a_fuglemanref01_Sealed_ok : compF Tryd.prog Tryd.f23 [[1, 2], [4, 5], [3, 15]] false false hv = some a_fuglemanref01_Sealed := by kernel_rfl

/-! fugleman/fuglemanref07.Slot: 8 -/
def l_fuglemanref07_Slot_1 : AC :=
 (.seq (.seq (.reg [⟨(some 26), none, .mv (.t 3)⟩, ⟨(some 27), none, .call (.c (.fn 23 [])) [(.t 26)]⟩, ⟨(some 2), none, .mv (.t 27)⟩]) (.drop [3, 27]))
 .ret)
def l_fuglemanref07_Slot_0 : AC :=
 (.seq (.seq (.seq (.reg [⟨(some 21), none, .mv (.t 3)⟩, ⟨(some 22), none, .lens (.t 21)⟩, ⟨(some 23), none, .bin .lss (.t 22) (.c (.v (.int .i64 71)))⟩]) (.drop [4, 22]))
  (.cond (.t 23) .skip
   (.exit 0)))
 (.block 1 (.seq (.reg [⟨(some 24), none, .mv (.t 3)⟩, ⟨(some 25), none, .bin .add (.t 24) (.c (.v (.string ⟨#[0]⟩)))⟩, ⟨(some 3), none, .mv (.t 25)⟩]) (.drop [4, 25]))))
def b_fuglemanref07_Slot : AC :=
 (.seq (.seq (.reg [⟨(some 1), none, .box (.t 0)⟩, ⟨(some 2), none, .mv (.c (.v (.string ⟨#[]⟩)))⟩]) (.drop [2, 2]))
 (.seq (.seq (.regq [⟨(some 4), none, .fad 0 (.t 1)⟩, ⟨(some 5), none, .load none (.t 4)⟩, ⟨(some 6), none, .call (.c (.fn 22 [])) [(.t 5), (.c (.v (.int .i64 4)))]⟩, ⟨(some 7), none, .fad 1 (.t 1)⟩, ⟨(some 8), none, .load none (.t 7)⟩, ⟨(some 9), none, .cvi .u32 (.t 8)⟩, ⟨(some 10), none, .call (.c (.fn 22 [])) [(.t 9), (.c (.v (.int .i64 2)))]⟩, ⟨(some 11), none, .bin .add (.t 6) (.t 10)⟩, ⟨(some 12), none, .fad 2 (.t 1)⟩, ⟨(some 13), none, .load none (.t 12)⟩, ⟨(some 14), none, .lens (.t 13)⟩, ⟨(some 15), none, .cvi .u32 (.t 14)⟩, ⟨(some 16), none, .call (.c (.fn 22 [])) [(.t 15), (.c (.v (.int .i64 1)))]⟩, ⟨(some 17), none, .bin .add (.t 11) (.t 16)⟩, ⟨(some 18), none, .fad 2 (.t 1)⟩, ⟨(some 19), none, .load none (.t 18)⟩, ⟨(some 20), none, .bin .add (.t 17) (.t 19)⟩, ⟨(some 3), none, .mv (.t 20)⟩]) (.drop [4, 20]))
  (.seq (.block 0 (.loop [3] l_fuglemanref07_Slot_0))
   l_fuglemanref07_Slot_1)))
def a_fuglemanref07_Slot : AFn := ⟨1, b_fuglemanref07_Slot, [.t 2], false, false⟩
theorem a_fuglemanref07_Slot_ok : compF Tryd.prog Tryd.f8 [[2, 2], [4, 20], [3], [4, 22], [4, 25], [3, 27]] false false hv = some a_fuglemanref07_Slot := by kernel_rfl

/-! fugleman/store.Of: 9 -/
def b_store_Of : AC :=
 (.seq (.seq (.reg [⟨(some 2), none, .mv (.c (.v (.pointer none)))⟩]) (.drop [1, 2]))
 (.seq (.seq (.reg [⟨(some 3), none, .mv (.t 0)⟩, ⟨(some 4), none, .mv (.t 0)⟩, ⟨(some 5), none, .lens (.t 4)⟩, ⟨(some 6), none, .min [(.t 5), (.c (.v (.int .i64 1000)))]⟩, ⟨(some 7), none, .slstr (.t 3) none (some (.t 6))⟩, ⟨(some 8), none, .cvsb (.t 7)⟩, ⟨(some 9), none, .build [(.v (.slice none 0 0)), (.v (.bool false)), (.v (.bool false)), (.v (.int .i64 0)), (.v (.int .i64 0))] [(0, 1, (.t 8))]⟩, ⟨(some 10), none, .box (.t 9)⟩, ⟨(some 2), none, .mv (.t 10)⟩]) (.drop [3, 10]))
  .ret))
def a_store_Of : AFn := ⟨1, b_store_Of, [.t 2], false, false⟩
theorem a_store_Of_ok : compF Tryd.prog Tryd.f9 [[1, 2], [3, 10]] false false hv = some a_store_Of := by kernel_rfl

/-! fugleman/fuglemanlaw07.bytes: 13 -/
def b_fuglemanlaw07_bytes : AC :=
 (.seq (.seq (.reg [⟨(some 2), none, .mv (.c (.v (.string ⟨#[]⟩)))⟩]) (.drop [1, 2]))
 (.seq (.seq (.reg [⟨(some 6), none, .mv (.t 0)⟩, ⟨(some 7), none, .mv (.t 0)⟩, ⟨(some 8), none, .call (.c (.fn 27 [])) [(.t 7)]⟩, ⟨(some 9), none, .call (.c (.fn 26 [])) [(.t 6), (.c (.v (.int .i64 0))), (.t 8)]⟩, ⟨(some 5), none, .mv (.t 9)⟩, ⟨(some 10), none, .ext 0 (.t 5)⟩, ⟨(some 11), none, .ext 1 (.t 5)⟩, ⟨(some 3), none, .mv (.t 10)⟩, ⟨(some 4), none, .mv (.t 11)⟩]) (.drop [4, 11]))
  (.seq (.seq (.reg [⟨(some 12), none, .mv (.t 3)⟩, ⟨(some 2), none, .mv (.t 12)⟩]) (.drop [3, 12]))
   .ret)))
def a_fuglemanlaw07_bytes : AFn := ⟨1, b_fuglemanlaw07_bytes, [.t 2], false, false⟩
theorem a_fuglemanlaw07_bytes_ok : compF Tryd.prog Tryd.f13 [[1, 2], [4, 11], [3, 12]] false false hv = some a_fuglemanlaw07_bytes := by kernel_rfl

/-! fugleman/fuglemanlaw07.RetainEnds: 3 -/
def c_fuglemanlaw07_RetainEnds_0 : AC :=
 (.seq (.seq (.reg [⟨(some 42), none, .mv (.t 6)⟩, ⟨(some 43), none, .call (.c (.fn 11 [])) [(.t 42)]⟩, ⟨(some 41), none, .mv (.t 43)⟩, ⟨(some 44), none, .ext 0 (.t 41)⟩, ⟨(some 45), none, .ext 1 (.t 41)⟩, ⟨(some 8), none, .alloc [(.v (.int .u32 0)), (.v (.int .u16 0)), (.v (.string ⟨#[]⟩))]⟩, ⟨none, none, .store 3 (.t 8) (.t 44)⟩, ⟨(some 9), none, .mv (.t 45)⟩]) (.drop [8, 8, 10, 45]))
            (.seq (.seq (.reg [⟨(some 47), none, .mv (.t 6)⟩, ⟨(some 48), none, .call (.c (.fn 12 [])) [(.t 47)]⟩, ⟨(some 46), none, .mv (.t 48)⟩, ⟨(some 49), none, .ext 0 (.t 46)⟩, ⟨(some 50), none, .ext 1 (.t 46)⟩, ⟨(some 10), none, .alloc [(.v (.int .u32 0)), (.v (.int .u16 0)), (.v (.string ⟨#[]⟩))]⟩, ⟨none, none, .store 3 (.t 10) (.t 49)⟩, ⟨(some 11), none, .mv (.t 50)⟩]) (.drop [12, 50]))
             (.seq (.seq (.reg [⟨(some 51), none, .mv (.t 7)⟩, ⟨(some 52), none, .bin .eql (.t 51) (.c (.v (.int .i64 13)))⟩, ⟨(some 53), none, .mv (.t 52)⟩, ⟨(some 54), (some (53, true)), .mv (.t 9)⟩, ⟨(some 55), (some (53, true)), .bin .eql (.t 54) (.c (.v (.int .i64 13)))⟩, ⟨(some 56), none, .pick (.t 53) (.t 55) (.c (.v (.bool false)))⟩, ⟨(some 57), none, .mv (.t 56)⟩, ⟨(some 58), (some (57, true)), .mv (.t 11)⟩, ⟨(some 59), none, .pick (.t 57) (.t 58) (.c (.v (.bool false)))⟩, ⟨(some 60), none, .mv (.t 59)⟩, ⟨(some 61), (some (60, true)), .load (some 3) (.t 10)⟩, ⟨(some 62), (some (60, true)), .load (some 3) (.t 2)⟩, ⟨(some 63), (some (60, true)), .eqst false [(0, .i), (1, .i), (2, .s)] (.t 61) (.t 62)⟩, ⟨(some 64), none, .pick (.t 60) (.t 63) (.c (.v (.bool false)))⟩, ⟨(some 65), none, .mv (.t 64)⟩, ⟨(some 66), (some (65, true)), .mv (.t 6)⟩, ⟨(some 67), (some (65, true)), .call (.c (.fn 13 [])) [(.t 66)]⟩, ⟨(some 68), (some (65, true)), .mv (.t 5)⟩, ⟨(some 69), (some (65, true)), .bin .eql (.t 67) (.t 68)⟩, ⟨(some 70), none, .pick (.t 65) (.t 69) (.c (.v (.bool false)))⟩, ⟨(some 4), none, .mv (.t 70)⟩]) (.drop [5, 70]))
              .ret)))
theorem g_fuglemanlaw07_RetainEnds_0 {C : CT} {lf : Nat} {ks : List It} {s : St} : type_of% (@Sym.go_as C lf ks s _ _ c_fuglemanlaw07_RetainEnds_0.eq_1) := Sym.go_as c_fuglemanlaw07_RetainEnds_0.eq_1
def c_fuglemanlaw07_RetainEnds_1 : AC :=
 (.seq (.seq (.reg [⟨(some 83), none, .mv (.t 13)⟩, ⟨(some 84), none, .bin .eql (.t 83) (.c (.v (.int .i64 13)))⟩, ⟨(some 85), none, .mv (.t 84)⟩, ⟨(some 86), (some (85, true)), .load (some 3) (.t 12)⟩, ⟨(some 87), (some (85, true)), .build [(.v (.int .u32 0)), (.v (.int .u16 0)), (.v (.string ⟨#[]⟩))] []⟩, ⟨(some 88), (some (85, true)), .eqst false [(0, .i), (1, .i), (2, .s)] (.t 86) (.t 87)⟩, ⟨(some 89), none, .pick (.t 85) (.t 88) (.c (.v (.bool false)))⟩, ⟨(some 90), none, .mv (.t 89)⟩, ⟨(some 91), (some (90, true)), .mv (.t 6)⟩, ⟨(some 92), (some (90, true)), .call (.c (.fn 13 [])) [(.t 91)]⟩, ⟨(some 93), (some (90, true)), .mv (.t 5)⟩, ⟨(some 94), (some (90, true)), .bin .eql (.t 92) (.t 93)⟩, ⟨(some 95), none, .pick (.t 90) (.t 94) (.c (.v (.bool false)))⟩, ⟨(some 4), none, .mv (.t 95)⟩]) (.drop [5, 95]))
                .ret)
theorem g_fuglemanlaw07_RetainEnds_1 {C : CT} {lf : Nat} {ks : List It} {s : St} : type_of% (@Sym.go_as C lf ks s _ _ c_fuglemanlaw07_RetainEnds_1.eq_1) := Sym.go_as c_fuglemanlaw07_RetainEnds_1.eq_1
def b_fuglemanlaw07_RetainEnds : AC :=
 (.seq (.seq (.reg [⟨(some 2), none, .box (.t 0)⟩, ⟨(some 4), none, .mv (.c (.v (.bool false)))⟩]) (.drop [3, 4]))
 (.seq (.seq (.seq (.reg [⟨(some 14), none, .call (.c (.fn 7 [])) []⟩, ⟨(some 15), none, .un .not (.t 14)⟩]) (.drop [3, 14]))
   (.cond (.t 15) (.seq (.seq (.reg [⟨(some 4), none, .mv (.c (.v (.bool false)))⟩]) (.drop []))
     .ret)
    .skip))
  (.seq (.seq (.seq (.reg [⟨(some 16), none, .fad 2 (.t 2)⟩, ⟨(some 17), none, .load none (.t 16)⟩, ⟨(some 18), none, .lens (.t 17)⟩, ⟨(some 19), none, .bin .gtr (.t 18) (.c (.v (.int .i64 64)))⟩]) (.drop [3, 18]))
    (.cond (.t 19) (.seq (.seq (.reg [⟨(some 4), none, .mv (.c (.v (.bool true)))⟩]) (.drop []))
      .ret)
     .skip))
   (.seq (.seq (.seq (.reg [⟨(some 20), none, .mv (.t 1)⟩, ⟨(some 21), none, .bin .and (.t 20) (.c (.v (.int .u8 1)))⟩, ⟨(some 22), none, .bin .eql (.t 21) (.c (.v (.int .u8 1)))⟩]) (.drop [3, 21]))
     (.cond (.t 22) (.seq (.reg [⟨(some 23), none, .fad 0 (.t 2)⟩, ⟨none, none, .store 1 (.t 23) (.c (.v (.int .u32 4294967295)))⟩]) (.drop [3, 23]))
      .skip))
    (.seq (.seq (.seq (.reg [⟨(some 24), none, .mv (.t 1)⟩, ⟨(some 25), none, .bin .and (.t 24) (.c (.v (.int .u8 2)))⟩, ⟨(some 26), none, .bin .eql (.t 25) (.c (.v (.int .u8 2)))⟩]) (.drop [3, 25]))
      (.cond (.t 26) (.seq (.reg [⟨(some 27), none, .fad 1 (.t 2)⟩, ⟨none, none, .store 1 (.t 27) (.c (.v (.int .u16 65535)))⟩]) (.drop [3, 27]))
       .skip))
     (.seq (.seq (.regx (.op .o ⟨(some 28), none, .load (some 3) (.t 2)⟩
         (.alt (.op .m ⟨(some 29), none, .call (.c (.fn 8 [])) [(.t 28)]⟩
           (.op .o ⟨(some 30), none, .bin .add (.c (.v (.string ⟨#[165]⟩))) (.t 29)⟩
            (.op .o ⟨(some 31), none, .mks 1 1 [(.v (.int .u8 0))] (.c (.v (.int .i64 74))) (.c (.v (.int .i64 74)))⟩
             (.op .o ⟨(some 32), none, .cvbs (.t 31)⟩
              (.op .o ⟨(some 33), none, .bin .add (.t 30) (.t 32)⟩
               (.op .o ⟨(some 5), none, .mv (.t 33)⟩
                .nil))))))
          (.op .o ⟨(some 31), none, .mks 1 1 [(.v (.int .u8 0))] (.c (.v (.int .i64 74))) (.c (.v (.int .i64 74)))⟩
           (.op .o ⟨(some 32), none, .cvbs (.t 31)⟩
            (.op .m ⟨(some 29), none, .call (.c (.fn 8 [])) [(.t 28)]⟩
             (.op .o ⟨(some 30), none, .bin .add (.c (.v (.string ⟨#[165]⟩))) (.t 29)⟩
              (.op .o ⟨(some 33), none, .bin .add (.t 30) (.t 32)⟩
               (.op .o ⟨(some 5), none, .mv (.t 33)⟩
                .nil))))))))) (.drop [6, 33]))
      (.seq (.seq (.reg [⟨(some 34), none, .mv (.t 5)⟩, ⟨(some 35), none, .call (.c (.fn 9 [])) [(.t 34)]⟩, ⟨(some 6), none, .mv (.t 35)⟩]) (.drop [7, 35]))
       (.seq (.seq (.reg [⟨(some 36), none, .mv (.t 6)⟩, ⟨(some 37), none, .call (.c (.fn 10 [])) [(.t 36), (.c (.v (.int .u16 7))), (.c (.v (.string ⟨#[113]⟩)))]⟩, ⟨(some 7), none, .mv (.t 37)⟩]) (.drop [8, 37]))
        (.seq (.seq (.seq (.reg [⟨(some 38), none, .fad 0 (.t 2)⟩, ⟨(some 39), none, .load none (.t 38)⟩, ⟨(some 40), none, .bin .eql (.t 39) (.c (.v (.int .u32 4294967295)))⟩]) (.drop [8, 39]))
          (.cond (.t 40) c_fuglemanlaw07_RetainEnds_0
           .skip))
         (.seq (.seq (.seq (.reg [⟨(some 71), none, .mv (.t 7)⟩, ⟨(some 72), none, .bin .neq (.t 71) (.c (.v (.int .i64 0)))⟩]) (.drop [6, 71]))
           (.cond (.t 72) (.seq (.seq (.reg [⟨(some 4), none, .mv (.c (.v (.bool false)))⟩]) (.drop []))
             .ret)
            .skip))
          (.seq (.seq (.reg [⟨(some 73), none, .mv (.t 5)⟩, ⟨(some 74), none, .call (.c (.fn 9 [])) [(.t 73)]⟩, ⟨(some 6), none, .mv (.t 74)⟩]) (.drop [7, 74]))
           (.seq (.seq (.reg [⟨(some 76), none, .mv (.t 6)⟩, ⟨(some 77), none, .call (.c (.fn 11 [])) [(.t 76)]⟩, ⟨(some 75), none, .mv (.t 77)⟩, ⟨(some 78), none, .ext 0 (.t 75)⟩, ⟨(some 79), none, .ext 1 (.t 75)⟩, ⟨(some 12), none, .alloc [(.v (.int .u32 0)), (.v (.int .u16 0)), (.v (.string ⟨#[]⟩))]⟩, ⟨none, none, .store 3 (.t 12) (.t 78)⟩, ⟨(some 13), none, .mv (.t 79)⟩]) (.drop [14, 79]))
            (.seq (.seq (.seq (.reg [⟨(some 80), none, .fad 1 (.t 2)⟩, ⟨(some 81), none, .load none (.t 80)⟩, ⟨(some 82), none, .bin .eql (.t 81) (.c (.v (.int .u16 65535)))⟩]) (.drop [14, 81]))
              (.cond (.t 82) c_fuglemanlaw07_RetainEnds_1
               .skip))
             (.seq (.seq (.reg [⟨(some 96), none, .mv (.t 13)⟩, ⟨(some 97), none, .bin .eql (.t 96) (.c (.v (.int .i64 0)))⟩, ⟨(some 98), none, .mv (.t 97)⟩, ⟨(some 99), (some (98, true)), .fad 1 (.t 12)⟩, ⟨(some 100), (some (98, true)), .load none (.t 99)⟩, ⟨(some 101), (some (98, true)), .fad 1 (.t 2)⟩, ⟨(some 102), (some (98, true)), .load none (.t 101)⟩, ⟨(some 103), (some (98, true)), .bin .add (.t 102) (.c (.v (.int .u16 1)))⟩, ⟨(some 104), (some (98, true)), .bin .eql (.t 100) (.t 103)⟩, ⟨(some 105), none, .pick (.t 98) (.t 104) (.c (.v (.bool false)))⟩, ⟨(some 106), none, .mv (.t 105)⟩, ⟨(some 107), (some (106, true)), .fad 0 (.t 12)⟩, ⟨(some 108), (some (106, true)), .load none (.t 107)⟩, ⟨(some 109), (some (106, true)), .fad 0 (.t 2)⟩, ⟨(some 110), (some (106, true)), .load none (.t 109)⟩, ⟨(some 111), (some (106, true)), .bin .add (.t 110) (.c (.v (.int .u32 1)))⟩, ⟨(some 112), (some (106, true)), .bin .eql (.t 108) (.t 111)⟩, ⟨(some 113), none, .pick (.t 106) (.t 112) (.c (.v (.bool false)))⟩, ⟨(some 114), none, .mv (.t 113)⟩, ⟨(some 115), (some (114, true)), .fad 2 (.t 12)⟩, ⟨(some 116), (some (114, true)), .load none (.t 115)⟩, ⟨(some 117), (some (114, true)), .fad 2 (.t 2)⟩, ⟨(some 118), (some (114, true)), .load none (.t 117)⟩, ⟨(some 119), (some (114, true)), .bin .eql (.t 116) (.t 118)⟩, ⟨(some 120), none, .pick (.t 114) (.t 119) (.c (.v (.bool false)))⟩, ⟨(some 4), none, .mv (.t 120)⟩]) (.drop [5, 120]))
              .ret))))))))))))))
def a_fuglemanlaw07_RetainEnds : AFn := ⟨2, b_fuglemanlaw07_RetainEnds, [.t 4], false, false⟩
theorem a_fuglemanlaw07_RetainEnds_ok : compF Tryd.prog Tryd.f3 [[3, 4], [3, 14], [], [3, 18], [], [3, 21], [3, 23], [3, 25], [3, 27], [6, 33], [7, 35], [8, 37], [8, 39], [8, 8, 10, 45], [12, 50], [5, 70], [6, 71], [], [7, 74], [14, 79], [14, 81], [5, 95], [5, 120]] false false hv = some a_fuglemanlaw07_RetainEnds := by kernel_rfl

/-! (*fugleman/store.Store).Arm: 16 -/
def c_store_Store_Arm_0 : AC :=
 (.seq (.reg [⟨(some 6), none, .mv (.t 0)⟩, ⟨(some 7), none, .mv (.t 0)⟩, ⟨(some 8), none, .mv (.t 1)⟩, ⟨(some 9), none, .max [(.t 8), (.c (.v (.int .i64 0)))]⟩, ⟨(some 10), none, .nilck (.t 6)⟩, ⟨(some 11), none, .fad 2 (.t 10)⟩, ⟨none, none, .store 1 (.t 11) (.c (.v (.bool true)))⟩, ⟨(some 12), none, .nilck (.t 7)⟩, ⟨(some 13), none, .fad 3 (.t 12)⟩, ⟨none, none, .store 1 (.t 13) (.t 9)⟩]) (.drop [0, 13]))
theorem g_store_Store_Arm_0 {C : CT} {lf : Nat} {ks : List It} {s : St} : type_of% (@Sym.go_as C lf ks s _ _ c_store_Store_Arm_0.eq_1) := Sym.go_as c_store_Store_Arm_0.eq_1
def b_store_Store_Arm : AC :=
 (.seq (.seq (.reg [⟨(some 4), none, .mv (.t 0)⟩, ⟨(some 5), none, .eqp true (.t 4) (.c (.v (.pointer none)))⟩]) (.drop [2, 4]))
 (.cond (.t 5) c_store_Store_Arm_0
  .skip))
def a_store_Store_Arm : AFn := ⟨2, b_store_Store_Arm, [], false, true⟩
theorem a_store_Store_Arm_ok : compF Tryd.prog Tryd.f16 [[2, 4], [0, 13]] false true hv = some a_store_Store_Arm := by kernel_rfl

/-! (*fugleman/store.Store).On: 19 -/
def b_store_Store_On : AC :=
 (.seq (.seq (.reg [⟨(some 2), none, .mv (.t 0)⟩, ⟨(some 3), none, .eqp true (.t 2) (.c (.v (.pointer none)))⟩]) (.drop [1, 2]))
 (.cond (.t 3) (.seq (.reg [⟨(some 4), none, .mv (.t 0)⟩, ⟨(some 5), none, .nilck (.t 4)⟩, ⟨(some 6), none, .fad 1 (.t 5)⟩, ⟨none, none, .store 1 (.t 6) (.c (.v (.bool false)))⟩]) (.drop [0, 6]))
  .skip))
def a_store_Store_On : AFn := ⟨1, b_store_Store_On, [], false, true⟩
theorem a_store_Store_On_ok : compF Tryd.prog Tryd.f19 [[1, 2], [0, 6]] false true hv = some a_store_Store_On := by kernel_rfl

/-! fugleman/fuglemanlaw07.RetainTears: 4 -/
def c_fuglemanlaw07_RetainTears_0 : AC :=
 (.seq (.seq (.reg [⟨(some 83), none, .mv (.t 13)⟩, ⟨(some 84), none, .bin .neq (.t 83) (.c (.v (.int .i64 12)))⟩, ⟨(some 85), none, .mv (.t 84)⟩, ⟨(some 86), (some (85, false)), .load (some 3) (.t 14)⟩, ⟨(some 87), (some (85, false)), .load (some 3) (.t 11)⟩, ⟨(some 88), (some (85, false)), .eqst true [(0, .i), (1, .i), (2, .s)] (.t 86) (.t 87)⟩, ⟨(some 89), none, .pick (.t 85) (.c (.v (.bool true))) (.t 88)⟩, ⟨(some 90), none, .mv (.t 89)⟩, ⟨(some 91), (some (90, false)), .mv (.t 15)⟩, ⟨(some 92), (some (90, false)), .mv (.t 12)⟩, ⟨(some 93), (some (90, false)), .eqb true (.t 91) (.t 92)⟩, ⟨(some 94), none, .pick (.t 90) (.c (.v (.bool true))) (.t 93)⟩]) (.drop [15, 93]))
          (.cond (.t 94) (.seq (.seq (.reg [⟨(some 6), none, .mv (.c (.v (.bool false)))⟩]) (.drop []))
            .ret)
           .skip))
theorem g_fuglemanlaw07_RetainTears_0 {C : CT} {lf : Nat} {ks : List It} {s : St} : type_of% (@Sym.go_as C lf ks s _ _ c_fuglemanlaw07_RetainTears_0.eq_1) := Sym.go_as c_fuglemanlaw07_RetainTears_0.eq_1
def c_fuglemanlaw07_RetainTears_1 : AC :=
 (.seq (.seq (.reg [⟨(some 95), none, .mv (.t 13)⟩, ⟨(some 96), none, .bin .neq (.t 95) (.c (.v (.int .i64 0)))⟩, ⟨(some 97), none, .mv (.t 96)⟩, ⟨(some 98), (some (97, false)), .mv (.t 15)⟩, ⟨(some 99), (some (97, false)), .un .not (.t 98)⟩, ⟨(some 100), none, .pick (.t 97) (.c (.v (.bool true))) (.t 99)⟩, ⟨(some 101), none, .mv (.t 100)⟩, ⟨(some 102), (some (101, false)), .fad 2 (.t 14)⟩, ⟨(some 103), (some (101, false)), .load none (.t 102)⟩, ⟨(some 104), (some (101, false)), .mv (.t 1)⟩, ⟨(some 105), (some (101, false)), .bin .neq (.t 103) (.t 104)⟩, ⟨(some 106), none, .pick (.t 101) (.c (.v (.bool true))) (.t 105)⟩, ⟨(some 107), none, .mv (.t 106)⟩, ⟨(some 108), (some (107, false)), .fad 1 (.t 14)⟩, ⟨(some 109), (some (107, false)), .load none (.t 108)⟩, ⟨(some 110), (some (107, false)), .bin .neq (.t 109) (.c (.v (.int .u16 99)))⟩, ⟨(some 111), none, .pick (.t 107) (.c (.v (.bool true))) (.t 110)⟩, ⟨(some 112), none, .mv (.t 111)⟩, ⟨(some 113), (some (112, false)), .fad 0 (.t 14)⟩, ⟨(some 114), (some (112, false)), .load none (.t 113)⟩, ⟨(some 115), (some (112, false)), .fad 0 (.t 11)⟩, ⟨(some 116), (some (112, false)), .load none (.t 115)⟩, ⟨(some 117), (some (112, false)), .bin .add (.t 116) (.c (.v (.int .u32 1)))⟩, ⟨(some 118), (some (112, false)), .bin .neq (.t 114) (.t 117)⟩, ⟨(some 119), none, .pick (.t 112) (.c (.v (.bool true))) (.t 118)⟩]) (.drop [15, 118]))
          (.cond (.t 119) (.seq (.seq (.reg [⟨(some 6), none, .mv (.c (.v (.bool false)))⟩]) (.drop []))
            .ret)
           .skip))
theorem g_fuglemanlaw07_RetainTears_1 {C : CT} {lf : Nat} {ks : List It} {s : St} : type_of% (@Sym.go_as C lf ks s _ _ c_fuglemanlaw07_RetainTears_1.eq_1) := Sym.go_as c_fuglemanlaw07_RetainTears_1.eq_1
def l_fuglemanlaw07_RetainTears_1 : AC :=
 (.seq (.seq (.reg [⟨(some 50), none, .mv (.t 7)⟩, ⟨(some 51), none, .call (.c (.fn 12 [])) [(.t 50)]⟩, ⟨(some 49), none, .mv (.t 51)⟩, ⟨(some 52), none, .ext 0 (.t 49)⟩, ⟨(some 53), none, .ext 1 (.t 49)⟩, ⟨(some 11), none, .alloc [(.v (.int .u32 0)), (.v (.int .u16 0)), (.v (.string ⟨#[]⟩))]⟩, ⟨none, none, .store 3 (.t 11) (.t 52)⟩, ⟨(some 12), none, .mv (.t 53)⟩]) (.drop [13, 53]))
 (.seq (.seq (.seq (.reg [⟨(some 54), none, .mv (.t 12)⟩, ⟨(some 55), none, .mv (.t 0)⟩, ⟨(some 56), none, .len (.t 55)⟩, ⟨(some 57), none, .bin .gtr (.t 56) (.c (.v (.int .i64 0)))⟩, ⟨(some 58), none, .eqb true (.t 54) (.t 57)⟩, ⟨(some 59), none, .mv (.t 58)⟩, ⟨(some 60), (some (59, false)), .fad 2 (.t 11)⟩, ⟨(some 61), (some (59, false)), .load none (.t 60)⟩, ⟨(some 62), (some (59, false)), .mv (.t 8)⟩, ⟨(some 63), (some (59, false)), .bin .neq (.t 61) (.t 62)⟩, ⟨(some 64), none, .pick (.t 59) (.c (.v (.bool true))) (.t 63)⟩]) (.drop [13, 63]))
   (.cond (.t 64) (.seq (.seq (.reg [⟨(some 6), none, .mv (.c (.v (.bool false)))⟩]) (.drop []))
     .ret)
    .skip))
  (.seq (.seq (.reg [⟨(some 65), none, .mv (.t 7)⟩, ⟨(some 66), none, .mv (.t 2)⟩, ⟨(some 67), none, .cvi .i64 (.t 66)⟩, ⟨(some 68), none, .call (.c (.fn 16 [])) [(.t 65), (.t 67)]⟩]) (.drop [13, 68]))
   (.seq (.seq (.reg [⟨(some 69), none, .mv (.t 7)⟩, ⟨(some 70), none, .mv (.t 1)⟩, ⟨(some 71), none, .call (.c (.fn 10 [])) [(.t 69), (.c (.v (.int .u16 99))), (.t 70)]⟩, ⟨(some 13), none, .mv (.t 71)⟩]) (.drop [14, 71]))
    (.seq (.seq (.reg [⟨(some 72), none, .mv (.t 7)⟩, ⟨(some 73), none, .call (.c (.fn 17 [])) [(.t 72)]⟩]) (.drop [14, 73]))
     (.seq (.seq (.reg [⟨(some 75), none, .mv (.t 7)⟩, ⟨(some 76), none, .call (.c (.fn 12 [])) [(.t 75)]⟩, ⟨(some 74), none, .mv (.t 76)⟩, ⟨(some 77), none, .ext 0 (.t 74)⟩, ⟨(some 78), none, .ext 1 (.t 74)⟩, ⟨(some 14), none, .alloc [(.v (.int .u32 0)), (.v (.int .u16 0)), (.v (.string ⟨#[]⟩))]⟩, ⟨none, none, .store 3 (.t 14) (.t 77)⟩, ⟨(some 15), none, .mv (.t 78)⟩]) (.drop [16, 78]))
      (.seq (.seq (.seq (.reg [⟨(some 79), none, .mv (.t 2)⟩, ⟨(some 80), none, .cvi .i64 (.t 79)⟩, ⟨(some 81), none, .call (.c (.fn 18 [])) []⟩, ⟨(some 82), none, .bin .lss (.t 80) (.t 81)⟩]) (.drop [16, 81]))
        (.cond (.t 82) c_fuglemanlaw07_RetainTears_0
         c_fuglemanlaw07_RetainTears_1))
       (.seq (.seq (.reg [⟨(some 120), none, .mv (.t 7)⟩, ⟨(some 121), none, .call (.c (.fn 19 [])) [(.t 120)]⟩]) (.drop [15, 121]))
        (.seq (.seq (.reg [⟨(some 122), none, .mv (.t 7)⟩, ⟨(some 123), none, .mv (.t 8)⟩, ⟨(some 124), none, .call (.c (.fn 10 [])) [(.t 122), (.c (.v (.int .u16 100))), (.t 123)]⟩, ⟨(some 16), none, .mv (.t 124)⟩]) (.drop [17, 124]))
         (.seq (.seq (.reg [⟨(some 126), none, .mv (.t 7)⟩, ⟨(some 127), none, .call (.c (.fn 12 [])) [(.t 126)]⟩, ⟨(some 125), none, .mv (.t 127)⟩, ⟨(some 128), none, .ext 0 (.t 125)⟩, ⟨(some 129), none, .ext 1 (.t 125)⟩, ⟨(some 17), none, .alloc [(.v (.int .u32 0)), (.v (.int .u16 0)), (.v (.string ⟨#[]⟩))]⟩, ⟨none, none, .store 3 (.t 17) (.t 128)⟩, ⟨(some 18), none, .mv (.t 129)⟩]) (.drop [19, 129]))
          (.seq (.seq (.reg [⟨(some 130), none, .mv (.t 16)⟩, ⟨(some 131), none, .bin .eql (.t 130) (.c (.v (.int .i64 0)))⟩, ⟨(some 132), none, .mv (.t 131)⟩, ⟨(some 133), (some (132, true)), .mv (.t 18)⟩, ⟨(some 134), none, .pick (.t 132) (.t 133) (.c (.v (.bool false)))⟩, ⟨(some 135), none, .mv (.t 134)⟩, ⟨(some 136), (some (135, true)), .load (some 3) (.t 17)⟩, ⟨(some 137), (some (135, true)), .fad 0 (.t 14)⟩, ⟨(some 138), (some (135, true)), .load none (.t 137)⟩, ⟨(some 139), (some (135, true)), .bin .add (.t 138) (.c (.v (.int .u32 1)))⟩, ⟨(some 140), (some (135, true)), .mv (.t 8)⟩, ⟨(some 141), (some (135, true)), .build [(.v (.int .u32 0)), (.v (.int .u16 0)), (.v (.string ⟨#[]⟩))] [(0, 1, (.t 139)), (1, 1, (.c (.v (.int .u16 100)))), (2, 1, (.t 140))]⟩, ⟨(some 142), (some (135, true)), .eqst false [(0, .i), (1, .i), (2, .s)] (.t 136) (.t 141)⟩, ⟨(some 143), none, .pick (.t 135) (.t 142) (.c (.v (.bool false)))⟩, ⟨(some 6), none, .mv (.t 143)⟩]) (.drop [7, 143]))
           .ret)))))))))))
def l_fuglemanlaw07_RetainTears_0 : AC :=
 (.seq (.seq (.reg [⟨(some 34), none, .bin .lss (.t 33) (.t 32)⟩]) (.drop []))
 (.seq (.cond (.t 34) .skip
   (.exit 0))
  (.seq (.block 1 (.seq (.seq (.reg [⟨(some 35), none, .mv (.t 33)⟩, ⟨(some 36), none, .ixs 1 (.t 31) (.t 33)⟩, ⟨(some 37), none, .load none (.t 36)⟩, ⟨(some 9), none, .mv (.t 35)⟩, ⟨(some 10), none, .mv (.t 37)⟩]) (.drop [34, 37]))
     (.seq (.seq (.seq (.reg [⟨(some 38), none, .mv (.t 10)⟩, ⟨(some 39), none, .lens (.t 38)⟩, ⟨(some 40), none, .bin .gtr (.t 39) (.c (.v (.int .i64 64)))⟩]) (.drop [34, 39]))
       (.cond (.t 40) (.seq (.seq (.reg [⟨(some 6), none, .mv (.c (.v (.bool true)))⟩]) (.drop []))
         .ret)
        .skip))
      (.seq (.seq (.seq (.reg [⟨(some 41), none, .mv (.t 7)⟩, ⟨(some 42), none, .mv (.t 9)⟩, ⟨(some 43), none, .cvi .u16 (.t 42)⟩, ⟨(some 44), none, .mv (.t 10)⟩, ⟨(some 45), none, .call (.c (.fn 10 [])) [(.t 41), (.t 43), (.t 44)]⟩, ⟨(some 46), none, .bin .neq (.t 45) (.c (.v (.int .i64 0)))⟩]) (.drop [34, 45]))
        (.cond (.t 46) (.seq (.seq (.reg [⟨(some 6), none, .mv (.c (.v (.bool false)))⟩]) (.drop []))
          .ret)
         .skip))
       (.seq (.reg [⟨(some 47), none, .mv (.t 10)⟩, ⟨(some 8), none, .mv (.t 47)⟩]) (.drop [34, 47]))))))
   (.seq (.reg [⟨(some 48), none, .bin .add (.t 33) (.c (.v (.int .i64 1)))⟩, ⟨(some 33), none, .mv (.t 48)⟩]) (.drop [34, 48])))))
def b_fuglemanlaw07_RetainTears : AC :=
 (.seq (.seq (.reg [⟨(some 6), none, .mv (.c (.v (.bool false)))⟩]) (.drop [3, 6]))
 (.seq (.seq (.seq (.reg [⟨(some 19), none, .call (.c (.fn 7 [])) []⟩, ⟨(some 20), none, .un .not (.t 19)⟩]) (.drop [3, 19]))
   (.cond (.t 20) (.seq (.seq (.reg [⟨(some 6), none, .mv (.c (.v (.bool false)))⟩]) (.drop []))
     .ret)
    .skip))
  (.seq (.seq (.seq (.reg [⟨(some 21), none, .mv (.t 0)⟩, ⟨(some 22), none, .len (.t 21)⟩, ⟨(some 23), none, .bin .gtr (.t 22) (.c (.v (.int .i64 8)))⟩, ⟨(some 24), none, .mv (.t 23)⟩, ⟨(some 25), (some (24, false)), .mv (.t 1)⟩, ⟨(some 26), (some (24, false)), .lens (.t 25)⟩, ⟨(some 27), (some (24, false)), .bin .gtr (.t 26) (.c (.v (.int .i64 64)))⟩, ⟨(some 28), none, .pick (.t 24) (.c (.v (.bool true))) (.t 27)⟩]) (.drop [3, 27]))
    (.cond (.t 28) (.seq (.seq (.reg [⟨(some 6), none, .mv (.c (.v (.bool true)))⟩]) (.drop []))
      .ret)
     .skip))
   (.seq (.seq (.reg [⟨(some 29), none, .call (.c (.fn 15 [])) []⟩, ⟨(some 30), none, .call (.c (.fn 14 [])) [(.t 29)]⟩, ⟨(some 7), none, .mv (.t 30)⟩]) (.drop [8, 30]))
    (.seq (.seq (.reg [⟨(some 8), none, .mv (.c (.v (.string ⟨#[]⟩)))⟩]) (.drop []))
     (.seq (.seq (.seq (.reg [⟨(some 31), none, .mv (.t 0)⟩, ⟨(some 32), none, .len (.t 31)⟩, ⟨(some 33), none, .mv (.c (.v (.int .i64 0)))⟩]) (.drop []))
       (.block 0 (.loop [0, 1, 2, 7, 8, 31, 32, 33] l_fuglemanlaw07_RetainTears_0)))
      l_fuglemanlaw07_RetainTears_1))))))
def a_fuglemanlaw07_RetainTears : AFn := ⟨3, b_fuglemanlaw07_RetainTears, [.t 6], false, false⟩
theorem a_fuglemanlaw07_RetainTears_ok : compF Tryd.prog Tryd.f4 [[3, 6], [3, 19], [], [3, 27], [], [8, 30], [], [], [0, 1, 2, 7, 8, 31, 32, 33], [], [34, 37], [34, 39], [], [34, 45], [], [34, 47], [34, 48], [13, 53], [13, 63], [], [13, 68], [14, 71], [14, 73], [16, 78], [16, 81], [15, 93], [], [15, 118], [], [15, 121], [17, 124], [19, 129], [7, 143]] false false hv = some a_fuglemanlaw07_RetainTears := by kernel_rfl

/-! fugleman/fuglemanlaw07.RetainBoots: 5 -/
def l_fuglemanlaw07_RetainBoots_1 : AC :=
 (.seq (.seq (.reg [⟨(some 4), none, .mv (.c (.v (.bool true)))⟩]) (.drop []))
 .ret)
def c_fuglemanlaw07_RetainBoots_0 : AC :=
 (.seq (.seq (.seq (.reg [⟨(some 55), none, .fad 1 (.t 9)⟩, ⟨(some 56), none, .load none (.t 55)⟩, ⟨(some 57), none, .mv (.t 6)⟩, ⟨(some 58), none, .bin .leq (.t 56) (.t 57)⟩, ⟨(some 59), none, .mv (.t 58)⟩, ⟨(some 60), (some (59, false)), .fad 2 (.t 9)⟩, ⟨(some 61), (some (59, false)), .load none (.t 60)⟩, ⟨(some 62), (some (59, false)), .mv (.t 0)⟩, ⟨(some 63), (some (59, false)), .bin .neq (.t 61) (.t 62)⟩, ⟨(some 64), none, .pick (.t 59) (.c (.v (.bool true))) (.t 63)⟩]) (.drop [32, 63]))
             (.cond (.t 64) (.seq (.seq (.reg [⟨(some 4), none, .mv (.c (.v (.bool false)))⟩]) (.drop []))
               .ret)
              .skip))
            (.seq (.reg [⟨(some 65), none, .fad 1 (.t 9)⟩, ⟨(some 66), none, .load none (.t 65)⟩, ⟨(some 6), none, .mv (.t 66)⟩]) (.drop [32, 66])))
theorem g_fuglemanlaw07_RetainBoots_0 {C : CT} {lf : Nat} {ks : List It} {s : St} : type_of% (@Sym.go_as C lf ks s _ _ c_fuglemanlaw07_RetainBoots_0.eq_1) := Sym.go_as c_fuglemanlaw07_RetainBoots_0.eq_1
def l_fuglemanlaw07_RetainBoots_0 : AC :=
 (.seq (.seq (.reg [⟨(some 32), none, .bin .lss (.t 31) (.t 30)⟩]) (.drop []))
 (.seq (.cond (.t 32) .skip
   (.exit 0))
  (.seq (.block 1 (.seq (.seq (.reg [⟨(some 33), none, .ixs 1 (.t 29) (.t 31)⟩, ⟨(some 34), none, .load none (.t 33)⟩, ⟨(some 8), none, .mv (.t 34)⟩]) (.drop [32, 34]))
     (.seq (.seq (.seq (.reg [⟨(some 35), none, .mv (.t 8)⟩, ⟨(some 36), none, .bin .lss (.t 35) (.c (.v (.int .u8 200)))⟩]) (.drop [32, 35]))
       (.cond (.t 36) (.seq (.reg [⟨(some 37), none, .mv (.t 5)⟩, ⟨(some 38), none, .mv (.t 8)⟩, ⟨(some 39), none, .cvi .i64 (.t 38)⟩, ⟨(some 40), none, .call (.c (.fn 16 [])) [(.t 37), (.t 39)]⟩]) (.drop [32, 40]))
        .skip))
      (.seq (.seq (.reg [⟨(some 42), none, .mv (.t 5)⟩, ⟨(some 43), none, .call (.c (.fn 11 [])) [(.t 42)]⟩, ⟨(some 41), none, .mv (.t 43)⟩, ⟨(some 44), none, .ext 0 (.t 41)⟩, ⟨(some 45), none, .ext 1 (.t 41)⟩, ⟨(some 9), none, .alloc [(.v (.int .u32 0)), (.v (.int .u16 0)), (.v (.string ⟨#[]⟩))]⟩, ⟨none, none, .store 3 (.t 9) (.t 44)⟩, ⟨(some 10), none, .mv (.t 45)⟩]) (.drop [32, 45]))
       (.seq (.seq (.seq (.reg [⟨(some 46), none, .mv (.t 10)⟩, ⟨(some 47), none, .bin .eql (.t 46) (.c (.v (.int .i64 0)))⟩, ⟨(some 48), none, .mv (.t 8)⟩, ⟨(some 49), none, .cvi .i64 (.t 48)⟩, ⟨(some 50), none, .call (.c (.fn 18 [])) []⟩, ⟨(some 51), none, .bin .geq (.t 49) (.t 50)⟩, ⟨(some 52), none, .eqb true (.t 47) (.t 51)⟩]) (.drop [32, 51]))
         (.cond (.t 52) (.seq (.seq (.reg [⟨(some 4), none, .mv (.c (.v (.bool false)))⟩]) (.drop []))
           .ret)
          .skip))
        (.seq (.seq (.seq (.reg [⟨(some 53), none, .mv (.t 10)⟩, ⟨(some 54), none, .bin .eql (.t 53) (.c (.v (.int .i64 0)))⟩]) (.drop [32, 53]))
          (.cond (.t 54) c_fuglemanlaw07_RetainBoots_0
           .skip))
         (.seq (.seq (.reg [⟨(some 67), none, .mv (.t 5)⟩, ⟨(some 68), none, .call (.c (.fn 17 [])) [(.t 67)]⟩]) (.drop [32, 68]))
          (.seq (.seq (.reg [⟨(some 69), none, .mv (.t 5)⟩, ⟨(some 70), none, .call (.c (.fn 19 [])) [(.t 69)]⟩]) (.drop [32, 70]))
           (.seq (.seq (.reg [⟨(some 72), none, .mv (.t 5)⟩, ⟨(some 73), none, .call (.c (.fn 12 [])) [(.t 72)]⟩, ⟨(some 71), none, .mv (.t 73)⟩, ⟨(some 74), none, .ext 0 (.t 71)⟩, ⟨(some 75), none, .ext 1 (.t 71)⟩, ⟨(some 11), none, .alloc [(.v (.int .u32 0)), (.v (.int .u16 0)), (.v (.string ⟨#[]⟩))]⟩, ⟨none, none, .store 3 (.t 11) (.t 74)⟩, ⟨(some 12), none, .mv (.t 75)⟩]) (.drop [32, 75]))
            (.seq (.seq (.reg [⟨(some 76), none, .mv (.t 12)⟩, ⟨(some 77), none, .un .not (.t 76)⟩, ⟨(some 78), none, .mv (.t 77)⟩, ⟨(some 79), (some (78, false)), .fad 1 (.t 11)⟩, ⟨(some 80), (some (78, false)), .load none (.t 79)⟩, ⟨(some 81), (some (78, false)), .mv (.t 6)⟩, ⟨(some 82), (some (78, false)), .bin .neq (.t 80) (.t 81)⟩, ⟨(some 83), none, .pick (.t 78) (.c (.v (.bool true))) (.t 82)⟩, ⟨(some 84), none, .mv (.t 83)⟩, ⟨(some 85), (some (84, false)), .fad 2 (.t 11)⟩, ⟨(some 86), (some (84, false)), .load none (.t 85)⟩, ⟨(some 87), (some (84, false)), .mv (.t 0)⟩, ⟨(some 88), (some (84, false)), .bin .neq (.t 86) (.t 87)⟩, ⟨(some 89), none, .pick (.t 84) (.c (.v (.bool true))) (.t 88)⟩]) (.drop [32, 88]))
             (.cond (.t 89) (.seq (.seq (.reg [⟨(some 4), none, .mv (.c (.v (.bool false)))⟩]) (.drop []))
               .ret)
              .skip)))))))))))
   (.seq (.reg [⟨(some 90), none, .bin .add (.t 31) (.c (.v (.int .i64 1)))⟩, ⟨(some 31), none, .mv (.t 90)⟩]) (.drop [32, 90])))))
def b_fuglemanlaw07_RetainBoots : AC :=
 (.seq (.seq (.reg [⟨(some 4), none, .mv (.c (.v (.bool false)))⟩]) (.drop [2, 4]))
 (.seq (.seq (.seq (.reg [⟨(some 13), none, .call (.c (.fn 7 [])) []⟩, ⟨(some 14), none, .un .not (.t 13)⟩]) (.drop [2, 13]))
   (.cond (.t 14) (.seq (.seq (.reg [⟨(some 4), none, .mv (.c (.v (.bool false)))⟩]) (.drop []))
     .ret)
    .skip))
  (.seq (.seq (.seq (.reg [⟨(some 15), none, .mv (.t 0)⟩, ⟨(some 16), none, .lens (.t 15)⟩, ⟨(some 17), none, .bin .gtr (.t 16) (.c (.v (.int .i64 64)))⟩, ⟨(some 18), none, .mv (.t 17)⟩, ⟨(some 19), (some (18, false)), .mv (.t 1)⟩, ⟨(some 20), (some (18, false)), .len (.t 19)⟩, ⟨(some 21), (some (18, false)), .bin .gtr (.t 20) (.c (.v (.int .i64 30)))⟩, ⟨(some 22), none, .pick (.t 18) (.c (.v (.bool true))) (.t 21)⟩]) (.drop [2, 21]))
    (.cond (.t 22) (.seq (.seq (.reg [⟨(some 4), none, .mv (.c (.v (.bool true)))⟩]) (.drop []))
      .ret)
     .skip))
   (.seq (.seq (.reg [⟨(some 23), none, .call (.c (.fn 15 [])) []⟩, ⟨(some 24), none, .call (.c (.fn 14 [])) [(.t 23)]⟩, ⟨(some 5), none, .mv (.t 24)⟩]) (.drop [6, 24]))
    (.seq (.seq (.seq (.reg [⟨(some 25), none, .mv (.t 5)⟩, ⟨(some 26), none, .mv (.t 0)⟩, ⟨(some 27), none, .call (.c (.fn 10 [])) [(.t 25), (.c (.v (.int .u16 5))), (.t 26)]⟩, ⟨(some 28), none, .bin .neq (.t 27) (.c (.v (.int .i64 0)))⟩]) (.drop [6, 27]))
      (.cond (.t 28) (.seq (.seq (.reg [⟨(some 4), none, .mv (.c (.v (.bool false)))⟩]) (.drop []))
        .ret)
       .skip))
     (.seq (.seq (.reg [⟨(some 6), none, .mv (.c (.v (.int .u16 5)))⟩]) (.drop []))
      (.seq (.seq (.seq (.reg [⟨(some 29), none, .mv (.t 1)⟩, ⟨(some 30), none, .len (.t 29)⟩, ⟨(some 31), none, .mv (.c (.v (.int .i64 0)))⟩]) (.drop []))
        (.block 0 (.loop [0, 5, 6, 29, 30, 31] l_fuglemanlaw07_RetainBoots_0)))
       l_fuglemanlaw07_RetainBoots_1)))))))
def a_fuglemanlaw07_RetainBoots : AFn := ⟨2, b_fuglemanlaw07_RetainBoots, [.t 4], false, false⟩
theorem a_fuglemanlaw07_RetainBoots_ok : compF Tryd.prog Tryd.f5 [[2, 4], [2, 13], [], [2, 21], [], [6, 24], [6, 27], [], [], [], [0, 5, 6, 29, 30, 31], [], [32, 34], [32, 35], [32, 40], [32, 45], [32, 51], [], [32, 53], [32, 63], [], [32, 66], [32, 68], [32, 70], [32, 75], [32, 88], [], [32, 90], []] false false hv = some a_fuglemanlaw07_RetainBoots := by kernel_rfl

/-! (*fugleman/store.Store).Armed: 28 -/
def b_store_Store_Armed : AC :=
 (.seq (.seq (.reg [⟨(some 2), none, .mv (.c (.v (.int .i64 0)))⟩, ⟨(some 3), none, .mv (.c (.v (.bool false)))⟩]) (.drop [1, 3]))
 (.seq (.seq (.seq (.reg [⟨(some 4), none, .mv (.t 0)⟩, ⟨(some 5), none, .eqp false (.t 4) (.c (.v (.pointer none)))⟩, ⟨(some 6), none, .mv (.t 5)⟩, ⟨(some 7), (some (6, false)), .mv (.t 0)⟩, ⟨(some 8), (some (6, false)), .nilck (.t 7)⟩, ⟨(some 9), (some (6, false)), .fad 2 (.t 8)⟩, ⟨(some 10), (some (6, false)), .load none (.t 9)⟩, ⟨(some 11), (some (6, false)), .un .not (.t 10)⟩, ⟨(some 12), none, .pick (.t 6) (.c (.v (.bool true))) (.t 11)⟩]) (.drop [1, 11]))
   (.cond (.t 12) (.seq (.seq (.reg [⟨(some 2), none, .mv (.c (.v (.int .i64 0)))⟩, ⟨(some 3), none, .mv (.c (.v (.bool false)))⟩]) (.drop []))
     .ret)
    .skip))
  (.seq (.seq (.reg [⟨(some 13), none, .mv (.t 0)⟩, ⟨(some 14), none, .nilck (.t 13)⟩, ⟨(some 15), none, .fad 3 (.t 14)⟩, ⟨(some 16), none, .load none (.t 15)⟩, ⟨(some 2), none, .mv (.t 16)⟩, ⟨(some 3), none, .mv (.c (.v (.bool true)))⟩]) (.drop [4, 16]))
   .ret)))
def a_store_Store_Armed : AFn := ⟨1, b_store_Store_Armed, [.t 2, .t 3], false, false⟩
theorem a_store_Store_Armed_ok : compF Tryd.prog Tryd.f28 [[1, 3], [1, 11], [], [4, 16]] false false hv = some a_store_Store_Armed := by kernel_rfl

/-! (*fugleman/store.Store).Power: 29 -/
def b_store_Store_Power : AC :=
 (.seq (.seq (.reg [⟨(some 2), none, .mv (.c (.v (.bool false)))⟩]) (.drop [1, 2]))
 (.seq (.seq (.reg [⟨(some 3), none, .mv (.t 0)⟩, ⟨(some 4), none, .eqp true (.t 3) (.c (.v (.pointer none)))⟩, ⟨(some 5), none, .mv (.t 4)⟩, ⟨(some 6), (some (5, true)), .mv (.t 0)⟩, ⟨(some 7), (some (5, true)), .nilck (.t 6)⟩, ⟨(some 8), (some (5, true)), .fad 1 (.t 7)⟩, ⟨(some 9), (some (5, true)), .load none (.t 8)⟩, ⟨(some 10), (some (5, true)), .un .not (.t 9)⟩, ⟨(some 11), none, .pick (.t 5) (.t 10) (.c (.v (.bool false)))⟩, ⟨(some 2), none, .mv (.t 11)⟩]) (.drop [3, 11]))
  .ret))
def a_store_Store_Power : AFn := ⟨1, b_store_Store_Power, [.t 2], false, false⟩
theorem a_store_Store_Power_ok : compF Tryd.prog Tryd.f29 [[1, 2], [3, 11]] false false hv = some a_store_Store_Power := by kernel_rfl

/-! (*fugleman/fuglemanref02.Eye).Take: 76 -/
def c_fuglemanref02_Eye_Take_0 : AC :=
 (.seq (.seq (.reg [⟨(some 23), none, .mv (.t 0)⟩, ⟨(some 24), none, .nilck (.t 23)⟩, ⟨(some 25), none, .fad 1 (.t 24)⟩, ⟨none, none, .store 1 (.t 25) (.c (.v (.bool true)))⟩]) (.drop [0, 25]))
     (.seq (.seq (.reg [⟨(some 4), none, .mv (.c (.v (.string ⟨#[]⟩)))⟩]) (.drop []))
      .ret))
theorem g_fuglemanref02_Eye_Take_0 {C : CT} {lf : Nat} {ks : List It} {s : St} : type_of% (@Sym.go_as C lf ks s _ _ c_fuglemanref02_Eye_Take_0.eq_1) := Sym.go_as c_fuglemanref02_Eye_Take_0.eq_1
def b_fuglemanref02_Eye_Take : AC :=
 (.seq (.seq (.reg [⟨(some 4), none, .mv (.c (.v (.string ⟨#[]⟩)))⟩]) (.drop [2, 4]))
 (.seq (.seq (.seq (.reg [⟨(some 6), none, .mv (.t 0)⟩, ⟨(some 7), none, .nilck (.t 6)⟩, ⟨(some 8), none, .fad 1 (.t 7)⟩, ⟨(some 9), none, .load none (.t 8)⟩, ⟨(some 10), none, .mv (.t 9)⟩, ⟨(some 11), (some (10, false)), .mv (.t 1)⟩, ⟨(some 12), (some (10, false)), .bin .lss (.t 11) (.c (.v (.int .i64 0)))⟩, ⟨(some 13), none, .pick (.t 10) (.c (.v (.bool true))) (.t 12)⟩, ⟨(some 14), none, .mv (.t 13)⟩, ⟨(some 15), (some (14, false)), .mv (.t 1)⟩, ⟨(some 16), (some (14, false)), .mv (.t 0)⟩, ⟨(some 17), (some (14, false)), .nilck (.t 16)⟩, ⟨(some 18), (some (14, false)), .fad 0 (.t 17)⟩, ⟨(some 19), (some (14, false)), .load none (.t 18)⟩, ⟨(some 20), (some (14, false)), .lens (.t 19)⟩, ⟨(some 21), (some (14, false)), .bin .gtr (.t 15) (.t 20)⟩, ⟨(some 22), none, .pick (.t 14) (.c (.v (.bool true))) (.t 21)⟩]) (.drop [2, 21]))
   (.cond (.t 22) c_fuglemanref02_Eye_Take_0
    .skip))
  (.seq (.seq (.reg [⟨(some 26), none, .mv (.t 0)⟩, ⟨(some 27), none, .nilck (.t 26)⟩, ⟨(some 28), none, .fad 0 (.t 27)⟩, ⟨(some 29), none, .load none (.t 28)⟩, ⟨(some 30), none, .mv (.t 1)⟩, ⟨(some 31), none, .slstr (.t 29) none (some (.t 30))⟩, ⟨(some 5), none, .mv (.t 31)⟩]) (.drop [6, 31]))
   (.seq (.seq (.reg [⟨(some 32), none, .mv (.t 0)⟩, ⟨(some 33), none, .mv (.t 0)⟩, ⟨(some 34), none, .nilck (.t 33)⟩, ⟨(some 35), none, .fad 0 (.t 34)⟩, ⟨(some 36), none, .load none (.t 35)⟩, ⟨(some 37), none, .mv (.t 1)⟩, ⟨(some 38), none, .slstr (.t 36) (some (.t 37)) none⟩, ⟨(some 39), none, .nilck (.t 32)⟩, ⟨(some 40), none, .fad 0 (.t 39)⟩, ⟨none, none, .store 1 (.t 40) (.t 38)⟩]) (.drop [6, 40]))
    (.seq (.seq (.reg [⟨(some 41), none, .mv (.t 5)⟩, ⟨(some 4), none, .mv (.t 41)⟩]) (.drop [5, 41]))
     .ret)))))
def a_fuglemanref02_Eye_Take : AFn := ⟨2, b_fuglemanref02_Eye_Take, [.t 4], false, true⟩
theorem a_fuglemanref02_Eye_Take_ok : compF Tryd.prog Tryd.f76 [[2, 4], [2, 21], [0, 25], [], [6, 31], [6, 40], [5, 41]] false true hv = some a_fuglemanref02_Eye_Take := by kernel_rfl

/-! (*fugleman/fuglemanref02.Eye).Number: 57 -/
def l_fuglemanref02_Eye_Number_1 : AC :=
 (.seq (.seq (.reg [⟨(some 24), none, .mv (.t 6)⟩, ⟨(some 4), none, .mv (.t 24)⟩]) (.drop [5, 24]))
 .ret)
def l_fuglemanref02_Eye_Number_0 : AC :=
 (.seq (.seq (.seq (.reg [⟨(some 11), none, .mv (.t 7)⟩, ⟨(some 12), none, .mv (.t 5)⟩, ⟨(some 13), none, .lens (.t 12)⟩, ⟨(some 14), none, .bin .lss (.t 11) (.t 13)⟩]) (.drop [8, 13]))
  (.cond (.t 14) .skip
   (.exit 0)))
 (.seq (.block 1 (.seq (.reg [⟨(some 17), none, .mv (.t 6)⟩, ⟨(some 18), none, .bin .mul (.t 17) (.c (.v (.int .u32 256)))⟩, ⟨(some 19), none, .mv (.t 5)⟩, ⟨(some 20), none, .mv (.t 7)⟩, ⟨(some 21), none, .ixstr (.t 19) (.t 20)⟩, ⟨(some 22), none, .cvi .u32 (.t 21)⟩, ⟨(some 23), none, .bin .add (.t 18) (.t 22)⟩, ⟨(some 6), none, .mv (.t 23)⟩]) (.drop [8, 23])))
  (.seq (.reg [⟨(some 15), none, .mv (.t 7)⟩, ⟨(some 16), none, .bin .add (.t 15) (.c (.v (.int .i64 1)))⟩, ⟨(some 7), none, .mv (.t 16)⟩]) (.drop [8, 16]))))
def b_fuglemanref02_Eye_Number : AC :=
 (.seq (.seq (.reg [⟨(some 4), none, .mv (.c (.v (.int .u32 0)))⟩]) (.drop [2, 4]))
 (.seq (.seq (.reg [⟨(some 8), none, .mv (.t 0)⟩, ⟨(some 9), none, .mv (.t 1)⟩, ⟨(some 10), none, .call (.c (.fn 76 [])) [(.t 8), (.t 9)]⟩, ⟨(some 5), none, .mv (.t 10)⟩]) (.drop [6, 10]))
  (.seq (.seq (.reg [⟨(some 6), none, .mv (.c (.v (.int .u32 0)))⟩]) (.drop []))
   (.seq (.seq (.seq (.reg [⟨(some 7), none, .mv (.c (.v (.int .i64 0)))⟩]) (.drop []))
     (.block 0 (.loop [5, 6, 7] l_fuglemanref02_Eye_Number_0)))
    l_fuglemanref02_Eye_Number_1))))
def a_fuglemanref02_Eye_Number : AFn := ⟨2, b_fuglemanref02_Eye_Number, [.t 4], false, true⟩
theorem a_fuglemanref02_Eye_Number_ok : compF Tryd.prog Tryd.f57 [[2, 4], [6, 10], [], [], [5, 6, 7], [8, 13], [8, 23], [8, 16], [5, 24]] false true hv = some a_fuglemanref02_Eye_Number := by kernel_rfl

/-! (*fugleman/fuglemanref02.Eye).Small: 58 -/
def b_fuglemanref02_Eye_Small : AC :=
 (.seq (.seq (.reg [⟨(some 2), none, .mv (.c (.v (.string ⟨#[]⟩)))⟩]) (.drop [1, 2]))
 (.seq (.seq (.reg [⟨(some 3), none, .mv (.t 0)⟩, ⟨(some 4), none, .mv (.t 0)⟩, ⟨(some 5), none, .call (.c (.fn 57 [])) [(.t 4), (.c (.v (.int .i64 1)))]⟩, ⟨(some 6), none, .cvi .i64 (.t 5)⟩, ⟨(some 7), none, .call (.c (.fn 76 [])) [(.t 3), (.t 6)]⟩, ⟨(some 2), none, .mv (.t 7)⟩]) (.drop [3, 7]))
  .ret))
def a_fuglemanref02_Eye_Small : AFn := ⟨1, b_fuglemanref02_Eye_Small, [.t 2], false, true⟩
theorem a_fuglemanref02_Eye_Small_ok : compF Tryd.prog Tryd.f58 [[1, 2], [3, 7]] false true hv = some a_fuglemanref02_Eye_Small := by kernel_rfl

/-! fugleman/fuglemanref07.Whole: 38 -/
def b_fuglemanref07_Whole : AC :=
 (.seq (.seq (.reg [⟨(some 2), none, .alloc [(.v (.int .u32 0)), (.v (.int .u16 0)), (.v (.string ⟨#[]⟩))]⟩, ⟨(some 3), none, .mv (.c (.v (.bool false)))⟩]) (.drop [3, 3]))
 (.seq (.seq (.seq (.reg [⟨(some 6), none, .mv (.t 0)⟩, ⟨(some 7), none, .ixstr (.t 6) (.c (.v (.int .i64 0)))⟩, ⟨(some 8), none, .bin .neq (.t 7) (.c (.v (.int .u8 165)))⟩, ⟨(some 9), none, .mv (.t 8)⟩, ⟨(some 10), (some (9, false)), .mv (.t 0)⟩, ⟨(some 11), (some (9, false)), .ixstr (.t 10) (.c (.v (.int .i64 7)))⟩, ⟨(some 12), (some (9, false)), .bin .gtr (.t 11) (.c (.v (.int .u8 64)))⟩, ⟨(some 13), none, .pick (.t 9) (.c (.v (.bool true))) (.t 12)⟩]) (.drop [3, 12]))
   (.cond (.t 13) (.seq (.seq (.reg [⟨(some 14), none, .build [(.v (.int .u32 0)), (.v (.int .u16 0)), (.v (.string ⟨#[]⟩))] []⟩, ⟨none, none, .store 3 (.t 2) (.t 14)⟩, ⟨(some 3), none, .mv (.c (.v (.bool false)))⟩]) (.drop [4, 14]))
     .ret)
    .skip))
  (.seq (.seq (.reg [⟨(some 15), none, .mv (.t 0)⟩, ⟨(some 16), none, .slstr (.t 15) (some (.c (.v (.int .i64 1)))) none⟩, ⟨(some 17), none, .build [(.v (.string ⟨#[]⟩)), (.v (.bool false))] [(0, 1, (.t 16))]⟩, ⟨(some 18), none, .box (.t 17)⟩, ⟨(some 4), none, .mv (.t 18)⟩]) (.drop [5, 18]))
   (.seq (.seq (.reg [⟨(some 19), none, .mv (.t 4)⟩, ⟨(some 20), none, .call (.c (.fn 57 [])) [(.t 19), (.c (.v (.int .i64 4)))]⟩, ⟨(some 21), none, .build [(.v (.int .u32 0)), (.v (.int .u16 0)), (.v (.string ⟨#[]⟩))] [(0, 1, (.t 20))]⟩, ⟨(some 5), none, .alloc [(.v (.int .u32 0)), (.v (.int .u16 0)), (.v (.string ⟨#[]⟩))]⟩, ⟨none, none, .store 3 (.t 5) (.t 21)⟩]) (.drop [6, 21]))
    (.seq (.seq (.reg [⟨(some 22), none, .mv (.t 4)⟩, ⟨(some 23), none, .call (.c (.fn 57 [])) [(.t 22), (.c (.v (.int .i64 2)))]⟩, ⟨(some 24), none, .cvi .u16 (.t 23)⟩, ⟨(some 25), none, .fad 1 (.t 5)⟩, ⟨none, none, .store 1 (.t 25) (.t 24)⟩]) (.drop [6, 25]))
     (.seq (.seq (.reg [⟨(some 26), none, .mv (.t 4)⟩, ⟨(some 27), none, .call (.c (.fn 58 [])) [(.t 26)]⟩, ⟨(some 28), none, .fad 2 (.t 5)⟩, ⟨none, none, .store 1 (.t 28) (.t 27)⟩]) (.drop [6, 28]))
      (.seq (.seq (.regm [(.o, ⟨(some 29), none, .load (some 3) (.t 5)⟩), (.o, ⟨(some 30), none, .load (some 3) (.t 5)⟩), (.o, ⟨(some 32), none, .mv (.t 0)⟩), (.o, ⟨(some 33), none, .slstr (.t 32) (some (.c (.v (.int .i64 1)))) none⟩), (.m, ⟨(some 31), none, .call (.c (.fn 8 [])) [(.t 30)]⟩), (.o, ⟨(some 34), none, .bin .eql (.t 31) (.t 33)⟩), (.o, ⟨none, none, .store 3 (.t 2) (.t 29)⟩), (.o, ⟨(some 3), none, .mv (.t 34)⟩)]) (.drop [4, 34]))
       .ret)))))))
def a_fuglemanref07_Whole : AFn := ⟨1, b_fuglemanref07_Whole, [.cell 2 (some 3), .t 3], false, false⟩
theorem a_fuglemanref07_Whole_ok : compF Tryd.prog Tryd.f38 [[3, 3], [3, 12], [4, 14], [5, 18], [6, 21], [6, 25], [6, 28], [4, 34]] false false hv = some a_fuglemanref07_Whole := by kernel_rfl

/-! fugleman/fuglemanref07.Newest: 32 -/
def b_fuglemanref07_Newest : AC :=
 (.seq (.seq (.reg [⟨(some 2), none, .mv (.c (.v (.int .i64 0)))⟩, ⟨(some 3), none, .alloc [(.v (.int .u32 0)), (.v (.int .u16 0)), (.v (.string ⟨#[]⟩))]⟩]) (.drop [1, 2]))
 (.seq (.seq (.reg [⟨(some 9), none, .mv (.t 0)⟩, ⟨(some 10), none, .slstr (.t 9) none (some (.c (.v (.int .i64 74))))⟩, ⟨(some 11), none, .call (.c (.fn 38 [])) [(.t 10)]⟩, ⟨(some 8), none, .mv (.t 11)⟩, ⟨(some 12), none, .ext 0 (.t 8)⟩, ⟨(some 13), none, .ext 1 (.t 8)⟩, ⟨(some 4), none, .alloc [(.v (.int .u32 0)), (.v (.int .u16 0)), (.v (.string ⟨#[]⟩))]⟩, ⟨none, none, .store 3 (.t 4) (.t 12)⟩, ⟨(some 5), none, .mv (.t 13)⟩]) (.drop [6, 13]))
  (.seq (.seq (.reg [⟨(some 15), none, .mv (.t 0)⟩, ⟨(some 16), none, .slstr (.t 15) (some (.c (.v (.int .i64 74)))) (some (.c (.v (.int .i64 148))))⟩, ⟨(some 17), none, .call (.c (.fn 38 [])) [(.t 16)]⟩, ⟨(some 14), none, .mv (.t 17)⟩, ⟨(some 18), none, .ext 0 (.t 14)⟩, ⟨(some 19), none, .ext 1 (.t 14)⟩, ⟨(some 6), none, .alloc [(.v (.int .u32 0)), (.v (.int .u16 0)), (.v (.string ⟨#[]⟩))]⟩, ⟨none, none, .store 3 (.t 6) (.t 18)⟩, ⟨(some 7), none, .mv (.t 19)⟩]) (.drop [8, 19]))
   (.seq (.seq (.seq (.reg [⟨(some 20), none, .mv (.t 5)⟩, ⟨(some 21), none, .mv (.t 20)⟩, ⟨(some 22), (some (21, true)), .mv (.t 7)⟩, ⟨(some 23), (some (21, true)), .un .not (.t 22)⟩, ⟨(some 24), (some (21, true)), .mv (.t 23)⟩, ⟨(some 25), (some (24, false)), .fad 0 (.t 4)⟩, ⟨(some 26), (some (24, false)), .load none (.t 25)⟩, ⟨(some 27), (some (24, false)), .fad 0 (.t 6)⟩, ⟨(some 28), (some (24, false)), .load none (.t 27)⟩, ⟨(some 29), (some (24, false)), .bin .geq (.t 26) (.t 28)⟩, ⟨(some 30), (some (21, true)), .pick (.t 24) (.c (.v (.bool true))) (.t 29)⟩, ⟨(some 31), none, .pick (.t 21) (.t 30) (.c (.v (.bool false)))⟩]) (.drop [8, 30]))
     (.cond (.t 31) (.seq (.seq (.regm [(.o, ⟨(some 32), none, .load (some 3) (.t 4)⟩), (.o, ⟨(some 2), none, .mv (.c (.v (.int .i64 0)))⟩), (.o, ⟨none, none, .store 3 (.t 3) (.t 32)⟩)]) (.drop [4, 32]))
       .ret)
      .skip))
    (.seq (.seq (.seq (.reg [⟨(some 33), none, .mv (.t 7)⟩]) (.drop []))
      (.cond (.t 33) (.seq (.seq (.regm [(.o, ⟨(some 34), none, .load (some 3) (.t 6)⟩), (.o, ⟨(some 2), none, .mv (.c (.v (.int .i64 1)))⟩), (.o, ⟨none, none, .store 3 (.t 3) (.t 34)⟩)]) (.drop [4, 34]))
        .ret)
       .skip))
     (.seq (.seq (.reg [⟨(some 35), none, .build [(.v (.int .u32 0)), (.v (.int .u16 0)), (.v (.string ⟨#[]⟩))] []⟩, ⟨(some 2), none, .mv (.c (.v (.int .i64 (-1))))⟩, ⟨none, none, .store 3 (.t 3) (.t 35)⟩]) (.drop [4, 35]))
      .ret))))))
def a_fuglemanref07_Newest : AFn := ⟨1, b_fuglemanref07_Newest, [.t 2, .cell 3 (some 3)], false, false⟩
theorem a_fuglemanref07_Newest_ok : compF Tryd.prog Tryd.f32 [[1, 2], [6, 13], [8, 19], [8, 30], [4, 32], [], [4, 34], [4, 35]] false false hv = some a_fuglemanref07_Newest := by kernel_rfl

/-! fugleman/fuglemanref07.Next: 30 -/
def c_fuglemanref07_Next_0 : AC :=
 (.seq (.seq (.seq (.reg [⟨(some 30), none, .fad 1 (.t 11)⟩, ⟨(some 31), none, .load none (.t 30)⟩, ⟨(some 32), none, .bin .eql (.t 31) (.c (.v (.int .u16 65535)))⟩]) (.drop [12, 31]))
         (.cond (.t 32) (.seq (.seq (.reg [⟨(some 33), none, .build [(.v (.int .u32 0)), (.v (.int .u16 0)), (.v (.string ⟨#[]⟩))] []⟩, ⟨none, none, .store 3 (.t 8) (.t 33)⟩, ⟨(some 9), none, .mv (.c (.v (.int .i64 13)))⟩]) (.drop [10, 33]))
           .ret)
          .skip))
        (.seq (.seq (.reg [⟨(some 34), none, .fad 1 (.t 11)⟩, ⟨(some 35), none, .load none (.t 34)⟩, ⟨(some 36), none, .bin .add (.t 35) (.c (.v (.int .u16 1)))⟩, ⟨(some 2), none, .mv (.t 36)⟩]) (.drop [12, 36]))
         (.seq (.reg [⟨(some 37), none, .fad 2 (.t 11)⟩, ⟨(some 38), none, .load none (.t 37)⟩, ⟨(some 3), none, .mv (.t 38)⟩]) (.drop [12, 38]))))
theorem g_fuglemanref07_Next_0 {C : CT} {lf : Nat} {ks : List It} {s : St} : type_of% (@Sym.go_as C lf ks s _ _ c_fuglemanref07_Next_0.eq_1) := Sym.go_as c_fuglemanref07_Next_0.eq_1
def b_fuglemanref07_Next : AC :=
 (.seq (.seq (.reg [⟨(some 8), none, .alloc [(.v (.int .u32 0)), (.v (.int .u16 0)), (.v (.string ⟨#[]⟩))]⟩, ⟨(some 9), none, .mv (.c (.v (.int .i64 0)))⟩]) (.drop [9, 9]))
 (.seq (.seq (.seq (.reg [⟨(some 12), none, .mv (.t 1)⟩, ⟨(some 13), none, .un .not (.t 12)⟩, ⟨(some 14), none, .mv (.t 13)⟩, ⟨(some 15), (some (14, true)), .mv (.t 3)⟩, ⟨(some 16), (some (14, true)), .lens (.t 15)⟩, ⟨(some 17), (some (14, true)), .bin .gtr (.t 16) (.c (.v (.int .i64 64)))⟩, ⟨(some 18), none, .pick (.t 14) (.t 17) (.c (.v (.bool false)))⟩]) (.drop [9, 17]))
   (.cond (.t 18) (.seq (.seq (.reg [⟨(some 19), none, .build [(.v (.int .u32 0)), (.v (.int .u16 0)), (.v (.string ⟨#[]⟩))] []⟩, ⟨none, none, .store 3 (.t 8) (.t 19)⟩, ⟨(some 9), none, .mv (.c (.v (.int .i64 2)))⟩]) (.drop [10, 19]))
     .ret)
    .skip))
  (.seq (.seq (.seq (.reg [⟨(some 20), none, .mv (.t 0)⟩, ⟨(some 21), none, .lens (.t 20)⟩, ⟨(some 22), none, .bin .lss (.t 21) (.c (.v (.int .i64 148)))⟩]) (.drop [9, 21]))
    (.cond (.t 22) (.seq (.seq (.reg [⟨(some 23), none, .build [(.v (.int .u32 0)), (.v (.int .u16 0)), (.v (.string ⟨#[]⟩))] []⟩, ⟨none, none, .store 3 (.t 8) (.t 23)⟩, ⟨(some 9), none, .mv (.c (.v (.int .i64 1)))⟩]) (.drop [10, 23]))
      .ret)
     .skip))
   (.seq (.seq (.reg [⟨(some 25), none, .mv (.t 0)⟩, ⟨(some 26), none, .call (.c (.fn 32 [])) [(.t 25)]⟩, ⟨(some 24), none, .mv (.t 26)⟩, ⟨(some 27), none, .ext 0 (.t 24)⟩, ⟨(some 28), none, .ext 1 (.t 24)⟩, ⟨(some 11), none, .alloc [(.v (.int .u32 0)), (.v (.int .u16 0)), (.v (.string ⟨#[]⟩))]⟩, ⟨(some 10), none, .mv (.t 27)⟩, ⟨none, none, .store 3 (.t 11) (.t 28)⟩]) (.drop [9, 10, 12, 28]))
    (.seq (.seq (.seq (.reg [⟨(some 29), none, .mv (.t 1)⟩]) (.drop []))
      (.cond (.t 29) c_fuglemanref07_Next_0
       .skip))
     (.seq (.seq (.seq (.reg [⟨(some 39), none, .fad 0 (.t 11)⟩, ⟨(some 40), none, .load none (.t 39)⟩, ⟨(some 41), none, .bin .eql (.t 40) (.c (.v (.int .u32 4294967295)))⟩]) (.drop [12, 40]))
       (.cond (.t 41) (.seq (.seq (.reg [⟨(some 42), none, .build [(.v (.int .u32 0)), (.v (.int .u16 0)), (.v (.string ⟨#[]⟩))] []⟩, ⟨none, none, .store 3 (.t 8) (.t 42)⟩, ⟨(some 9), none, .mv (.c (.v (.int .i64 13)))⟩]) (.drop [10, 42]))
         .ret)
        .skip))
      (.seq (.seq (.reg [⟨(some 43), none, .fad 0 (.t 11)⟩, ⟨(some 44), none, .load none (.t 43)⟩, ⟨(some 45), none, .bin .add (.t 44) (.c (.v (.int .u32 1)))⟩, ⟨(some 46), none, .mv (.t 2)⟩, ⟨(some 47), none, .mv (.t 3)⟩, ⟨(some 48), none, .build [(.v (.int .u32 0)), (.v (.int .u16 0)), (.v (.string ⟨#[]⟩))] [(0, 1, (.t 45)), (1, 1, (.t 46)), (2, 1, (.t 47))]⟩, ⟨none, none, .store 3 (.t 8) (.t 48)⟩, ⟨(some 9), none, .mv (.c (.v (.int .i64 0)))⟩]) (.drop [10, 48]))
       .ret)))))))
def a_fuglemanref07_Next : AFn := ⟨4, b_fuglemanref07_Next, [.cell 8 (some 3), .t 9], false, false⟩
theorem a_fuglemanref07_Next_ok : compF Tryd.prog Tryd.f30 [[9, 9], [9, 17], [10, 19], [9, 21], [10, 23], [9, 10, 12, 28], [], [12, 31], [10, 33], [12, 36], [12, 38], [12, 40], [10, 42], [10, 48]] false false hv = some a_fuglemanref07_Next := by kernel_rfl

/-! fugleman/fuglemanref07.Commit: 31 -/
def l_fuglemanref07_Commit_3 : AC :=
 (.seq (.seq (.reg [⟨(some 82), none, .mv (.t 11)⟩, ⟨(some 83), none, .cvbs (.t 82)⟩, ⟨(some 6), none, .mv (.t 83)⟩, ⟨(some 7), none, .mv (.c (.v (.bool true)))⟩]) (.drop [8, 83]))
 .ret)
def l_fuglemanref07_Commit_2 : AC :=
 (.seq (.seq (.seq (.reg [⟨(some 61), none, .mv (.t 16)⟩, ⟨(some 62), none, .mv (.t 12)⟩, ⟨(some 63), none, .len (.t 62)⟩, ⟨(some 64), none, .bin .lss (.t 61) (.t 63)⟩]) (.drop [17, 63]))
  (.cond (.t 64) .skip
   (.exit 2)))
 (.seq (.block 3 (.seq (.seq (.seq (.reg [⟨(some 67), none, .mv (.t 16)⟩, ⟨(some 68), none, .mv (.t 2)⟩, ⟨(some 69), none, .bin .eql (.t 67) (.t 68)⟩]) (.drop [17, 68]))
     (.cond (.t 69) (.seq (.seq (.reg [⟨(some 70), none, .mv (.t 11)⟩, ⟨(some 71), none, .cvbs (.t 70)⟩, ⟨(some 6), none, .mv (.t 71)⟩, ⟨(some 7), none, .mv (.c (.v (.bool false)))⟩]) (.drop [8, 71]))
       .ret)
      .skip))
    (.seq (.regm [(.o, ⟨(some 72), none, .mv (.t 11)⟩), (.o, ⟨(some 73), none, .mv (.t 12)⟩), (.o, ⟨(some 74), none, .mv (.t 16)⟩), (.o, ⟨(some 75), none, .ixs 1 (.t 73) (.t 74)⟩), (.o, ⟨(some 76), none, .load none (.t 75)⟩), (.o, ⟨(some 77), none, .mv (.t 13)⟩), (.o, ⟨(some 78), none, .mv (.t 16)⟩), (.o, ⟨(some 79), none, .ixs 1 (.t 77) (.t 78)⟩), (.o, ⟨(some 80), none, .load none (.t 79)⟩), (.o, ⟨(some 81), none, .ixs 1 (.t 72) (.t 76)⟩), (.o, ⟨none, none, .store 1 (.t 81) (.t 80)⟩)]) (.drop [17, 81]))))
  (.seq (.reg [⟨(some 65), none, .mv (.t 16)⟩, ⟨(some 66), none, .bin .add (.t 65) (.c (.v (.int .i64 1)))⟩, ⟨(some 16), none, .mv (.t 66)⟩]) (.drop [17, 66]))))
def l_fuglemanref07_Commit_1 : AC :=
 (.seq (.seq (.reg [⟨(some 54), none, .mv (.t 12)⟩, ⟨(some 55), none, .mv (.t 8)⟩, ⟨(some 56), none, .row 1 1 [(.v (.int .i64 0))] [(0, 1, (.t 55))]⟩, ⟨(some 57), none, .app 1 8 (.t 54) (.t 56)⟩, ⟨(some 12), none, .mv (.t 57)⟩]) (.drop [14, 57]))
 (.seq (.seq (.reg [⟨(some 58), none, .mv (.t 13)⟩, ⟨(some 59), none, .row 1 1 [(.v (.int .u8 0))] [(0, 1, (.c (.v (.int .u8 165))))]⟩, ⟨(some 60), none, .app 1 1 (.t 58) (.t 59)⟩, ⟨(some 13), none, .mv (.t 60)⟩]) (.drop [14, 60]))
  (.seq (.seq (.seq (.reg [⟨(some 16), none, .mv (.c (.v (.int .i64 0)))⟩]) (.drop []))
    (.block 2 (.loop [2, 11, 12, 13, 16] l_fuglemanref07_Commit_2)))
   l_fuglemanref07_Commit_3)))
def l_fuglemanref07_Commit_0 : AC :=
 (.seq (.seq (.seq (.reg [⟨(some 35), none, .mv (.t 15)⟩, ⟨(some 36), none, .mv (.t 14)⟩, ⟨(some 37), none, .lens (.t 36)⟩, ⟨(some 38), none, .bin .lss (.t 35) (.t 37)⟩]) (.drop [16, 37]))
  (.cond (.t 38) .skip
   (.exit 0)))
 (.seq (.block 1 (.seq (.seq (.reg [⟨(some 41), none, .mv (.t 12)⟩, ⟨(some 42), none, .mv (.t 8)⟩, ⟨(some 43), none, .bin .add (.t 42) (.c (.v (.int .i64 1)))⟩, ⟨(some 44), none, .mv (.t 15)⟩, ⟨(some 45), none, .bin .add (.t 43) (.t 44)⟩, ⟨(some 46), none, .row 1 1 [(.v (.int .i64 0))] [(0, 1, (.t 45))]⟩, ⟨(some 47), none, .app 1 8 (.t 41) (.t 46)⟩, ⟨(some 12), none, .mv (.t 47)⟩]) (.drop [16, 47]))
    (.seq (.reg [⟨(some 48), none, .mv (.t 13)⟩, ⟨(some 49), none, .mv (.t 14)⟩, ⟨(some 50), none, .mv (.t 15)⟩, ⟨(some 51), none, .ixstr (.t 49) (.t 50)⟩, ⟨(some 52), none, .row 1 1 [(.v (.int .u8 0))] [(0, 1, (.t 51))]⟩, ⟨(some 53), none, .app 1 1 (.t 48) (.t 52)⟩, ⟨(some 13), none, .mv (.t 53)⟩]) (.drop [16, 53]))))
  (.seq (.reg [⟨(some 39), none, .mv (.t 15)⟩, ⟨(some 40), none, .bin .add (.t 39) (.c (.v (.int .i64 1)))⟩, ⟨(some 15), none, .mv (.t 40)⟩]) (.drop [16, 40]))))
def b_fuglemanref07_Commit : AC :=
 (.seq (.seq (.reg [⟨(some 4), none, .box (.t 1)⟩, ⟨(some 6), none, .mv (.c (.v (.string ⟨#[]⟩)))⟩, ⟨(some 7), none, .mv (.c (.v (.bool false)))⟩]) (.drop [5, 7]))
 (.seq (.seq (.reg [⟨(some 8), none, .mv (.c (.v (.int .i64 0)))⟩]) (.drop []))
  (.seq (.seq (.seq (.reg [⟨(some 18), none, .mv (.t 0)⟩, ⟨(some 19), none, .call (.c (.fn 32 [])) [(.t 18)]⟩, ⟨(some 17), none, .mv (.t 19)⟩, ⟨(some 20), none, .ext 0 (.t 17)⟩, ⟨(some 21), none, .ext 1 (.t 17)⟩, ⟨(some 10), none, .alloc [(.v (.int .u32 0)), (.v (.int .u16 0)), (.v (.string ⟨#[]⟩))]⟩, ⟨(some 9), none, .mv (.t 20)⟩, ⟨none, none, .store 3 (.t 10) (.t 21)⟩]) (.drop [10, 21]))
    (.seq (.seq (.reg [⟨(some 22), none, .mv (.t 9)⟩, ⟨(some 23), none, .bin .eql (.t 22) (.c (.v (.int .i64 0)))⟩]) (.drop [9, 22]))
     (.cond (.t 23) (.seq (.reg [⟨(some 8), none, .mv (.c (.v (.int .i64 74)))⟩]) (.drop []))
      .skip)))
   (.seq (.seq (.reg [⟨(some 24), none, .mv (.t 0)⟩, ⟨(some 25), none, .cvsb (.t 24)⟩, ⟨(some 11), none, .mv (.t 25)⟩]) (.drop [12, 25]))
    (.seq (.seq (.reg [⟨(some 12), none, .mv (.c (.v (.slice none 0 0)))⟩]) (.drop []))
     (.seq (.seq (.reg [⟨(some 13), none, .mv (.c (.v (.slice none 0 0)))⟩]) (.drop []))
      (.seq (.seq (.reg [⟨(some 26), none, .mv (.t 12)⟩, ⟨(some 27), none, .mv (.t 8)⟩, ⟨(some 28), none, .row 1 1 [(.v (.int .i64 0))] [(0, 1, (.t 27))]⟩, ⟨(some 29), none, .app 1 8 (.t 26) (.t 28)⟩, ⟨(some 12), none, .mv (.t 29)⟩]) (.drop [14, 29]))
       (.seq (.seq (.reg [⟨(some 30), none, .mv (.t 13)⟩, ⟨(some 31), none, .row 1 1 [(.v (.int .u8 0))] [(0, 1, (.c (.v (.int .u8 0))))]⟩, ⟨(some 32), none, .app 1 1 (.t 30) (.t 31)⟩, ⟨(some 13), none, .mv (.t 32)⟩]) (.drop [14, 32]))
        (.seq (.seq (.reg [⟨(some 33), none, .load (some 3) (.t 4)⟩, ⟨(some 34), none, .call (.c (.fn 8 [])) [(.t 33)]⟩, ⟨(some 14), none, .mv (.t 34)⟩]) (.drop [15, 34]))
         (.seq (.seq (.seq (.reg [⟨(some 15), none, .mv (.c (.v (.int .i64 0)))⟩]) (.drop []))
           (.block 0 (.loop [2, 8, 11, 12, 13, 14, 15] l_fuglemanref07_Commit_0)))
          l_fuglemanref07_Commit_1))))))))))
def a_fuglemanref07_Commit : AFn := ⟨3, b_fuglemanref07_Commit, [.t 6, .t 7], false, false⟩
theorem a_fuglemanref07_Commit_ok : compF Tryd.prog Tryd.f31 [[5, 7], [], [10, 21], [9, 22], [], [12, 25], [], [], [14, 29], [14, 32], [15, 34], [], [2, 8, 11, 12, 13, 14, 15], [16, 37], [16, 47], [16, 53], [16, 40], [14, 57], [14, 60], [], [2, 11, 12, 13, 16], [17, 63], [17, 68], [8, 71], [17, 81], [17, 66], [8, 83]] false false hv = some a_fuglemanref07_Commit := by kernel_rfl

/-! fugleman/fuglemanlaw07.one: 20 -/
def c_fuglemanlaw07_one_0 : AC :=
 (.seq (.seq (.reg [⟨(some 22), none, .mv (.t 0)⟩, ⟨(some 23), none, .fad 3 (.t 3)⟩, ⟨(some 24), none, .load none (.t 23)⟩, ⟨(some 25), none, .cvi .i64 (.t 24)⟩, ⟨(some 26), none, .call (.c (.fn 16 [])) [(.t 22), (.t 25)]⟩]) (.drop [6, 26]))
      (.seq (.seq (.reg [⟨(some 27), none, .mv (.t 0)⟩, ⟨(some 28), none, .call (.c (.fn 13 [])) [(.t 27)]⟩, ⟨(some 29), none, .mv (.t 5)⟩, ⟨(some 30), none, .bin .eql (.t 28) (.t 29)⟩, ⟨(some 4), none, .mv (.t 30)⟩]) (.drop [5, 30]))
       .ret))
theorem g_fuglemanlaw07_one_0 {C : CT} {lf : Nat} {ks : List It} {s : St} : type_of% (@Sym.go_as C lf ks s _ _ c_fuglemanlaw07_one_0.eq_1) := Sym.go_as c_fuglemanlaw07_one_0.eq_1
def c_fuglemanlaw07_one_1 : AC :=
 (.seq (.reg [⟨(some 47), none, .mv (.t 0)⟩, ⟨(some 48), none, .call (.c (.fn 11 [])) [(.t 47)]⟩, ⟨(some 46), none, .mv (.t 48)⟩, ⟨(some 49), none, .ext 0 (.t 46)⟩, ⟨(some 50), none, .ext 1 (.t 46)⟩, ⟨none, none, .store 3 (.t 10) (.t 49)⟩, ⟨(some 11), none, .mv (.t 50)⟩]) (.drop [12, 50]))
theorem g_fuglemanlaw07_one_1 {C : CT} {lf : Nat} {ks : List It} {s : St} : type_of% (@Sym.go_as C lf ks s _ _ c_fuglemanlaw07_one_1.eq_1) := Sym.go_as c_fuglemanlaw07_one_1.eq_1
def c_fuglemanlaw07_one_2 : AC :=
 (.seq (.reg [⟨(some 51), none, .mv (.t 0)⟩, ⟨(some 52), none, .fad 1 (.t 3)⟩, ⟨(some 53), none, .load none (.t 52)⟩, ⟨(some 54), none, .fad 2 (.t 3)⟩, ⟨(some 55), none, .load none (.t 54)⟩, ⟨(some 56), none, .call (.c (.fn 10 [])) [(.t 51), (.t 53), (.t 55)]⟩, ⟨(some 11), none, .mv (.t 56)⟩]) (.drop [12, 56]))
theorem g_fuglemanlaw07_one_2 {C : CT} {lf : Nat} {ks : List It} {s : St} : type_of% (@Sym.go_as C lf ks s _ _ c_fuglemanlaw07_one_2.eq_1) := Sym.go_as c_fuglemanlaw07_one_2.eq_1
def c_fuglemanlaw07_one_3 : AC :=
 (.seq (.seq (.reg [⟨(some 69), none, .mv (.t 11)⟩, ⟨(some 70), none, .mv (.t 13)⟩, ⟨(some 71), none, .bin .eql (.t 69) (.t 70)⟩, ⟨(some 72), none, .mv (.t 71)⟩, ⟨(some 73), (some (72, true)), .mv (.t 0)⟩, ⟨(some 74), (some (72, true)), .call (.c (.fn 13 [])) [(.t 73)]⟩, ⟨(some 75), (some (72, true)), .mv (.t 5)⟩, ⟨(some 76), (some (72, true)), .bin .eql (.t 74) (.t 75)⟩, ⟨(some 77), none, .pick (.t 72) (.t 76) (.c (.v (.bool false)))⟩, ⟨(some 78), none, .mv (.t 77)⟩, ⟨(some 79), (some (78, true)), .load (some 3) (.t 10)⟩, ⟨(some 80), (some (78, true)), .build [(.v (.int .u32 0)), (.v (.int .u16 0)), (.v (.string ⟨#[]⟩))] []⟩, ⟨(some 81), (some (78, true)), .eqst false [(0, .i), (1, .i), (2, .s)] (.t 79) (.t 80)⟩, ⟨(some 82), none, .pick (.t 78) (.t 81) (.c (.v (.bool false)))⟩, ⟨(some 83), none, .mv (.t 82)⟩, ⟨(some 84), (some (83, true)), .mv (.t 0)⟩, ⟨(some 85), (some (83, true)), .call (.c (.fn 29 [])) [(.t 84)]⟩, ⟨(some 86), (some (83, true)), .mv (.t 9)⟩, ⟨(some 87), (some (83, true)), .eqb false (.t 85) (.t 86)⟩, ⟨(some 88), none, .pick (.t 83) (.t 87) (.c (.v (.bool false)))⟩, ⟨(some 4), none, .mv (.t 88)⟩]) (.drop [5, 88]))
              .ret)
theorem g_fuglemanlaw07_one_3 {C : CT} {lf : Nat} {ks : List It} {s : St} : type_of% (@Sym.go_as C lf ks s _ _ c_fuglemanlaw07_one_3.eq_1) := Sym.go_as c_fuglemanlaw07_one_3.eq_1
def c_fuglemanlaw07_one_4 : AC :=
 (.seq (.seq (.reg [⟨(some 91), none, .mv (.t 11)⟩, ⟨(some 92), none, .bin .eql (.t 91) (.c (.v (.int .i64 12)))⟩, ⟨(some 93), none, .mv (.t 92)⟩, ⟨(some 94), (some (93, true)), .mv (.t 0)⟩, ⟨(some 95), (some (93, true)), .call (.c (.fn 13 [])) [(.t 94)]⟩, ⟨(some 96), (some (93, true)), .mv (.t 5)⟩, ⟨(some 97), (some (93, true)), .bin .eql (.t 95) (.t 96)⟩, ⟨(some 98), none, .pick (.t 93) (.t 97) (.c (.v (.bool false)))⟩, ⟨(some 99), none, .mv (.t 98)⟩, ⟨(some 100), (some (99, true)), .load (some 3) (.t 10)⟩, ⟨(some 101), (some (99, true)), .build [(.v (.int .u32 0)), (.v (.int .u16 0)), (.v (.string ⟨#[]⟩))] []⟩, ⟨(some 102), (some (99, true)), .eqst false [(0, .i), (1, .i), (2, .s)] (.t 100) (.t 101)⟩, ⟨(some 103), none, .pick (.t 99) (.t 102) (.c (.v (.bool false)))⟩, ⟨(some 4), none, .mv (.t 103)⟩]) (.drop [5, 103]))
               .ret)
theorem g_fuglemanlaw07_one_4 {C : CT} {lf : Nat} {ks : List It} {s : St} : type_of% (@Sym.go_as C lf ks s _ _ c_fuglemanlaw07_one_4.eq_1) := Sym.go_as c_fuglemanlaw07_one_4.eq_1
def c_fuglemanlaw07_one_5 : AC :=
 (.seq (.seq (.reg [⟨(some 131), none, .load (some 3) (.t 10)⟩, ⟨(some 132), none, .build [(.v (.int .u32 0)), (.v (.int .u16 0)), (.v (.string ⟨#[]⟩))] []⟩, ⟨(some 133), none, .eqst false [(0, .i), (1, .i), (2, .s)] (.t 131) (.t 132)⟩, ⟨(some 134), none, .mv (.t 133)⟩, ⟨(some 135), (some (134, true)), .mv (.t 0)⟩, ⟨(some 136), (some (134, true)), .call (.c (.fn 29 [])) [(.t 135)]⟩, ⟨(some 137), (some (134, true)), .un .not (.t 136)⟩, ⟨(some 138), none, .pick (.t 134) (.t 137) (.c (.v (.bool false)))⟩, ⟨(some 4), none, .mv (.t 138)⟩]) (.drop [5, 138]))
                  .ret)
theorem g_fuglemanlaw07_one_5 {C : CT} {lf : Nat} {ks : List It} {s : St} : type_of% (@Sym.go_as C lf ks s _ _ c_fuglemanlaw07_one_5.eq_1) := Sym.go_as c_fuglemanlaw07_one_5.eq_1
def b_fuglemanlaw07_one : AC :=
 (.seq (.seq (.reg [⟨(some 3), none, .box (.t 1)⟩, ⟨(some 4), none, .mv (.c (.v (.bool false)))⟩]) (.drop [4, 4]))
 (.seq (.seq (.reg [⟨(some 16), none, .mv (.t 0)⟩, ⟨(some 17), none, .call (.c (.fn 13 [])) [(.t 16)]⟩, ⟨(some 5), none, .mv (.t 17)⟩]) (.drop [6, 17]))
  (.seq (.seq (.seq (.reg [⟨(some 18), none, .fad 0 (.t 3)⟩, ⟨(some 19), none, .load none (.t 18)⟩, ⟨(some 20), none, .bin .rem (.t 19) (.c (.v (.int .u8 3)))⟩, ⟨(some 21), none, .bin .eql (.t 20) (.c (.v (.int .u8 2)))⟩]) (.drop [6, 20]))
    (.cond (.t 21) c_fuglemanlaw07_one_0
     .skip))
   (.seq (.seq (.reg [⟨(some 31), none, .fad 0 (.t 3)⟩, ⟨(some 32), none, .load none (.t 31)⟩, ⟨(some 33), none, .bin .rem (.t 32) (.c (.v (.int .u8 3)))⟩, ⟨(some 34), none, .bin .eql (.t 33) (.c (.v (.int .u8 1)))⟩, ⟨(some 6), none, .mv (.t 34)⟩]) (.drop [7, 34]))
    (.seq (.seq (.reg [⟨(some 36), none, .mv (.t 0)⟩, ⟨(some 37), none, .call (.c (.fn 28 [])) [(.t 36)]⟩, ⟨(some 35), none, .mv (.t 37)⟩, ⟨(some 38), none, .ext 0 (.t 35)⟩, ⟨(some 39), none, .ext 1 (.t 35)⟩, ⟨(some 7), none, .mv (.t 38)⟩, ⟨(some 8), none, .mv (.t 39)⟩]) (.drop [9, 39]))
     (.seq (.seq (.seq (.reg [⟨(some 40), none, .mv (.t 8)⟩, ⟨(some 41), none, .un .not (.t 40)⟩]) (.drop [8, 40]))
       (.cond (.t 41) (.seq (.reg [⟨(some 7), none, .mv (.c (.v (.int .i64 (-1))))⟩]) (.drop []))
        .skip))
      (.seq (.seq (.reg [⟨(some 42), none, .mv (.t 0)⟩, ⟨(some 43), none, .call (.c (.fn 29 [])) [(.t 42)]⟩, ⟨(some 9), none, .mv (.t 43)⟩]) (.drop [10, 43]))
       (.seq (.seq (.reg [⟨(some 44), none, .build [(.v (.int .u32 0)), (.v (.int .u16 0)), (.v (.string ⟨#[]⟩))] []⟩, ⟨(some 10), none, .alloc [(.v (.int .u32 0)), (.v (.int .u16 0)), (.v (.string ⟨#[]⟩))]⟩, ⟨none, none, .store 3 (.t 10) (.t 44)⟩, ⟨(some 11), none, .mv (.c (.v (.int .i64 0)))⟩]) (.drop [11, 44]))
        (.seq (.seq (.seq (.reg [⟨(some 45), none, .mv (.t 6)⟩]) (.drop []))
          (.cond (.t 45) c_fuglemanlaw07_one_1
           c_fuglemanlaw07_one_2))
         (.seq (.seq (.reg [⟨(some 58), none, .mv (.t 5)⟩, ⟨(some 59), none, .mv (.t 6)⟩, ⟨(some 60), none, .fad 1 (.t 3)⟩, ⟨(some 61), none, .load none (.t 60)⟩, ⟨(some 62), none, .fad 2 (.t 3)⟩, ⟨(some 63), none, .load none (.t 62)⟩, ⟨(some 64), none, .call (.c (.fn 30 [])) [(.t 58), (.t 59), (.t 61), (.t 63)]⟩, ⟨(some 57), none, .mv (.t 64)⟩, ⟨(some 65), none, .ext 0 (.t 57)⟩, ⟨(some 66), none, .ext 1 (.t 57)⟩, ⟨(some 12), none, .alloc [(.v (.int .u32 0)), (.v (.int .u16 0)), (.v (.string ⟨#[]⟩))]⟩, ⟨none, none, .store 3 (.t 12) (.t 65)⟩, ⟨(some 13), none, .mv (.t 66)⟩]) (.drop [14, 66]))
          (.seq (.seq (.seq (.reg [⟨(some 67), none, .mv (.t 13)⟩, ⟨(some 68), none, .bin .neq (.t 67) (.c (.v (.int .i64 0)))⟩]) (.drop [14, 67]))
            (.cond (.t 68) c_fuglemanlaw07_one_3
             .skip))
           (.seq (.seq (.seq (.reg [⟨(some 89), none, .mv (.t 9)⟩, ⟨(some 90), none, .un .not (.t 89)⟩]) (.drop [13, 89]))
             (.cond (.t 90) c_fuglemanlaw07_one_4
              .skip))
            (.seq (.seq (.reg [⟨(some 105), none, .mv (.t 5)⟩, ⟨(some 106), none, .load (some 3) (.t 12)⟩, ⟨(some 107), none, .mv (.t 7)⟩, ⟨(some 108), none, .call (.c (.fn 31 [])) [(.t 105), (.t 106), (.t 107)]⟩, ⟨(some 104), none, .mv (.t 108)⟩, ⟨(some 109), none, .ext 0 (.t 104)⟩, ⟨(some 110), none, .ext 1 (.t 104)⟩, ⟨(some 14), none, .mv (.t 109)⟩, ⟨(some 15), none, .mv (.t 110)⟩]) (.drop [16, 110]))
             (.seq (.seq (.seq (.reg [⟨(some 111), none, .mv (.t 0)⟩, ⟨(some 112), none, .call (.c (.fn 13 [])) [(.t 111)]⟩, ⟨(some 113), none, .mv (.t 14)⟩, ⟨(some 114), none, .bin .neq (.t 112) (.t 113)⟩, ⟨(some 115), none, .mv (.t 114)⟩, ⟨(some 116), (some (115, false)), .mv (.t 11)⟩, ⟨(some 117), (some (115, false)), .bin .eql (.t 116) (.c (.v (.int .i64 0)))⟩, ⟨(some 118), (some (115, false)), .mv (.t 15)⟩, ⟨(some 119), (some (115, false)), .eqb true (.t 117) (.t 118)⟩, ⟨(some 120), none, .pick (.t 115) (.c (.v (.bool true))) (.t 119)⟩, ⟨(some 121), none, .mv (.t 120)⟩, ⟨(some 122), (some (121, false)), .mv (.t 11)⟩, ⟨(some 123), (some (121, false)), .bin .neq (.t 122) (.c (.v (.int .i64 0)))⟩, ⟨(some 124), (some (121, false)), .mv (.t 123)⟩, ⟨(some 125), (some (124, true)), .mv (.t 11)⟩, ⟨(some 126), (some (124, true)), .bin .neq (.t 125) (.c (.v (.int .i64 12)))⟩, ⟨(some 127), (some (121, false)), .pick (.t 124) (.t 126) (.c (.v (.bool false)))⟩, ⟨(some 128), none, .pick (.t 121) (.c (.v (.bool true))) (.t 127)⟩]) (.drop [16, 127]))
               (.cond (.t 128) (.seq (.seq (.reg [⟨(some 4), none, .mv (.c (.v (.bool false)))⟩]) (.drop []))
                 .ret)
                .skip))
              (.seq (.seq (.seq (.reg [⟨(some 129), none, .mv (.t 15)⟩, ⟨(some 130), none, .un .not (.t 129)⟩]) (.drop [13, 129]))
                (.cond (.t 130) c_fuglemanlaw07_one_5
                 .skip))
               (.seq (.seq (.reg [⟨(some 139), none, .mv (.t 6)⟩, ⟨(some 140), none, .un .not (.t 139)⟩, ⟨(some 141), none, .mv (.t 140)⟩, ⟨(some 142), (some (141, false)), .load (some 3) (.t 10)⟩, ⟨(some 143), (some (141, false)), .load (some 3) (.t 12)⟩, ⟨(some 144), (some (141, false)), .eqst false [(0, .i), (1, .i), (2, .s)] (.t 142) (.t 143)⟩, ⟨(some 145), none, .pick (.t 141) (.c (.v (.bool true))) (.t 144)⟩, ⟨(some 4), none, .mv (.t 145)⟩]) (.drop [5, 145]))
                .ret))))))))))))))))
def a_fuglemanlaw07_one : AFn := ⟨2, b_fuglemanlaw07_one, [.t 4], false, true⟩
theorem a_fuglemanlaw07_one_ok : compF Tryd.prog Tryd.f20 [[4, 4], [6, 17], [6, 20], [6, 26], [5, 30], [7, 34], [9, 39], [8, 40], [], [10, 43], [11, 44], [], [12, 50], [12, 56], [14, 66], [14, 67], [5, 88], [13, 89], [5, 103], [16, 110], [16, 127], [], [13, 129], [5, 138], [5, 145]] false true hv = some a_fuglemanlaw07_one := by kernel_rfl

/-! fugleman/fuglemanlaw07.load: 21 -/
def c_fuglemanlaw07_load_0 : AC :=
 (.seq (.seq (.reg [⟨(some 18), none, .mv (.t 4)⟩, ⟨(some 19), none, .un .not (.t 18)⟩, ⟨(some 20), none, .mv (.t 19)⟩, ⟨(some 21), (some (20, true)), .load (some 3) (.t 3)⟩, ⟨(some 22), (some (20, true)), .build [(.v (.int .u32 0)), (.v (.int .u16 0)), (.v (.string ⟨#[]⟩))] []⟩, ⟨(some 23), (some (20, true)), .eqst false [(0, .i), (1, .i), (2, .s)] (.t 21) (.t 22)⟩, ⟨(some 24), none, .pick (.t 20) (.t 23) (.c (.v (.bool false)))⟩, ⟨(some 2), none, .mv (.t 24)⟩]) (.drop [3, 24]))
       .ret)
theorem g_fuglemanlaw07_load_0 {C : CT} {lf : Nat} {ks : List It} {s : St} : type_of% (@Sym.go_as C lf ks s _ _ c_fuglemanlaw07_load_0.eq_1) := Sym.go_as c_fuglemanlaw07_load_0.eq_1
def b_fuglemanlaw07_load : AC :=
 (.seq (.seq (.reg [⟨(some 2), none, .mv (.c (.v (.bool false)))⟩]) (.drop [1, 2]))
 (.seq (.seq (.reg [⟨(some 9), none, .mv (.t 0)⟩, ⟨(some 10), none, .call (.c (.fn 12 [])) [(.t 9)]⟩, ⟨(some 8), none, .mv (.t 10)⟩, ⟨(some 11), none, .ext 0 (.t 8)⟩, ⟨(some 12), none, .ext 1 (.t 8)⟩, ⟨(some 3), none, .alloc [(.v (.int .u32 0)), (.v (.int .u16 0)), (.v (.string ⟨#[]⟩))]⟩, ⟨none, none, .store 3 (.t 3) (.t 11)⟩, ⟨(some 4), none, .mv (.t 12)⟩]) (.drop [5, 12]))
  (.seq (.seq (.reg [⟨(some 13), none, .mv (.t 0)⟩, ⟨(some 14), none, .call (.c (.fn 13 [])) [(.t 13)]⟩, ⟨(some 5), none, .mv (.t 14)⟩]) (.drop [6, 14]))
   (.seq (.seq (.seq (.reg [⟨(some 15), none, .mv (.t 5)⟩, ⟨(some 16), none, .lens (.t 15)⟩, ⟨(some 17), none, .bin .lss (.t 16) (.c (.v (.int .i64 148)))⟩]) (.drop [6, 16]))
     (.cond (.t 17) c_fuglemanlaw07_load_0
      .skip))
    (.seq (.seq (.reg [⟨(some 26), none, .mv (.t 5)⟩, ⟨(some 27), none, .call (.c (.fn 32 [])) [(.t 26)]⟩, ⟨(some 25), none, .mv (.t 27)⟩, ⟨(some 28), none, .ext 0 (.t 25)⟩, ⟨(some 29), none, .ext 1 (.t 25)⟩, ⟨(some 7), none, .alloc [(.v (.int .u32 0)), (.v (.int .u16 0)), (.v (.string ⟨#[]⟩))]⟩, ⟨(some 6), none, .mv (.t 28)⟩, ⟨none, none, .store 3 (.t 7) (.t 29)⟩]) (.drop [8, 29]))
     (.seq (.seq (.reg [⟨(some 30), none, .mv (.t 4)⟩, ⟨(some 31), none, .mv (.t 6)⟩, ⟨(some 32), none, .bin .geq (.t 31) (.c (.v (.int .i64 0)))⟩, ⟨(some 33), none, .eqb false (.t 30) (.t 32)⟩, ⟨(some 34), none, .mv (.t 33)⟩, ⟨(some 35), (some (34, true)), .load (some 3) (.t 3)⟩, ⟨(some 36), (some (34, true)), .load (some 3) (.t 7)⟩, ⟨(some 37), (some (34, true)), .eqst false [(0, .i), (1, .i), (2, .s)] (.t 35) (.t 36)⟩, ⟨(some 38), none, .pick (.t 34) (.t 37) (.c (.v (.bool false)))⟩, ⟨(some 2), none, .mv (.t 38)⟩]) (.drop [3, 38]))
      .ret))))))
def a_fuglemanlaw07_load : AFn := ⟨1, b_fuglemanlaw07_load, [.t 2], false, false⟩
theorem a_fuglemanlaw07_load_ok : compF Tryd.prog Tryd.f21 [[1, 2], [5, 12], [6, 14], [6, 16], [3, 24], [8, 29], [3, 38]] false false hv = some a_fuglemanlaw07_load := by kernel_rfl

/-! fugleman/fuglemanlaw07.RetainRuns: 6 -/
def l_fuglemanlaw07_RetainRuns_1 : AC :=
 (.seq (.seq (.reg [⟨(some 42), none, .mv (.t 5)⟩, ⟨(some 43), none, .call (.c (.fn 21 [])) [(.t 42)]⟩, ⟨(some 4), none, .mv (.t 43)⟩]) (.drop [5, 43]))
 .ret)
def l_fuglemanlaw07_RetainRuns_0 : AC :=
 (.seq (.seq (.reg [⟨(some 23), none, .bin .lss (.t 22) (.t 21)⟩]) (.drop []))
 (.seq (.cond (.t 23) .skip
   (.exit 0))
  (.seq (.block 1 (.seq (.seq (.reg [⟨(some 24), none, .ixs 4 (.t 20) (.t 22)⟩, ⟨(some 25), none, .load (some 4) (.t 24)⟩, ⟨(some 7), none, .alloc [(.v (.int .u8 0)), (.v (.int .u16 0)), (.v (.string ⟨#[]⟩)), (.v (.int .u8 0))]⟩, ⟨none, none, .store 4 (.t 7) (.t 25)⟩]) (.drop [23, 25]))
     (.seq (.seq (.seq (.reg [⟨(some 26), none, .fad 2 (.t 7)⟩, ⟨(some 27), none, .load none (.t 26)⟩, ⟨(some 28), none, .lens (.t 27)⟩, ⟨(some 29), none, .bin .gtr (.t 28) (.c (.v (.int .i64 100)))⟩]) (.drop [23, 28]))
       (.cond (.t 29) (.seq (.seq (.reg [⟨(some 4), none, .mv (.c (.v (.bool true)))⟩]) (.drop []))
         .ret)
        .skip))
      (.seq (.seq (.seq (.reg [⟨(some 30), none, .mv (.t 5)⟩, ⟨(some 31), none, .load (some 4) (.t 7)⟩, ⟨(some 32), none, .call (.c (.fn 20 [])) [(.t 30), (.t 31)]⟩, ⟨(some 33), none, .un .not (.t 32)⟩, ⟨(some 34), none, .mv (.t 33)⟩, ⟨(some 35), (some (34, false)), .mv (.t 5)⟩, ⟨(some 36), (some (34, false)), .call (.c (.fn 21 [])) [(.t 35)]⟩, ⟨(some 37), (some (34, false)), .un .not (.t 36)⟩, ⟨(some 38), none, .pick (.t 34) (.c (.v (.bool true))) (.t 37)⟩]) (.drop [23, 37]))
        (.cond (.t 38) (.seq (.seq (.reg [⟨(some 4), none, .mv (.c (.v (.bool false)))⟩]) (.drop []))
          .ret)
         .skip))
       (.seq (.reg [⟨(some 39), none, .mv (.t 5)⟩, ⟨(some 40), none, .call (.c (.fn 19 [])) [(.t 39)]⟩]) (.drop [23, 40]))))))
   (.seq (.reg [⟨(some 41), none, .bin .add (.t 22) (.c (.v (.int .i64 1)))⟩, ⟨(some 22), none, .mv (.t 41)⟩]) (.drop [23, 41])))))
def b_fuglemanlaw07_RetainRuns : AC :=
 (.seq (.seq (.reg [⟨(some 4), none, .mv (.c (.v (.bool false)))⟩]) (.drop [2, 4]))
 (.seq (.seq (.seq (.reg [⟨(some 8), none, .call (.c (.fn 7 [])) []⟩, ⟨(some 9), none, .un .not (.t 8)⟩]) (.drop [2, 8]))
   (.cond (.t 9) (.seq (.seq (.reg [⟨(some 4), none, .mv (.c (.v (.bool false)))⟩]) (.drop []))
     .ret)
    .skip))
  (.seq (.seq (.seq (.reg [⟨(some 10), none, .mv (.t 0)⟩, ⟨(some 11), none, .lens (.t 10)⟩, ⟨(some 12), none, .bin .gtr (.t 11) (.c (.v (.int .i64 400)))⟩, ⟨(some 13), none, .mv (.t 12)⟩, ⟨(some 14), (some (13, false)), .mv (.t 1)⟩, ⟨(some 15), (some (13, false)), .len (.t 14)⟩, ⟨(some 16), (some (13, false)), .bin .gtr (.t 15) (.c (.v (.int .i64 20)))⟩, ⟨(some 17), none, .pick (.t 13) (.c (.v (.bool true))) (.t 16)⟩]) (.drop [2, 16]))
    (.cond (.t 17) (.seq (.seq (.reg [⟨(some 4), none, .mv (.c (.v (.bool true)))⟩]) (.drop []))
      .ret)
     .skip))
   (.seq (.seq (.reg [⟨(some 18), none, .mv (.t 0)⟩, ⟨(some 19), none, .call (.c (.fn 9 [])) [(.t 18)]⟩, ⟨(some 5), none, .mv (.t 19)⟩]) (.drop [6, 19]))
    (.seq (.seq (.seq (.reg [⟨(some 20), none, .mv (.t 1)⟩, ⟨(some 21), none, .len (.t 20)⟩, ⟨(some 22), none, .mv (.c (.v (.int .i64 0)))⟩]) (.drop []))
      (.block 0 (.loop [5, 20, 21, 22] l_fuglemanlaw07_RetainRuns_0)))
     l_fuglemanlaw07_RetainRuns_1)))))
def a_fuglemanlaw07_RetainRuns : AFn := ⟨2, b_fuglemanlaw07_RetainRuns, [.t 4], false, false⟩
theorem a_fuglemanlaw07_RetainRuns_ok : compF Tryd.prog Tryd.f6 [[2, 4], [2, 8], [], [2, 16], [], [6, 19], [], [5, 20, 21, 22], [], [23, 25], [23, 28], [], [23, 37], [], [23, 40], [23, 41], [5, 43]] false false hv = some a_fuglemanlaw07_RetainRuns := by kernel_rfl

def tab : Nat → Option AFn
  | 15 => some a_retain_Size
  | 27 => some a_store_Store_Len
  | 37 => some a_store_Store_there
  | 26 => some a_store_Store_Read
  | 89 => some a_crc_quarter
  | 82 => some a_crc_More
  | 66 => some a_crc_Sum
  | 48 => some a_crc_Open
  | 49 => some a_octets_NewEye
  | 55 => some a_octets_Eye_Take
  | 67 => some a_octets_Eye_number
  | 50 => some a_octets_Eye_Four
  | 51 => some a_octets_Eye_Two
  | 68 => some a_octets_Eye_Byte
  | 52 => some a_octets_Eye_Small
  | 53 => some a_octets_Eye_Blind
  | 69 => some a_strings_trimLeftByte
  | 70 => some a_strings_trimRightByte
  | 71 => some a_strings_makeASCIISet
  | 83 => some a_strings_asciiSet_contains
  | 72 => some a_strings_trimLeftASCII
  | 73 => some a_strings_trimRightASCII
  | 84 => some a_utf8_DecodeRuneInString
  | 97 => some a_stringslite_IndexByte
  | 93 => some a_strings_IndexByte
  | 94 => some a_utf8_ValidRune
  | 95 => some a_bytealg_Cutover
  | 85 => some a_strings_ContainsRune
  | 74 => some a_strings_trimLeftUnicode
  | 92 => some a_utf8_RuneStart
  | 86 => some a_utf8_DecodeLastRuneInString
  | 75 => some a_strings_trimRightUnicode
  | 54 => some a_strings_Trim
  | 56 => some a_octets_Eye_Left
  | 36 => some a_retain_parse
  | 25 => some a_retain_newest
  | 40 => some a_octets_NewPen
  | 59 => some a_octets_Pen_Byte
  | 42 => some a_octets_Pen_Two
  | 41 => some a_octets_Pen_Four
  | 44 => some a_octets_Pen_Text
  | 43 => some a_octets_Pen_Small
  | 77 => some a_bits_Mul32
  | 78 => some a_bits_Mul64
  | 60 => some a_bits_Mul
  | 79 => some a_stringslite_HasPrefix
  | 61 => some a_strings_HasPrefix
  | 64 => some a_strings_Builder_Len
  | 46 => some a_crc_Sealed
  | 47 => some a_octets_Pen_String
  | 34 => some a_retain_body
  | 17 => some a_store_Store_Off
  | 35 => some a_store_Store_Write
  | 24 => some a_retain_commit
  | 10 => some a_retain_Commit
  | 11 => some a_retain_Boot
  | 12 => some a_retain_Load
  | 14 => some a_store_New
  | 18 => some a_retain_Cost
  | 7 => some a_fuglemanlaw07_awake
  | 22 => some a_fuglemanref02_Bytes
  | 39 => some a_fuglemanref01_More
  | 33 => some a_fuglemanref01_Sum
  | 23 => some a_fuglemanref01_Sealed
  | 8 => some a_fuglemanref07_Slot
  | 9 => some a_store_Of
  | 13 => some a_fuglemanlaw07_bytes
  | 3 => some a_fuglemanlaw07_RetainEnds
  | 16 => some a_store_Store_Arm
  | 19 => some a_store_Store_On
  | 4 => some a_fuglemanlaw07_RetainTears
  | 5 => some a_fuglemanlaw07_RetainBoots
  | 28 => some a_store_Store_Armed
  | 29 => some a_store_Store_Power
  | 76 => some a_fuglemanref02_Eye_Take
  | 57 => some a_fuglemanref02_Eye_Number
  | 58 => some a_fuglemanref02_Eye_Small
  | 38 => some a_fuglemanref07_Whole
  | 32 => some a_fuglemanref07_Newest
  | 30 => some a_fuglemanref07_Next
  | 31 => some a_fuglemanref07_Commit
  | 20 => some a_fuglemanlaw07_one
  | 21 => some a_fuglemanlaw07_load
  | 6 => some a_fuglemanlaw07_RetainRuns
  | _ => none
def T : Tb := ⟨tab, Ext.ext⟩
theorem tableOK : TableOK Tryd.prog T := by
  refine ⟨fun f fn h => ?_, Ext.ext_ok⟩
  change tab f = some fn at h
  unfold tab at h
  split at h
  · cases h; exact ⟨_, _, _, _, _, Tryd.func15, a_retain_Size_ok⟩
  · cases h; exact ⟨_, _, _, _, _, Tryd.func27, a_store_Store_Len_ok⟩
  · cases h; exact ⟨_, _, _, _, _, Tryd.func37, a_store_Store_there_ok⟩
  · cases h; exact ⟨_, _, _, _, _, Tryd.func26, a_store_Store_Read_ok⟩
  · cases h; exact ⟨_, _, _, _, _, Tryd.func89, a_crc_quarter_ok⟩
  · cases h; exact ⟨_, _, _, _, _, Tryd.func82, a_crc_More_ok⟩
  · cases h; exact ⟨_, _, _, _, _, Tryd.func66, a_crc_Sum_ok⟩
  · cases h; exact ⟨_, _, _, _, _, Tryd.func48, a_crc_Open_ok⟩
  · cases h; exact ⟨_, _, _, _, _, Tryd.func49, a_octets_NewEye_ok⟩
  · cases h; exact ⟨_, _, _, _, _, Tryd.func55, a_octets_Eye_Take_ok⟩
  · cases h; exact ⟨_, _, _, _, _, Tryd.func67, a_octets_Eye_number_ok⟩
  · cases h; exact ⟨_, _, _, _, _, Tryd.func50, a_octets_Eye_Four_ok⟩
  · cases h; exact ⟨_, _, _, _, _, Tryd.func51, a_octets_Eye_Two_ok⟩
  · cases h; exact ⟨_, _, _, _, _, Tryd.func68, a_octets_Eye_Byte_ok⟩
  · cases h; exact ⟨_, _, _, _, _, Tryd.func52, a_octets_Eye_Small_ok⟩
  · cases h; exact ⟨_, _, _, _, _, Tryd.func53, a_octets_Eye_Blind_ok⟩
  · cases h; exact ⟨_, _, _, _, _, Tryd.func69, a_strings_trimLeftByte_ok⟩
  · cases h; exact ⟨_, _, _, _, _, Tryd.func70, a_strings_trimRightByte_ok⟩
  · cases h; exact ⟨_, _, _, _, _, Tryd.func71, a_strings_makeASCIISet_ok⟩
  · cases h; exact ⟨_, _, _, _, _, Tryd.func83, a_strings_asciiSet_contains_ok⟩
  · cases h; exact ⟨_, _, _, _, _, Tryd.func72, a_strings_trimLeftASCII_ok⟩
  · cases h; exact ⟨_, _, _, _, _, Tryd.func73, a_strings_trimRightASCII_ok⟩
  · cases h; exact ⟨_, _, _, _, _, Tryd.func84, a_utf8_DecodeRuneInString_ok⟩
  · cases h; exact ⟨_, _, _, _, _, Tryd.func97, a_stringslite_IndexByte_ok⟩
  · cases h; exact ⟨_, _, _, _, _, Tryd.func93, a_strings_IndexByte_ok⟩
  · cases h; exact ⟨_, _, _, _, _, Tryd.func94, a_utf8_ValidRune_ok⟩
  · cases h; exact ⟨_, _, _, _, _, Tryd.func95, a_bytealg_Cutover_ok⟩
  · cases h; exact ⟨_, _, _, _, _, Tryd.func85, a_strings_ContainsRune_ok⟩
  · cases h; exact ⟨_, _, _, _, _, Tryd.func74, a_strings_trimLeftUnicode_ok⟩
  · cases h; exact ⟨_, _, _, _, _, Tryd.func92, a_utf8_RuneStart_ok⟩
  · cases h; exact ⟨_, _, _, _, _, Tryd.func86, a_utf8_DecodeLastRuneInString_ok⟩
  · cases h; exact ⟨_, _, _, _, _, Tryd.func75, a_strings_trimRightUnicode_ok⟩
  · cases h; exact ⟨_, _, _, _, _, Tryd.func54, a_strings_Trim_ok⟩
  · cases h; exact ⟨_, _, _, _, _, Tryd.func56, a_octets_Eye_Left_ok⟩
  · cases h; exact ⟨_, _, _, _, _, Tryd.func36, a_retain_parse_ok⟩
  · cases h; exact ⟨_, _, _, _, _, Tryd.func25, a_retain_newest_ok⟩
  · cases h; exact ⟨_, _, _, _, _, Tryd.func40, a_octets_NewPen_ok⟩
  · cases h; exact ⟨_, _, _, _, _, Tryd.func59, a_octets_Pen_Byte_ok⟩
  · cases h; exact ⟨_, _, _, _, _, Tryd.func42, a_octets_Pen_Two_ok⟩
  · cases h; exact ⟨_, _, _, _, _, Tryd.func41, a_octets_Pen_Four_ok⟩
  · cases h; exact ⟨_, _, _, _, _, Tryd.func44, a_octets_Pen_Text_ok⟩
  · cases h; exact ⟨_, _, _, _, _, Tryd.func43, a_octets_Pen_Small_ok⟩
  · cases h; exact ⟨_, _, _, _, _, Tryd.func77, a_bits_Mul32_ok⟩
  · cases h; exact ⟨_, _, _, _, _, Tryd.func78, a_bits_Mul64_ok⟩
  · cases h; exact ⟨_, _, _, _, _, Tryd.func60, a_bits_Mul_ok⟩
  · cases h; exact ⟨_, _, _, _, _, Tryd.func79, a_stringslite_HasPrefix_ok⟩
  · cases h; exact ⟨_, _, _, _, _, Tryd.func61, a_strings_HasPrefix_ok⟩
  · cases h; exact ⟨_, _, _, _, _, Tryd.func64, a_strings_Builder_Len_ok⟩
  · cases h; exact ⟨_, _, _, _, _, Tryd.func46, a_crc_Sealed_ok⟩
  · cases h; exact ⟨_, _, _, _, _, Tryd.func47, a_octets_Pen_String_ok⟩
  · cases h; exact ⟨_, _, _, _, _, Tryd.func34, a_retain_body_ok⟩
  · cases h; exact ⟨_, _, _, _, _, Tryd.func17, a_store_Store_Off_ok⟩
  · cases h; exact ⟨_, _, _, _, _, Tryd.func35, a_store_Store_Write_ok⟩
  · cases h; exact ⟨_, _, _, _, _, Tryd.func24, a_retain_commit_ok⟩
  · cases h; exact ⟨_, _, _, _, _, Tryd.func10, a_retain_Commit_ok⟩
  · cases h; exact ⟨_, _, _, _, _, Tryd.func11, a_retain_Boot_ok⟩
  · cases h; exact ⟨_, _, _, _, _, Tryd.func12, a_retain_Load_ok⟩
  · cases h; exact ⟨_, _, _, _, _, Tryd.func14, a_store_New_ok⟩
  · cases h; exact ⟨_, _, _, _, _, Tryd.func18, a_retain_Cost_ok⟩
  · cases h; exact ⟨_, _, _, _, _, Tryd.func7, a_fuglemanlaw07_awake_ok⟩
  · cases h; exact ⟨_, _, _, _, _, Tryd.func22, a_fuglemanref02_Bytes_ok⟩
  · cases h; exact ⟨_, _, _, _, _, Tryd.func39, a_fuglemanref01_More_ok⟩
  · cases h; exact ⟨_, _, _, _, _, Tryd.func33, a_fuglemanref01_Sum_ok⟩
  · cases h; exact ⟨_, _, _, _, _, Tryd.func23, a_fuglemanref01_Sealed_ok⟩
  · cases h; exact ⟨_, _, _, _, _, Tryd.func8, a_fuglemanref07_Slot_ok⟩
  · cases h; exact ⟨_, _, _, _, _, Tryd.func9, a_store_Of_ok⟩
  · cases h; exact ⟨_, _, _, _, _, Tryd.func13, a_fuglemanlaw07_bytes_ok⟩
  · cases h; exact ⟨_, _, _, _, _, Tryd.func3, a_fuglemanlaw07_RetainEnds_ok⟩
  · cases h; exact ⟨_, _, _, _, _, Tryd.func16, a_store_Store_Arm_ok⟩
  · cases h; exact ⟨_, _, _, _, _, Tryd.func19, a_store_Store_On_ok⟩
  · cases h; exact ⟨_, _, _, _, _, Tryd.func4, a_fuglemanlaw07_RetainTears_ok⟩
  · cases h; exact ⟨_, _, _, _, _, Tryd.func5, a_fuglemanlaw07_RetainBoots_ok⟩
  · cases h; exact ⟨_, _, _, _, _, Tryd.func28, a_store_Store_Armed_ok⟩
  · cases h; exact ⟨_, _, _, _, _, Tryd.func29, a_store_Store_Power_ok⟩
  · cases h; exact ⟨_, _, _, _, _, Tryd.func76, a_fuglemanref02_Eye_Take_ok⟩
  · cases h; exact ⟨_, _, _, _, _, Tryd.func57, a_fuglemanref02_Eye_Number_ok⟩
  · cases h; exact ⟨_, _, _, _, _, Tryd.func58, a_fuglemanref02_Eye_Small_ok⟩
  · cases h; exact ⟨_, _, _, _, _, Tryd.func38, a_fuglemanref07_Whole_ok⟩
  · cases h; exact ⟨_, _, _, _, _, Tryd.func32, a_fuglemanref07_Newest_ok⟩
  · cases h; exact ⟨_, _, _, _, _, Tryd.func30, a_fuglemanref07_Next_ok⟩
  · cases h; exact ⟨_, _, _, _, _, Tryd.func31, a_fuglemanref07_Commit_ok⟩
  · cases h; exact ⟨_, _, _, _, _, Tryd.func20, a_fuglemanlaw07_one_ok⟩
  · cases h; exact ⟨_, _, _, _, _, Tryd.func21, a_fuglemanlaw07_load_ok⟩
  · cases h; exact ⟨_, _, _, _, _, Tryd.func6, a_fuglemanlaw07_RetainRuns_ok⟩
  · cases h
theorem mixed : Tryd.prog.follows .mixedOrders = true := by kernel_rfl
theorem calls (k : Nat) : CallsOK Tryd.prog (acall T k) := acall_ok mixed tableOK k
end Go.Proofs.YthdiljjbcaleoaaDoor.Tab

/- Bytes and sums, plain. -/
namespace Go.Proofs.YthdiljjbcaleoaaDoor.Ret
open Go Go.Proofs.YthdiljjbcaleoaaDoor.Sym
set_option linter.unusedVariables false
set_option linter.unusedSimpArgs false
/-- Bytes. -/
def By (l : List Int) : Prop := ∀ x ∈ l, 0 ≤ x ∧ x ≤ 255
theorem By.app {a b : List Int} (ha : By a) (hb : By b) : By (a ++ b) := fun x hx => by
  rcases List.mem_append.1 hx with h | h
  · exact ha x h
  · exact hb x h
theorem By.take {a : List Int} (h : By a) (n : Nat) : By (a.take n) := fun x hx => h x (List.mem_of_mem_take hx)
theorem By.drop {a : List Int} (h : By a) (n : Nat) : By (a.drop n) := fun x hx => h x (List.mem_of_mem_drop hx)
theorem By.rep (n : Nat) : By (List.replicate n 0) := fun x hx => by rw [List.eq_of_mem_replicate hx]; decide
theorem By.cons {x : Int} {l : List Int} (hx : 0 ≤ x ∧ x ≤ 255) (h : By l) : By (x :: l) := fun y hy => by
  rcases List.mem_cons.1 hy with e | e
  · rw [e]; exact hx
  · exact h y e
theorem By.nil : By [] := fun x hx => by cases hx
theorem By.get {l : List Int} (h : By l) {i : Nat} (hi : i < l.length) : 0 ≤ l[i] ∧ l[i] ≤ 255 := h _ (List.getElem_mem hi)
theorem By.set {l : List Int} (h : By l) (i : Nat) {x : Int} (hx : 0 ≤ x ∧ x ≤ 255) : By (l.set i x) := fun y hy => by
  rcases List.mem_or_eq_of_mem_set hy with e | e
  · exact h y e
  · rw [e]; exact hx
theorem By.putI {l m : List Int} (h : By l) (hm : By m) (i : Nat) : By (putI l i m) := by
  induction m generalizing l i with
  | nil => exact h
  | cons x m ih => exact ih (h.set i (hm x (List.mem_cons_self ..))) (fun y hy => hm y (List.mem_cons_of_mem _ hy)) (i + 1)
theorem by_nums (s : ByteArray) : By (numsOf s) := fun x hx => by
  simp only [numsOf, List.mem_map] at hx
  obtain ⟨b, _, rfl⟩ := hx
  have := b.toNat_lt
  omega
theorem so_size (l : List Int) : (strOfNums l).size = l.length := by simp [strOfNums, ByteArray.size]
theorem nums_len (s : ByteArray) : (numsOf s).length = s.size := by simp [numsOf]
theorem so_app (a b : List Int) : strOfNums a ++ strOfNums b = strOfNums (a ++ b) := by
  apply ByteArray.ext
  simp [strOfNums]
theorem u8n {x : Int} (h1 : 0 ≤ x) (h2 : x ≤ 255) : ((UInt8.ofNat x.toNat).toNat : Int) = x := by
  rw [UInt8.toNat_ofNat']
  omega
theorem nums_so (s : ByteArray) : strOfNums (numsOf s) = s := by
  apply ByteArray.ext
  simp only [strOfNums, numsOf, List.map_map]
  have h : ∀ l : List UInt8, l.map ((fun n : Int => UInt8.ofNat n.toNat) ∘ fun b : UInt8 => (b.toNat : Int)) = l := fun l => by
    refine (List.map_congr_left fun b _ => ?_).trans (List.map_id _)
    show UInt8.ofNat ((b.toNat : Int)).toNat = b
    rw [Int.toNat_natCast]
    simp
  rw [h]
theorem so_nums {l : List Int} (h : By l) : numsOf (strOfNums l) = l := by
  simp only [strOfNums, numsOf, List.map_map]
  refine (List.map_congr_left fun x hx => ?_).trans (List.map_id _)
  obtain ⟨h1, h2⟩ := h x hx
  exact u8n h1 h2
theorem so_inj {a b : List Int} (ha : By a) (hb : By b) (h : strOfNums a = strOfNums b) : a = b := by
  rw [← so_nums ha, ← so_nums hb, h]
theorem so_ext (l : List Int) (i j : Nat) (h : j ≤ l.length) : (strOfNums l).extract i j = strOfNums ((l.take j).drop i) := by
  apply ByteArray.ext
  simp only [strOfNums, ByteArray.data_extract, List.extract_toArray, List.extract_eq_take_drop, List.map_take, List.map_drop, List.drop_take]
theorem so_get {l : List Int} (hb : By l) {i : Nat} (h : i < (strOfNums l).size) : (((strOfNums l)[i]'h).toNat : Int) = l[i]'(by rw [so_size] at h; exact h) := by
  have h' : i < l.length := by rw [so_size] at h; exact h
  obtain ⟨h1, h2⟩ := hb.get h'
  show (((strOfNums l).data[i]'h).toNat : Int) = _
  simp only [strOfNums, List.getElem_toArray, List.getElem_map]
  exact u8n h1 h2
theorem so_ix {l : List Int} (hb : By l) {i : Nat} (h : i < l.length) : aIxStr (.v (.string (strOfNums l))) (.v (.int .i64 i)) = some (.v (.int .u8 (l[i]))) := by
  have hc : 0 ≤ (i : Int) ∧ (i : Int).toNat < (strOfNums l).size := ⟨by omega, by rw [so_size]; exact h⟩
  have := so_get hb (i := i) hc.2
  show (if h : 0 ≤ (i : Int) ∧ (i : Int).toNat < (strOfNums l).size then some (AV.v (.int .u8 (((strOfNums l)[(i : Int).toNat]'h.2).toNat : Int))) else none) = some (AV.v (.int .u8 (l[i])))
  rw [dif_pos hc]
  exact congrArg (fun x => some (AV.v (.int .u8 x))) this
theorem putI_len {l m : List Int} {i : Nat} : (putI l i m).length = l.length := by
  induction m generalizing l i with
  | nil => rfl
  | cons x m ih => rw [putI, ih, List.length_set]
theorem putI_eq {l m : List Int} {i : Nat} (h : i + m.length ≤ l.length) : putI l i m = l.take i ++ m ++ l.drop (i + m.length) := by
  induction m generalizing l i with
  | nil => simp [putI]
  | cons x m ih =>
    simp only [List.length_cons] at h
    rw [putI, ih (by rw [List.length_set]; omega)]
    have h1 : (l.set i x).take (i + 1) = l.take i ++ [x] := by
      rw [List.take_add_one, List.take_set_of_le (Nat.le_refl _), List.getElem?_set_self (by omega)]
      rfl
    rw [h1, List.drop_set_of_lt (by omega), List.append_assoc, List.append_assoc, List.append_assoc]
    simp only [List.singleton_append, List.length_cons, List.cons_append, List.nil_append]
    rw [Nat.add_assoc, Nat.add_comm 1]
/-! ### sums -/
def tab : List Nat := [0x0000, 0x1021, 0x2042, 0x3063, 0x4084, 0x50A5, 0x60C6, 0x70E7, 0x8108, 0x9129, 0xA14A, 0xB16B, 0xC18C, 0xD1AD, 0xE1CE, 0xF1EF]
def qt (n : Nat) : Nat := tab.getD (n % 16) 0
def st4 (s x : Nat) : Nat := (s * 16 % 65536) ^^^ qt ((s / 4096) ^^^ x)
def stp (s c : Nat) : Nat := st4 (st4 s (c / 16)) c
def crcL (s : Nat) (l : List Int) : Nat := l.foldl (fun s c => stp s c.toNat) s
theorem qt_lt (n : Nat) : qt n < 65536 := by
  have h : ∀ m < 16, tab.getD m 0 < 65536 := by decide
  exact h _ (Nat.mod_lt _ (by decide))
theorem st4_lt (s x : Nat) : st4 s x < 65536 := Nat.xor_lt_two_pow (n := 16) (Nat.mod_lt _ (by decide)) (qt_lt _)
theorem stp_lt (s c : Nat) : stp s c < 65536 := st4_lt _ _
theorem crcL_lt {s : Nat} (hs : s < 65536) (l : List Int) : crcL s l < 65536 := by
  induction l generalizing s with
  | nil => exact hs
  | cons c l ih => exact ih (stp_lt _ _)
theorem qt0 : qt 0 = 0 := by decide
theorem xm : ∀ y < 256, ((y % 16) ^^^ y) % 16 = 0 := by decide +kernel
theorem seal0 (s : Nat) (hs : s < 65536) : stp (stp s (s / 256)) (s % 256) = 0 := by
  have q : ∀ n, n % 16 = 0 → qt n = 0 := fun n h => by unfold qt; rw [h]; rfl
  have e1 : st4 s (s / 256 / 16) = s * 16 % 65536 := by
    unfold st4
    rw [show s / 256 / 16 = s / 4096 by omega, Nat.xor_self, qt0, Nat.xor_zero]
  have e2 : st4 (s * 16 % 65536) (s / 256) = s * 256 % 65536 := by
    unfold st4
    rw [show s * 16 % 65536 / 4096 = (s / 256) % 16 by omega, q _ (xm _ (by omega)), Nat.xor_zero]
    omega
  have e3 : st4 (s * 256 % 65536) (s % 256 / 16) = s * 4096 % 65536 := by
    unfold st4
    rw [show s * 256 % 65536 / 4096 = s % 256 / 16 by omega, Nat.xor_self, qt0, Nat.xor_zero]
    omega
  have e4 : st4 (s * 4096 % 65536) (s % 256) = 0 := by
    unfold st4
    rw [show s * 4096 % 65536 / 4096 = (s % 256) % 16 by omega, q _ (xm _ (by omega)), Nat.xor_zero]
    omega
  unfold stp
  rw [e1, e2, e3, e4]
def hi8 (s : Nat) : Int := ((s / 256 : Nat) : Int)
def lo8 (s : Nat) : Int := ((s % 256 : Nat) : Int)
def sealL (l : List Int) : List Int := l ++ [hi8 (crcL 65535 l), lo8 (crcL 65535 l)]
theorem crc_seal (l : List Int) : crcL 65535 (sealL l) = 0 := by
  have h := seal0 (crcL 65535 l) (crcL_lt (by decide) l)
  unfold sealL crcL
  rw [List.foldl_append]
  exact h
theorem by_seal {l : List Int} (h : By l) : By (sealL l) := by
  have := crcL_lt (s := 65535) (by decide) l
  exact h.app (.cons ⟨by unfold hi8; omega, by unfold hi8; omega⟩ (.cons ⟨by unfold lo8; omega, by unfold lo8; omega⟩ .nil))
theorem seal_len (l : List Int) : (sealL l).length = l.length + 2 := by simp [sealL]
/-! ### operations on bits -/
theorem bx16 (a b : Nat) (ha : a < 65536) (hb : b < 65536) : bitsV .xor .u16 (a : Int) (b : Int) = ((a ^^^ b : Nat) : Int) := by
  have hx : a ^^^ b < 2 ^ 16 := Nat.xor_lt_two_pow (by omega) (by omega)
  have h1 : (BitVec.ofInt 16 (a : Int)).toNat = a := by rw [BitVec.ofInt_natCast, BitVec.toNat_ofNat]; exact Nat.mod_eq_of_lt (by omega)
  have h2 : (BitVec.ofInt 16 (b : Int)).toNat = b := by rw [BitVec.ofInt_natCast, BitVec.toNat_ofNat]; exact Nat.mod_eq_of_lt (by omega)
  show IntKind.u16.wrap ((BitVec.ofInt 16 (a : Int) ^^^ BitVec.ofInt 16 (b : Int)).toNat : Int) = _
  rw [BitVec.toNat_xor, h1, h2]
  exact wu16 (by omega) (by omega)
theorem ba16 (a b : Nat) (ha : a < 65536) (hb : b < 65536) : bitsV .and .u16 (a : Int) (b : Int) = ((a &&& b : Nat) : Int) := by
  have hx : a &&& b < 2 ^ 16 := Nat.and_lt_two_pow _ (by omega)
  have h1 : (BitVec.ofInt 16 (a : Int)).toNat = a := by rw [BitVec.ofInt_natCast, BitVec.toNat_ofNat]; exact Nat.mod_eq_of_lt (by omega)
  have h2 : (BitVec.ofInt 16 (b : Int)).toNat = b := by rw [BitVec.ofInt_natCast, BitVec.toNat_ofNat]; exact Nat.mod_eq_of_lt (by omega)
  show IntKind.u16.wrap ((BitVec.ofInt 16 (a : Int) &&& BitVec.ofInt 16 (b : Int)).toNat : Int) = _
  rw [BitVec.toNat_and, h1, h2]
  exact wu16 (by omega) (by omega)
theorem bo32 (a b : Nat) (ha : a < 4294967296) (hb : b < 4294967296) : bitsV .or .u32 (a : Int) (b : Int) = ((a ||| b : Nat) : Int) := by
  have hx : a ||| b < 2 ^ 32 := Nat.or_lt_two_pow (by omega) (by omega)
  have h1 : (BitVec.ofInt 32 (a : Int)).toNat = a := by rw [BitVec.ofInt_natCast, BitVec.toNat_ofNat]; exact Nat.mod_eq_of_lt (by omega)
  have h2 : (BitVec.ofInt 32 (b : Int)).toNat = b := by rw [BitVec.ofInt_natCast, BitVec.toNat_ofNat]; exact Nat.mod_eq_of_lt (by omega)
  show IntKind.u32.wrap ((BitVec.ofInt 32 (a : Int) ||| BitVec.ofInt 32 (b : Int)).toNat : Int) = _
  rw [BitVec.toNat_or, h1, h2]
  exact wu32 (by omega) (by omega)
end Go.Proofs.YthdiljjbcaleoaaDoor.Ret

/- Records in a store's bytes, plain. -/
namespace Go.Proofs.YthdiljjbcaleoaaDoor.Ret
open Go Go.Proofs.YthdiljjbcaleoaaDoor.Sym
set_option linter.unusedVariables false
set_option linter.unusedSimpArgs false
structure Rec where
  seq : Nat
  inc : Nat
  data : ByteArray
def Rec.z : Rec := ⟨0, 0, ByteArray.empty⟩
structure Rec.In (r : Rec) : Prop where
  seq : r.seq < 4294967296
  inc : r.inc < 65536
  data : r.data.size ≤ 64
def two (n : Nat) : List Int := [((n / 256 : Nat) : Int), ((n % 256 : Nat) : Int)]
def four (n : Nat) : List Int := two (n / 65536) ++ two (n % 65536)
def b0 (r : Rec) : List Int := four r.seq ++ two r.inc ++ [(r.data.size : Int)] ++ numsOf r.data ++ List.replicate (64 - r.data.size) 0
def slotL (r : Rec) : List Int := 165 :: sealL (b0 r)
def num (l : List Int) : Nat := l.foldl (fun n c => n * 256 % 4294967296 + c.toNat) 0
/-- The record of a slot's bytes. -/
def prs (l : List Int) : Option Rec :=
  let i := (l.drop 1).take 71
  if crcL 65535 (l.drop 1) = 0 ∧ l[0]? = some 165 ∧ i.getD 6 0 ≤ 64 ∧ (i.drop (7 + (i.getD 6 0).toNat)).all (· == 0) = true then
    some ⟨num (i.take 4), num ((i.drop 4).take 2), strOfNums ((i.drop 7).take (i.getD 6 0).toNat)⟩ else none
theorem by_two {n : Nat} (h : n < 65536) : By (two n) := .cons ⟨by omega, by omega⟩ (.cons ⟨by omega, by omega⟩ .nil)
theorem by_four {n : Nat} (h : n < 4294967296) : By (four n) := (by_two (by omega)).app (by_two (by omega))
theorem by_b0 {r : Rec} (h : r.In) : By (b0 r) := by
  have h1 := h.seq
  have h2 := h.inc
  have h3 := h.data
  exact ((((by_four h1).app (by_two h2)).app (.cons ⟨by omega, by omega⟩ .nil)).app (by_nums _)).app (.rep _)
theorem b0_len {r : Rec} (h : r.In) : (b0 r).length = 71 := by
  have h3 := h.data
  simp only [b0, four, two, List.length_append, List.length_cons, List.length_nil, nums_len, List.length_replicate]
  omega
theorem by_slot {r : Rec} (h : r.In) : By (slotL r) := .cons (by decide) (by_seal (by_b0 h))
theorem slot_len {r : Rec} (h : r.In) : (slotL r).length = 74 := by rw [slotL, List.length_cons, seal_len, b0_len h]
theorem num_two {n : Nat} (h : n < 65536) : num (two n) = n := by
  simp only [num, two, List.foldl_cons, List.foldl_nil, Int.toNat_natCast]
  omega
theorem num_four {n : Nat} (h : n < 4294967296) : num (four n) = n := by
  simp only [num, four, two, List.cons_append, List.nil_append, List.foldl_cons, List.foldl_nil, Int.toNat_natCast]
  omega
theorem prs_slot {r : Rec} (h : r.In) : prs (slotL r) = some r := by
  have h3 := h.data
  have hl := b0_len h
  have e1 : (slotL r).drop 1 = sealL (b0 r) := rfl
  have e2 : (sealL (b0 r)).take 71 = b0 r := by rw [sealL, List.take_append_of_le_length (by omega), List.take_of_length_le (by omega)]
  have e3 : (b0 r).getD 6 0 = r.data.size := rfl
  have e4 : (b0 r).take 4 = four r.seq := rfl
  have e5 : ((b0 r).drop 4).take 2 = two r.inc := rfl
  have e6 : (b0 r).drop 7 = numsOf r.data ++ List.replicate (64 - r.data.size) 0 := rfl
  have e7 : ((b0 r).drop 7).take r.data.size = numsOf r.data := by rw [e6, List.take_append_of_le_length (by rw [nums_len]; omega), List.take_of_length_le (by rw [nums_len]; omega)]
  have e8 : (b0 r).drop (7 + r.data.size) = List.replicate (64 - r.data.size) 0 := by
    rw [← List.drop_drop, e6, List.drop_append_of_le_length (by rw [nums_len]; omega), List.drop_of_length_le (by rw [nums_len]; omega), List.nil_append]
  unfold prs
  simp only [e1, e2, e3, Int.toNat_natCast, e8, e7, e4, e5]
  rw [if_pos ⟨crc_seal _, rfl, by omega, by simp⟩, num_four h.seq, num_two h.inc, nums_so]
theorem prs_mark {l : List Int} (h : l[0]? ≠ some 165) : prs l = none := if_neg fun hc => h hc.2.1
theorem prs_in {l : List Int} (hl : By l) {r : Rec} (h : prs l = some r) : r.In := by
  dsimp only [prs] at h
  split at h
  case isFalse => cases h
  rename_i hc
  cases h
  have nl : ∀ (m : List Int) (a : Nat), By m → num m < 4294967296 + 256 ∨ True := fun _ _ _ => .inr trivial
  have hi : By ((l.drop 1).take 71) := (hl.drop 1).take 71
  generalize (l.drop 1).take 71 = i at *
  have n2 : ∀ m : List Int, By m → m.length ≤ 2 → num m < 65536 := fun m hm hl => by
    match m, hl with
    | [], _ => decide
    | [a], _ =>
      have := hm a (by simp)
      simp only [num, List.foldl_cons, List.foldl_nil]
      omega
    | [a, b], _ =>
      have := hm a (by simp)
      have := hm b (by simp)
      simp only [num, List.foldl_cons, List.foldl_nil]
      omega
  have n4 : ∀ m : List Int, By m → m.length ≤ 4 → num m < 4294967296 := fun m hm hl => by
    match m, hl with
    | [], _ => decide
    | [a], _ =>
      have := hm a (by simp)
      simp only [num, List.foldl_cons, List.foldl_nil]
      omega
    | [a, b], _ =>
      have := hm a (by simp)
      have := hm b (by simp)
      simp only [num, List.foldl_cons, List.foldl_nil]
      omega
    | [a, b, c], _ =>
      have := hm a (by simp)
      have := hm b (by simp)
      have := hm c (by simp)
      simp only [num, List.foldl_cons, List.foldl_nil]
      omega
    | [a, b, c, d], _ =>
      have := hm a (by simp)
      have := hm b (by simp)
      have := hm c (by simp)
      have := hm d (by simp)
      simp only [num, List.foldl_cons, List.foldl_nil]
      omega
  refine ⟨n4 _ (hi.take 4) (by rw [List.length_take]; omega), n2 _ ((hi.drop 4).take 2) (by rw [List.length_take]; omega), ?_⟩
  show (strOfNums _).size ≤ 64
  rw [so_size, List.length_take]
  have := hc.2.2.1
  omega
/-! ### slots -/
def slotAt (b : List Int) (i : Nat) : List Int := (b.drop (74 * i)).take 74
theorem putI_get {l m : List Int} {i j : Nat} : (putI l i m)[j]? = if i ≤ j ∧ j < i + m.length ∧ j < l.length then m[j - i]? else l[j]? := by
  induction m generalizing l i with
  | nil => rw [if_neg (by simp only [List.length_nil]; omega)]; rfl
  | cons x m ih =>
    rw [putI, ih, List.length_set, List.getElem?_set, List.length_cons]
    by_cases h1 : i + 1 ≤ j ∧ j < i + 1 + m.length ∧ j < l.length
    · rw [if_pos h1, if_pos (by omega), show j - i = (j - (i + 1)) + 1 by omega, List.getElem?_cons_succ]
    · rw [if_neg h1]
      by_cases h2 : i = j
      · subst h2
        by_cases h3 : i < l.length
        · rw [if_pos rfl, if_pos h3, if_pos (by omega), Nat.sub_self, List.getElem?_cons_zero]
        · rw [if_pos rfl, if_neg h3, if_neg (by omega), List.getElem?_eq_none (by omega)]
      · rw [if_neg h2, if_neg (by omega)]
theorem slot_get (b : List Int) (i j : Nat) : (slotAt b i)[j]? = if j < 74 then b[74 * i + j]? else none := by
  unfold slotAt
  rw [List.getElem?_take]
  split
  · rw [List.getElem?_drop]
  · rfl
theorem slot_put {b m : List Int} {at_ i : Nat} (h : i + m.length ≤ 74) (hb : 74 * at_ + 74 ≤ b.length) : slotAt (putI b (74 * at_ + i) m) at_ = putI (slotAt b at_) i m := by
  apply List.ext_getElem?
  intro j
  have hl : (slotAt b at_).length = 74 := by rw [slotAt, List.length_take, List.length_drop]; omega
  rw [slot_get, putI_get, putI_get, slot_get, hl]
  by_cases c : j < 74
  · rw [if_pos c, if_pos c]
    by_cases c2 : i ≤ j ∧ j < i + m.length
    · rw [if_pos (by omega), if_pos (by omega), show 74 * at_ + j - (74 * at_ + i) = j - i by omega]
    · rw [if_neg (by omega), if_neg (by omega)]
  · rw [if_neg c, if_neg c, if_neg (by omega)]
theorem slot_other {b m : List Int} {at_ i k : Nat} (hk : k ≠ at_) (h : i + m.length ≤ 74) : slotAt (putI b (74 * at_ + i) m) k = slotAt b k := by
  apply List.ext_getElem?
  intro j
  rw [slot_get, putI_get, slot_get]
  by_cases c : j < 74
  · rw [if_pos c, if_pos c, if_neg (by
      rcases Nat.lt_or_gt_of_ne hk with h1 | h1
      · have : 74 * k + 74 ≤ 74 * at_ := by omega
        omega
      · have : 74 * at_ + 74 ≤ 74 * k := by omega
        omega)]
  · rw [if_neg c, if_neg c]
theorem slot_len' {b : List Int} {i : Nat} (h : 74 * i + 74 ≤ b.length) : (slotAt b i).length = 74 := by rw [slotAt, List.length_take, List.length_drop]; omega
theorem by_slotAt {b : List Int} (h : By b) (i : Nat) : By (slotAt b i) := (h.drop _).take _
/-- The newest of two. -/
def nw (p q : Option Rec) : Option (Nat × Rec) := match p, q with
  | none, none => none
  | some r, none => some (0, r)
  | none, some r => some (1, r)
  | some a, some b => if a.seq < b.seq then some (1, b) else some (0, a)
def nwB (b : List Int) : Option (Nat × Rec) := nw (prs (slotAt b 0)) (prs (slotAt b 1))
end Go.Proofs.YthdiljjbcaleoaaDoor.Ret

/- The document's sums, bit by bit; a text with its own sum behind it: plain. -/
namespace Go.Proofs.YthdiljjbcaleoaaDoor.Ret
open Go Go.Proofs.YthdiljjbcaleoaaDoor.Sym
set_option linter.unusedVariables false
set_option linter.unusedSimpArgs false
/-- A bit falls out. -/
def bs (n : Nat) : Nat := if 65536 ≤ 2 * n then (2 * n - 65536) ^^^ 4129 else 2 * n
def bl (n : Nat) : Nat := (2 * n % 65536) ^^^ (if n.testBit 15 then 4129 else 0)
theorem tb15 {n : Nat} (h : n < 65536) : n.testBit 15 = decide (32768 ≤ n) := by
  rw [Nat.testBit_eq_decide_div_mod_eq]
  have : n / 2 ^ 15 % 2 = 1 ↔ 32768 ≤ n := by omega
  simp only [this]
theorem bs_bl {n : Nat} (h : n < 65536) : bs n = bl n := by
  unfold bs bl
  rw [tb15 h]
  by_cases c : 32768 ≤ n
  · rw [if_pos (by omega), if_pos (by simpa using c), show 2 * n - 65536 = 2 * n % 65536 by omega]
  · rw [if_neg (by omega), if_neg (by simpa using c), show 2 * n % 65536 = 2 * n by omega, Nat.xor_zero]
theorem bl_xor (a b : Nat) : bl (a ^^^ b) = bl a ^^^ bl b := by
  unfold bl
  have h1 : 2 * (a ^^^ b) % 65536 = (2 * a % 65536) ^^^ (2 * b % 65536) := by
    rw [show 65536 = 2 ^ 16 from rfl, ← Nat.xor_mod_two_pow]
    congr 1
    have := @Nat.shiftLeft_xor_distrib 1 a b
    simp only [Nat.shiftLeft_eq, Nat.pow_one] at this
    rw [Nat.mul_comm 2 (a ^^^ b), Nat.mul_comm 2 a, Nat.mul_comm 2 b]
    exact this
  rw [h1, Nat.testBit_xor]
  generalize 2 * a % 65536 = x
  generalize 2 * b % 65536 = y
  have ac : ∀ p q r s : Nat, (p ^^^ q) ^^^ (r ^^^ s) = (p ^^^ r) ^^^ (q ^^^ s) := fun p q r s => by
    rw [Nat.xor_assoc, Nat.xor_assoc]
    congr 1
    rw [← Nat.xor_assoc, ← Nat.xor_assoc, Nat.xor_comm q r]
  rw [ac x]
  congr 1
  cases a.testBit 15 <;> cases b.testBit 15 <;> decide
theorem bl_lt {n : Nat} (h : n < 65536) : bl n < 65536 := Nat.xor_lt_two_pow (n := 16) (Nat.mod_lt _ (by decide)) (by split <;> decide)
/-- Four at a time. -/
theorem bl4 {n : Nat} (h : n < 65536) : bl (bl (bl (bl n))) = (n * 16 % 65536) ^^^ qt (n / 4096) := by
  have e : n = (n / 4096 * 4096) ^^^ (n % 4096) := by
    have h1 : n / 4096 * 4096 + n % 4096 = (n / 4096 * 4096) ||| (n % 4096) := by
      have := Nat.two_pow_add_eq_or_of_lt (i := 12) (b := n % 4096) (Nat.mod_lt _ (by decide)) (n / 4096)
      rw [Nat.mul_comm] at this
      exact this
    have h2 : (n / 4096 * 4096) ^^^ (n % 4096) = (n / 4096 * 4096) ||| (n % 4096) := by
      apply Nat.eq_of_testBit_eq
      intro i
      rw [Nat.testBit_xor, Nat.testBit_or]
      by_cases c : i < 12
      · have : (n / 4096 * 4096).testBit i = false := by
          rw [show 4096 = 2 ^ 12 from rfl, Nat.testBit_mul_two_pow]
          simp
          omega
        rw [this]
        simp
      · have : (n % 4096).testBit i = false := by
          rw [show 4096 = 2 ^ 12 from rfl, Nat.testBit_mod_two_pow]
          simp [c]
        rw [this]
        simp
    rw [h2, ← h1]
    omega
  have small : ∀ l < 4096, bl (bl (bl (bl l))) = l * 16 := fun l hl => by
    have s : ∀ m < 32768, bl m = 2 * m := fun m hm => by rw [← bs_bl (by omega), bs, if_neg (by omega)]
    rw [s l (by omega), s (2 * l) (by omega), s (2 * (2 * l)) (by omega), s (2 * (2 * (2 * l))) (by omega)]
    omega
  have high : ∀ g < 16, bl (bl (bl (bl (g * 4096)))) = qt g := by decide
  have hx : bl (bl (bl (bl n))) = bl (bl (bl (bl (n / 4096 * 4096)))) ^^^ bl (bl (bl (bl (n % 4096)))) := by
    conv => lhs; rw [e]
    rw [bl_xor, bl_xor, bl_xor, bl_xor]
  rw [hx, small _ (Nat.mod_lt _ (by decide)), high _ (by omega), Nat.xor_comm]
  congr 1
  omega
def b8 (n : Nat) : Nat := bs (bs (bs (bs (bs (bs (bs (bs n)))))))
theorem xdiv (a b k : Nat) : (a ^^^ b) / 2 ^ k = (a / 2 ^ k) ^^^ (b / 2 ^ k) := by
  rw [← Nat.shiftRight_eq_div_pow, ← Nat.shiftRight_eq_div_pow, ← Nat.shiftRight_eq_div_pow, Nat.shiftRight_xor_distrib]
theorem xmul (a b k : Nat) : (a ^^^ b) * 2 ^ k = (a * 2 ^ k) ^^^ (b * 2 ^ k) := by
  rw [← Nat.shiftLeft_eq, ← Nat.shiftLeft_eq, ← Nat.shiftLeft_eq, Nat.shiftLeft_xor_distrib]
theorem xmod (a b k : Nat) : (a ^^^ b) % 2 ^ k = (a % 2 ^ k) ^^^ (b % 2 ^ k) := Nat.xor_mod_two_pow
theorem qt_mod (n : Nat) : qt (n % 16) = qt n := by unfold qt; rw [Nat.mod_mod]
theorem b8_bl {x : Nat} (hx : x < 65536) : b8 x = bl (bl (bl (bl (bl (bl (bl (bl x))))))) := by
  unfold b8
  rw [bs_bl hx]
  have h1 := bl_lt hx
  generalize bl x = x1 at *
  rw [bs_bl h1]
  have h2 := bl_lt h1
  generalize bl x1 = x2 at *
  rw [bs_bl h2]
  have h3 := bl_lt h2
  generalize bl x2 = x3 at *
  rw [bs_bl h3]
  have h4 := bl_lt h3
  generalize bl x3 = x4 at *
  rw [bs_bl h4]
  have h5 := bl_lt h4
  generalize bl x4 = x5 at *
  rw [bs_bl h5]
  have h6 := bl_lt h5
  generalize bl x5 = x6 at *
  rw [bs_bl h6]
  have h7 := bl_lt h6
  generalize bl x6 = x7 at *
  rw [bs_bl h7]
theorem xm16 (s y : Nat) : (s ^^^ y) * 16 % 65536 = (s * 16 % 65536) ^^^ (y * 16 % 65536) := by
  have h := xmul s y 4
  have h2 := xmod (s * 2 ^ 4) (y * 2 ^ 4) 16
  rw [← h] at h2
  exact h2
theorem xd12 (s y : Nat) : (s ^^^ y) / 4096 = (s / 4096) ^^^ (y / 4096) := xdiv s y 12
theorem xm4 (s y : Nat) : (s ^^^ y) % 16 = (s % 16) ^^^ (y % 16) := xmod s y 4
theorem qt_lo (v c : Nat) : qt (v ^^^ (c % 16)) = qt (v ^^^ c) := by
  rw [← qt_mod (v ^^^ c % 16), ← qt_mod (v ^^^ c), xm4, xm4, Nat.mod_mod]
theorem b8_stp {s c : Nat} (hs : s < 65536) (hc : c < 256) : b8 (s ^^^ c * 256) = stp s c := by
  have hx : s ^^^ c * 256 < 65536 := Nat.xor_lt_two_pow (n := 16) hs (by omega)
  rw [b8_bl hx, bl4 hx, xm16, xd12]
  have e1 : c * 256 * 16 % 65536 = c % 16 * 4096 := by omega
  have e2 : c * 256 / 4096 = c / 16 := by omega
  rw [e1, e2]
  have e3 : (s * 16 % 65536) ^^^ (c % 16 * 4096) ^^^ qt (s / 4096 ^^^ c / 16) = st4 s (c / 16) ^^^ (c % 16 * 4096) := by
    unfold st4
    rw [Nat.xor_assoc, Nat.xor_comm (c % 16 * 4096), ← Nat.xor_assoc]
  rw [e3]
  unfold stp
  have hvl := st4_lt s (c / 16)
  generalize st4 s (c / 16) = v at hvl ⊢
  have hy : v ^^^ (c % 16 * 4096) < 65536 := Nat.xor_lt_two_pow (n := 16) hvl (by omega)
  rw [bl4 hy, xm16, xd12]
  have e4 : c % 16 * 4096 * 16 % 65536 = 0 := by
    rw [Nat.mul_assoc]
    exact Nat.mul_mod_left _ _
  have e5 : c % 16 * 4096 / 4096 = c % 16 := Nat.mul_div_cancel _ (by decide)
  rw [e4, e5, Nat.xor_zero, qt_lo]
  rfl
/-! ### a sum of 0 -/
theorem qt_low : ∀ y < 16, qt y % 16 = y := by decide
theorem st4_low (s x : Nat) : st4 s x % 16 = (s / 4096 ^^^ x) % 16 := by
  unfold st4
  have := xmod (s * 16 % 65536) (qt (s / 4096 ^^^ x)) 4
  rw [show (2 : Nat) ^ 4 = 16 from rfl] at this
  rw [this, show s * 16 % 65536 % 16 = 0 by omega, Nat.zero_xor, ← qt_mod, qt_low _ (Nat.mod_lt _ (by decide))]
theorem x16 {a b : Nat} (h : (a ^^^ b) % 16 = 0) : a % 16 = b % 16 := by
  have := xmod a b 4
  rw [show (2 : Nat) ^ 4 = 16 from rfl, h] at this
  have h2 := congrArg (fun t => t ^^^ (b % 16)) this
  simp only [Nat.zero_xor, Nat.xor_assoc, Nat.xor_self, Nat.xor_zero] at h2
  exact h2.symm
theorem st4_0 {s x : Nat} (h : st4 s x % 16 = 0) : st4 s x = s * 16 % 65536 ∧ s / 4096 % 16 = x % 16 := by
  have h1 := st4_low s x
  rw [h] at h1
  refine ⟨?_, x16 h1.symm⟩
  unfold st4
  rw [← qt_mod, ← h1, qt0, Nat.xor_zero]
theorem stp_0 {s a b : Nat} (hs : s < 65536) (ha : a < 256) (hb : b < 256) (h : stp (stp s a) b = 0) : a = s / 256 ∧ b = s % 256 := by
  unfold stp at h
  generalize e1 : st4 s (a / 16) = v1 at h
  generalize e2 : st4 v1 a = v2 at h
  generalize e3 : st4 v2 (b / 16) = v3 at h
  have l1 : v1 < 65536 := by rw [← e1]; exact st4_lt _ _
  have l2 : v2 < 65536 := by rw [← e2]; exact st4_lt _ _
  have l3 : v3 < 65536 := by rw [← e3]; exact st4_lt _ _
  obtain ⟨p4, q4⟩ := st4_0 (s := v3) (x := b) (by rw [h])
  rw [h] at p4
  obtain ⟨p3, q3⟩ := st4_0 (s := v2) (x := b / 16) (by rw [e3]; omega)
  rw [e3] at p3
  obtain ⟨p2, q2⟩ := st4_0 (s := v1) (x := a) (by rw [e2]; omega)
  rw [e2] at p2
  obtain ⟨p1, q1⟩ := st4_0 (s := s) (x := a / 16) (by rw [e1]; omega)
  rw [e1] at p1
  omega
theorem seal_of {l : List Int} (hl : By l) (n : Nat) (hn : l.length = n + 2) (h : crcL 65535 l = 0) : l = sealL (l.take n) := by
  have e : l = l.take n ++ l.drop n := (List.take_append_drop n l).symm
  match hd : l.drop n with
  | [] => have := congrArg List.length hd; rw [List.length_drop] at this; simp at this; omega
  | [_] => have := congrArg List.length hd; rw [List.length_drop] at this; simp at this; omega
  | _ :: _ :: _ :: _ => have := congrArg List.length hd; rw [List.length_drop] at this; simp at this; omega
  | [a, b] =>
    rw [hd] at e
    have ba := hl a (by rw [e]; simp)
    have bb := hl b (by rw [e]; simp)
    have hc := crcL_lt (s := 65535) (by decide) (l.take n)
    rw [e] at h
    unfold crcL at h hc
    rw [List.foldl_append, List.foldl_cons, List.foldl_cons, List.foldl_nil] at h
    obtain ⟨h1, h2⟩ := stp_0 hc (by omega) (by omega) h
    unfold sealL hi8 lo8 crcL
    rw [← h1, ← h2]
    conv => lhs; rw [e]
    have e1 : ((a.toNat : Nat) : Int) = a := by omega
    have e2 : ((b.toNat : Nat) : Int) = b := by omega
    rw [e1, e2]
end Go.Proofs.YthdiljjbcaleoaaDoor.Ret
