/-
  DERIVED: THE SHELF's CONTRACTS AT THIS DUMP, IN PLAIN WORDS (tools/lay-plain.mjs out of 'TryRep.lean', which tools/lay-shelf.mjs wrote): THE SAME DECLARATIONS UNDER THE SAME NAMES: 'import', 'namespace', 'open', 'def', 'theorem' AND NOTHING ELSE: no command of the shelf's: FOR A HAND-IN. Each laying: the table of numbers ('.._ren') and one theorem, a field a fact of the dump's own or the kernel's comparison; each contract: ONE APPLICATION.
-/
import Derived.Shelf.Strings.Repeat
import Derived.Test.YthkjiclplecljaaProg
import Derived.WalkKit
import Derived.ProofKit
import Derived.Below
import Derived.KernelRfl
import Derived.Test.YthkjiclplecljaaMgf771d1cd
import Derived.Test.YthkjiclplecljaaMg7923157a
namespace Go.Proofs
open Go.Shelf
def Try.lays105_ren : Go.Shelf.Ren := ⟨fun | 105 => 40 | 212 => 67 | 99 => 68 | 165 => 69 | 166 => 70 | 170 => 71 | 169 => 72 | 263 => 94 | 264 => 95 | 206 => 96 | 240 => 97 | 241 => 98 | 276 => 105 | 277 => 106 | n => n, fun | 9 => 9 | 3 => 3 | 4 => 4 | 20 => 20 | 0 => 0 | 46 => 118 | 109 => 119 | 5 => 5 | 72 => 124 | 76 => 128 | 51 => 153 | 146 => 158 | 53 => 40 | 148 => 160 | 70 => 122 | 37 => 44 | 75 => 127 | 127 => 162 | 164 => 170 | 80 => 131 | n => n, fun | n => n⟩
theorem Try.lays105 : Go.Proofs.Lays.n105 Try.prog Try.lays105_ren := {
  mixed := by kernel_rfl
  f99 := Try.func68.trans (congrArg some (by kernel_rfl))
  f105 := Try.func40.trans (congrArg some (by kernel_rfl))
  f165 := Try.func69.trans (congrArg some (by kernel_rfl))
  f166 := Try.func70.trans (congrArg some (by kernel_rfl))
  f169 := Try.func72.trans (congrArg some (by kernel_rfl))
  f170 := Try.func71.trans (congrArg some (by kernel_rfl))
  f206 := Try.func96.trans (congrArg some (by kernel_rfl))
  f212 := Try.func67.trans (congrArg some (by kernel_rfl))
  f240 := Try.func97.trans (congrArg some (by kernel_rfl))
  f241 := Try.func98.trans (congrArg some (by kernel_rfl))
  f263 := Try.func94.trans (congrArg some (by kernel_rfl))
  f264 := Try.func95.trans (congrArg some (by kernel_rfl))
  f276 := Try.func105.trans (congrArg some (by kernel_rfl))
  f277 := Try.func106.trans (congrArg some (by kernel_rfl))
  t0 := Try.underlying0
  a0 := Try.isAgg0
  z0 := Try.sizeOf0
  v0 := Try.zeroValue0
  t3 := Try.underlying3
  a3 := Try.isAgg3
  z3 := Try.sizeOf3
  v3 := Try.zeroValue3
  t4 := Try.underlying4
  a4 := Try.isAgg4
  z4 := Try.sizeOf4
  v4 := Try.zeroValue4
  t5 := Try.underlying5
  a5 := Try.isAgg5
  z5 := Try.sizeOf5
  v5 := Try.zeroValue5
  t9 := Try.underlying9
  a9 := Try.isAgg9
  z9 := Try.sizeOf9
  v9 := Try.zeroValue9
  t20 := Try.underlying20
  a20 := Try.isAgg20
  z20 := Try.sizeOf20
  v20 := Try.zeroValue20
  t37 := Try.underlying44
  a37 := Try.isAgg44
  z37 := Try.sizeOf44
  v37 := Try.zeroValue44
  t46 := Try.underlying118
  a46 := Try.isAgg118
  z46 := Try.sizeOf118
  v46 := Try.zeroValue118
  t51 := Try.underlying153
  a51 := Try.isAgg153
  z51 := Try.sizeOf153
  v51 := Try.zeroValue153
  t53 := Try.underlying40
  a53 := Try.isAgg40
  z53 := Try.sizeOf40
  v53 := Try.zeroValue40
  t70 := Try.underlying122
  a70 := Try.isAgg122
  z70 := Try.sizeOf122
  v70 := Try.zeroValue122
  t72 := Try.underlying124
  a72 := Try.isAgg124
  z72 := Try.sizeOf124
  v72 := Try.zeroValue124
  t75 := Try.underlying127
  a75 := Try.isAgg127
  z75 := Try.sizeOf127
  v75 := Try.zeroValue127
  t76 := Try.underlying128
  a76 := Try.isAgg128
  z76 := Try.sizeOf128
  v76 := Try.zeroValue128
  t109 := Try.underlying119
  a109 := Try.isAgg119
  z109 := Try.sizeOf119
  v109 := Try.zeroValue119
  t127 := Try.underlying162
  a127 := Try.isAgg162
  z127 := Try.sizeOf162
  v127 := Try.zeroValue162
  t146 := Try.underlying158
  a146 := Try.isAgg158
  z146 := Try.sizeOf158
  v146 := Try.zeroValue158
  t148 := Try.underlying160
  a148 := Try.isAgg160
  z148 := Try.sizeOf160
  v148 := Try.zeroValue160
  t164 := Try.underlying170
  a164 := Try.isAgg170
  z164 := Try.sizeOf170
  v164 := Try.zeroValue170 }
theorem Try.Builder_Extra_105 : Builder.Extra Try.prog Try.lays105_ren := {
  sizeBuilder := by kernel_rfl
  liesBuilder := by kernel_rfl
  t5 := Try.underlying5
  a5 := Try.isAgg5
  z5 := Try.sizeOf5
  v5 := Try.zeroValue5
  infoByte := by kernel_rfl
  cellsByte := by kernel_rfl
  sizeByte := by kernel_rfl
  neB5 := by decide }
open Go.RowKit Go.Lib in
/-- **strings.Repeat: count ≥ 0, the result within one allocation: count copies of s.** (LAID: no walk: one application.) -/
theorem Try.strings_Repeat (s : ByteArray) (c : Nat) (w : World) (hc : c ≤ 9223372036854775807) (hlen : s.size * c ≤ 140737488355328) :
    Calls Try.prog 40 #[.string s, .int .i64 c] w fun e w' => e = .returned (.string ⟨(Lib.repeatL s.data.toList c).toArray⟩) ∧ Below w.heap.size w w' := Any.strings_Repeat Try.lays105 Try.Builder_Extra_105 s c w hc hlen
end Go.Proofs

/- What is known of library functions: strings.Repeat, slices.Clone of instructions. -/
namespace Go.Proofs.Ythkjiclplecljaa.Ext
open Go Go.Proofs.Ythkjiclplecljaa.Sym
set_option linter.unusedVariables false
def rep (s : ByteArray) (c : Nat) : ByteArray := ⟨(Lib.repeatL s.data.toList c).toArray⟩
def extR : CT := fun f n args Ω => match args, Ω with
  | [.v (.string s), .v (.int .i64 c)], [] => if f = 40 ∧ n = 0 ∧ 0 ≤ c ∧ c ≤ 9223372036854775807 ∧ s.size * c.toNat ≤ 140737488355328 then some ⟨.v (.string (rep s c.toNat)), [], 1⟩ else none
  | _, _ => none
theorem extR_ok : CallsOK Try.prog extR := by
  intro f n args Ω r h Im ρ w vals hR hst hn hv
  unfold extR at h
  split at h
  case h_2 => cases h
  rename_i s c
  split at h
  case isFalse => cases h
  rename_i hc
  obtain ⟨rfl, rfl, h0, h1, h2⟩ := hc
  cases h
  have hvals : vals = [.string s, .int .i64 c] := by
    match vals, hv with
    | [a, b], hv =>
      obtain ⟨ha, hb, _⟩ := hv
      cases ha
      cases hb
      rfl
  subst hvals
  have hx := Go.Proofs.Try.strings_Repeat s c.toNat w (by omega) h2
  rw [Int.toNat_of_nonneg h0] at hx
  refine ⟨⟨_, Try.func40, by kernel_rfl, by kernel_rfl⟩, hx.mono fun e w' h => ?_⟩
  obtain ⟨he, hb⟩ := h
  refine ⟨_, Im, ρ, he, ?_⟩
  exact
    { val := .v rfl
      rel := hR.same hb.block
      im := fun b arr h => h
      imn := fun b h _ => h
      roots := fun i hi => rfl
      fr := ⟨hb.os, hb.tape, hb.output, hb.size, fun b h _ => hb.block b h⟩
      still := fun h => by cases h
      lvl := by show 1 ≤ 2; decide
      new := fun b h => .inl h
      fresh := fun b h => by
        obtain ⟨k, o, s1, s2, hk, _⟩ := h
        cases hk }
/-! slices.Clone: of an empty row nobody can tell whether it is nil -/
def b_cl : AC :=
 (.seq (.seq (.reg [⟨(some 2), none, .mv (.c (.v (.slice none 0 0)))⟩]) (.drop [1, 2]))
 (.seq (.seq (.seq (.reg [⟨(some 3), none, .mv (.t 0)⟩, ⟨(some 4), none, .eqs false (.t 3) (.c (.v (.slice none 0 0)))⟩]) (.drop [1, 3]))
   (.cond (.t 4) (.seq (.seq (.reg [⟨(some 2), none, .mv (.c (.v (.slice none 0 0)))⟩]) (.drop []))
     .ret)
    .skip))
  (.seq (.seq (.reg [⟨(some 5), none, .row 5 0 [(.v (.int .i64 0)), (.v (.int .i64 0)), (.v (.int .i64 0)), (.v (.int .i64 0)), (.v (.int .i64 0))] []⟩, ⟨(some 6), none, .mv (.t 0)⟩, ⟨(some 7), none, .app 5 40 (.t 5) (.t 6)⟩, ⟨(some 2), none, .mv (.t 7)⟩]) (.drop [3, 7]))
   .ret)))
def a_cl : AFn := ⟨1, b_cl, [.t 2], true, false⟩
theorem a_cl_ok : compF Try.prog Try.f22 [[1, 2], [1, 3], [], [3, 7]] true false [4000000, 1000000] = some a_cl := by kernel_rfl
def tab0 : Nat → Option AFn
  | 22 => some a_cl
  | _ => none
def T0 : Tb := ⟨tab0, fun _ _ _ _ => none⟩
theorem tableOK0 : TableOK Try.prog T0 := by
  refine ⟨fun f fn h => ?_, fun _ _ _ _ _ h => nomatch (show (none : Option Res) = some _ from h)⟩
  change tab0 f = some fn at h
  unfold tab0 at h
  split at h
  · cases h; exact ⟨_, _, _, _, _, Try.func22, a_cl_ok⟩
  · cases h
theorem mixed0 : Try.prog.follows .mixedOrders = true := by kernel_rfl
set_option maxRecDepth 100000
open Go.RowKit in
theorem cl_nil (w : World) : Calls Try.prog 22 #[.slice none 0 0] w fun e w' => (∃ b, e = .returned (.slice b 0 0)) ∧ Below w.heap.size w w' := by
  have e1 : ∀ w, Sem.run Try.prog (binOp BinOp.eql 22 (Value.slice none 0 0) (Value.slice none 0 0)) w = .ok (.bool true) w := fun w => rfl
  go_enter Try.func22, Try.ntmps22
  go_wp2
  go_ret
  exact ⟨⟨_, rfl⟩, Below.refl _ _⟩
open Go.RowKit in
theorem cl_some (b : Addr) (cap : Nat) (w : World) : Calls Try.prog 22 #[.slice (some b) 0 cap] w fun e w' => (∃ b, e = .returned (.slice b 0 0)) ∧ Below w.heap.size w w' := by
  have e1 : ∀ w, Sem.run Try.prog (binOp BinOp.eql 22 (Value.slice (some b) 0 cap) (Value.slice none 0 0)) w = .ok (.bool false) w := fun w => rfl
  go_enter Try.func22, Try.ntmps22
  go_wp2
  go_ret
  exact ⟨⟨_, rfl⟩, (Below.refl _ _).alloc (Nat.le_refl _) _⟩
def extC : CT := fun f n args Ω => match args, Ω with
  | [.shr 0 cl []], [] => if f = 22 ∧ n = 0 then some ⟨.shr 0 false [], [], 1⟩ else none
  | _, _ => none
theorem extC_ok : CallsOK Try.prog extC := by
  intro f n args Ω r h Im ρ w vals hR hst hn hv
  unfold extC at h
  split at h
  case h_2 => cases h
  rename_i cl
  split at h
  case isFalse => cases h
  rename_i hc
  obtain ⟨rfl, rfl⟩ := hc
  cases h
  have key : Calls Try.prog 22 vals.toArray w fun e w' => (∃ b, e = .returned (.slice b 0 0)) ∧ Go.RowKit.Below w.heap.size w w' := by
    match vals, hv with
    | [a], hv =>
      obtain ⟨ha, _⟩ := hv
      cases ha with
      | shr b o cap arr f hb hc hcl ha h1 h2 => exact cl_some _ cap w
      | shr0 a => cases a with
        | none => exact cl_nil w
        | some b => exact cl_some b 0 w
  refine ⟨⟨_, Try.func22, by kernel_rfl, by kernel_rfl⟩, key.mono fun e w' h => ?_⟩
  obtain ⟨⟨b, he⟩, hb⟩ := h
  refine ⟨_, Im, ρ, he, ?_⟩
  exact
    { val := .shr0 b
      rel := hR.same hb.block
      im := fun b arr h => h
      imn := fun b h _ => h
      roots := fun i hi => rfl
      fr := ⟨hb.os, hb.tape, hb.output, hb.size, fun b h _ => hb.block b h⟩
      still := fun h => by cases h
      lvl := by show 1 ≤ 2; decide
      new := fun b h => .inl h
      fresh := fun b h => by
        obtain ⟨k, o, s1, s2, hk, _⟩ := h
        cases hk }
noncomputable def ext : CT := fun f n args Ω => match extR f n args Ω with
  | some r => some r
  | none => match extC f n args Ω with
    | some r => some r
    | none => acall T0 3 f n args Ω
theorem ext_ok : CallsOK Try.prog ext := by
  intro f n args Ω r h
  unfold ext at h
  split at h
  · rename_i r' h'
    cases h
    exact extR_ok f n args Ω _ h'
  · split at h
    · rename_i r' h'
      cases h
      exact extC_ok f n args Ω _ h'
    · exact acall_ok mixed0 tableOK0 3 f n args Ω r h
end Go.Proofs.Ythkjiclplecljaa.Ext

/- The program's functions, as the abstract machine has them. Written by a program for this claim. -/
namespace Go.Proofs.Ythkjiclplecljaa.Tab
open Go Go.Proofs.Ythkjiclplecljaa.Sym
set_option linter.unusedVariables false

/-- Calls that act. -/
def hv : List Nat := [4000000, 1000000, 3000100, 99, 103, 83, 51, 22, 89, 55, 57, 58, 61, 59, 33, 23, 36, 37, 39, 25]
/-! fugleman/il.ops: 99 -/
def b_il_ops : AC :=
 (.seq (.seq (.reg [⟨(some 0), none, .mv (.c (.v (.slice none 0 0)))⟩]) (.drop [0, 0]))
 (.seq (.seq (.reg [⟨(some 1), none, .build [(.v (.string ⟨#[]⟩)), (.v (.int .i64 0))] [(0, 1, (.c (.v (.string ⟨#[76, 68]⟩)))), (1, 1, (.c (.v (.int .i64 1))))]⟩, ⟨(some 2), none, .build [(.v (.string ⟨#[]⟩)), (.v (.int .i64 0))] [(0, 1, (.c (.v (.string ⟨#[76, 68, 78]⟩)))), (1, 1, (.c (.v (.int .i64 1))))]⟩, ⟨(some 3), none, .build [(.v (.string ⟨#[]⟩)), (.v (.int .i64 0))] [(0, 1, (.c (.v (.string ⟨#[83, 84]⟩)))), (1, 1, (.c (.v (.int .i64 2))))]⟩, ⟨(some 4), none, .build [(.v (.string ⟨#[]⟩)), (.v (.int .i64 0))] [(0, 1, (.c (.v (.string ⟨#[83, 84, 78]⟩)))), (1, 1, (.c (.v (.int .i64 2))))]⟩, ⟨(some 5), none, .build [(.v (.string ⟨#[]⟩)), (.v (.int .i64 0))] [(0, 1, (.c (.v (.string ⟨#[83]⟩)))), (1, 1, (.c (.v (.int .i64 2))))]⟩, ⟨(some 6), none, .build [(.v (.string ⟨#[]⟩)), (.v (.int .i64 0))] [(0, 1, (.c (.v (.string ⟨#[82]⟩)))), (1, 1, (.c (.v (.int .i64 2))))]⟩, ⟨(some 7), none, .build [(.v (.string ⟨#[]⟩)), (.v (.int .i64 0))] [(0, 1, (.c (.v (.string ⟨#[65, 78, 68]⟩)))), (1, 1, (.c (.v (.int .i64 1))))]⟩, ⟨(some 8), none, .build [(.v (.string ⟨#[]⟩)), (.v (.int .i64 0))] [(0, 1, (.c (.v (.string ⟨#[79, 82]⟩)))), (1, 1, (.c (.v (.int .i64 1))))]⟩, ⟨(some 9), none, .build [(.v (.string ⟨#[]⟩)), (.v (.int .i64 0))] [(0, 1, (.c (.v (.string ⟨#[88, 79, 82]⟩)))), (1, 1, (.c (.v (.int .i64 1))))]⟩, ⟨(some 10), none, .build [(.v (.string ⟨#[]⟩)), (.v (.int .i64 0))] [(0, 1, (.c (.v (.string ⟨#[65, 78, 68, 78]⟩)))), (1, 1, (.c (.v (.int .i64 1))))]⟩, ⟨(some 11), none, .build [(.v (.string ⟨#[]⟩)), (.v (.int .i64 0))] [(0, 1, (.c (.v (.string ⟨#[79, 82, 78]⟩)))), (1, 1, (.c (.v (.int .i64 1))))]⟩, ⟨(some 12), none, .build [(.v (.string ⟨#[]⟩)), (.v (.int .i64 0))] [(0, 1, (.c (.v (.string ⟨#[88, 79, 82, 78]⟩)))), (1, 1, (.c (.v (.int .i64 1))))]⟩, ⟨(some 13), none, .build [(.v (.string ⟨#[]⟩)), (.v (.int .i64 0))] [(0, 1, (.c (.v (.string ⟨#[78, 79, 84]⟩)))), (1, 1, (.c (.v (.int .i64 4))))]⟩, ⟨(some 14), none, .build [(.v (.string ⟨#[]⟩)), (.v (.int .i64 0))] [(0, 1, (.c (.v (.string ⟨#[65, 68, 68]⟩)))), (1, 1, (.c (.v (.int .i64 1))))]⟩, ⟨(some 15), none, .build [(.v (.string ⟨#[]⟩)), (.v (.int .i64 0))] [(0, 1, (.c (.v (.string ⟨#[83, 85, 66]⟩)))), (1, 1, (.c (.v (.int .i64 1))))]⟩, ⟨(some 16), none, .build [(.v (.string ⟨#[]⟩)), (.v (.int .i64 0))] [(0, 1, (.c (.v (.string ⟨#[77, 85, 76]⟩)))), (1, 1, (.c (.v (.int .i64 1))))]⟩, ⟨(some 17), none, .build [(.v (.string ⟨#[]⟩)), (.v (.int .i64 0))] [(0, 1, (.c (.v (.string ⟨#[68, 73, 86]⟩)))), (1, 1, (.c (.v (.int .i64 1))))]⟩, ⟨(some 18), none, .build [(.v (.string ⟨#[]⟩)), (.v (.int .i64 0))] [(0, 1, (.c (.v (.string ⟨#[77, 79, 68]⟩)))), (1, 1, (.c (.v (.int .i64 1))))]⟩, ⟨(some 19), none, .build [(.v (.string ⟨#[]⟩)), (.v (.int .i64 0))] [(0, 1, (.c (.v (.string ⟨#[71, 84]⟩)))), (1, 1, (.c (.v (.int .i64 1))))]⟩, ⟨(some 20), none, .build [(.v (.string ⟨#[]⟩)), (.v (.int .i64 0))] [(0, 1, (.c (.v (.string ⟨#[71, 69]⟩)))), (1, 1, (.c (.v (.int .i64 1))))]⟩, ⟨(some 21), none, .build [(.v (.string ⟨#[]⟩)), (.v (.int .i64 0))] [(0, 1, (.c (.v (.string ⟨#[69, 81]⟩)))), (1, 1, (.c (.v (.int .i64 1))))]⟩, ⟨(some 22), none, .build [(.v (.string ⟨#[]⟩)), (.v (.int .i64 0))] [(0, 1, (.c (.v (.string ⟨#[78, 69]⟩)))), (1, 1, (.c (.v (.int .i64 1))))]⟩, ⟨(some 23), none, .build [(.v (.string ⟨#[]⟩)), (.v (.int .i64 0))] [(0, 1, (.c (.v (.string ⟨#[76, 69]⟩)))), (1, 1, (.c (.v (.int .i64 1))))]⟩, ⟨(some 24), none, .build [(.v (.string ⟨#[]⟩)), (.v (.int .i64 0))] [(0, 1, (.c (.v (.string ⟨#[76, 84]⟩)))), (1, 1, (.c (.v (.int .i64 1))))]⟩, ⟨(some 25), none, .build [(.v (.string ⟨#[]⟩)), (.v (.int .i64 0))] [(0, 1, (.c (.v (.string ⟨#[74, 77, 80]⟩)))), (1, 1, (.c (.v (.int .i64 3))))]⟩, ⟨(some 26), none, .build [(.v (.string ⟨#[]⟩)), (.v (.int .i64 0))] [(0, 1, (.c (.v (.string ⟨#[74, 77, 80, 67]⟩)))), (1, 1, (.c (.v (.int .i64 3))))]⟩, ⟨(some 27), none, .build [(.v (.string ⟨#[]⟩)), (.v (.int .i64 0))] [(0, 1, (.c (.v (.string ⟨#[74, 77, 80, 67, 78]⟩)))), (1, 1, (.c (.v (.int .i64 3))))]⟩, ⟨(some 28), none, .build [(.v (.string ⟨#[]⟩)), (.v (.int .i64 0))] [(0, 1, (.c (.v (.string ⟨#[82, 69, 84]⟩)))), (1, 1, (.c (.v (.int .i64 4))))]⟩, ⟨(some 29), none, .build [(.v (.string ⟨#[]⟩)), (.v (.int .i64 0))] [(0, 1, (.c (.v (.string ⟨#[82, 69, 84, 67]⟩)))), (1, 1, (.c (.v (.int .i64 4))))]⟩, ⟨(some 30), none, .build [(.v (.string ⟨#[]⟩)), (.v (.int .i64 0))] [(0, 1, (.c (.v (.string ⟨#[82, 69, 84, 67, 78]⟩)))), (1, 1, (.c (.v (.int .i64 4))))]⟩, ⟨(some 31), none, .build [(.v (.string ⟨#[]⟩)), (.v (.int .i64 0))] [(0, 1, (.c (.v (.string ⟨#[67, 79, 78, 86]⟩)))), (1, 1, (.c (.v (.int .i64 5))))]⟩, ⟨(some 32), none, .build [(.v (.string ⟨#[]⟩)), (.v (.int .i64 0))] [(0, 1, (.c (.v (.string ⟨#[]⟩)))), (1, 1, (.c (.v (.int .i64 6))))]⟩, ⟨(some 33), none, .build [(.v (.string ⟨#[]⟩)), (.v (.int .i64 0))] [(0, 1, (.c (.v (.string ⟨#[]⟩)))), (1, 1, (.c (.v (.int .i64 4))))]⟩, ⟨(some 34), none, .build [(.v (.string ⟨#[]⟩)), (.v (.int .i64 0))] [(0, 1, (.c (.v (.string ⟨#[84, 79, 78]⟩)))), (1, 1, (.c (.v (.int .i64 7))))]⟩, ⟨(some 35), none, .build [(.v (.string ⟨#[]⟩)), (.v (.int .i64 0))] [(0, 1, (.c (.v (.string ⟨#[67, 84, 85]⟩)))), (1, 1, (.c (.v (.int .i64 7))))]⟩, ⟨(some 36), none, .build [(.v (.string ⟨#[]⟩)), (.v (.int .i64 0))] [(0, 1, (.c (.v (.string ⟨#[84, 82, 73, 71]⟩)))), (1, 1, (.c (.v (.int .i64 8))))]⟩, ⟨(some 37), none, .row 2 37 [(.v (.string ⟨#[]⟩)), (.v (.int .i64 0))] [(2, 2, (.t 1)), (4, 2, (.t 2)), (6, 2, (.t 3)), (8, 2, (.t 4)), (10, 2, (.t 5)), (12, 2, (.t 6)), (14, 2, (.t 7)), (16, 2, (.t 8)), (18, 2, (.t 9)), (20, 2, (.t 10)), (22, 2, (.t 11)), (24, 2, (.t 12)), (26, 2, (.t 13)), (28, 2, (.t 14)), (30, 2, (.t 15)), (32, 2, (.t 16)), (34, 2, (.t 17)), (36, 2, (.t 18)), (38, 2, (.t 19)), (40, 2, (.t 20)), (42, 2, (.t 21)), (44, 2, (.t 22)), (46, 2, (.t 23)), (48, 2, (.t 24)), (50, 2, (.t 25)), (52, 2, (.t 26)), (54, 2, (.t 27)), (56, 2, (.t 28)), (58, 2, (.t 29)), (60, 2, (.t 30)), (62, 2, (.t 31)), (64, 2, (.t 32)), (66, 2, (.t 33)), (68, 2, (.t 34)), (70, 2, (.t 35)), (72, 2, (.t 36))]⟩, ⟨(some 0), none, .mv (.t 37)⟩]) (.drop [1, 37]))
  .ret))
def a_il_ops : AFn := ⟨0, b_il_ops, [.t 0], true, false⟩
theorem a_il_ops_ok : compF Try.prog Try.f99 [[0, 0], [1, 37]] true false hv = some a_il_ops := by kernel_rfl

/-! fugleman/il.of: 73 -/
def b_il_of : AC :=
 (.seq (.seq (.reg [⟨(some 2), none, .alloc [(.v (.string ⟨#[]⟩)), (.v (.int .i64 0))]⟩]) (.drop []))
 (.seq (.seq (.reg [⟨(some 4), none, .call (.c (.fn 99 [])) []⟩, ⟨(some 3), none, .mv (.t 4)⟩]) (.drop [4, 4]))
  (.seq (.seq (.seq (.reg [⟨(some 5), none, .mv (.t 0)⟩, ⟨(some 6), none, .bin .lss (.t 5) (.c (.v (.int .i64 0)))⟩, ⟨(some 7), none, .mv (.t 6)⟩, ⟨(some 8), (some (7, false)), .mv (.t 0)⟩, ⟨(some 9), (some (7, false)), .mv (.t 3)⟩, ⟨(some 10), (some (7, false)), .len (.t 9)⟩, ⟨(some 11), (some (7, false)), .bin .geq (.t 8) (.t 10)⟩, ⟨(some 12), none, .pick (.t 7) (.c (.v (.bool true))) (.t 11)⟩]) (.drop [4, 11]))
    (.cond (.t 12) (.seq (.seq (.reg [⟨(some 13), none, .build [(.v (.string ⟨#[]⟩)), (.v (.int .i64 0))] []⟩, ⟨none, none, .store 2 (.t 2) (.t 13)⟩]) (.drop [3, 13]))
      .ret)
     .skip))
   (.seq (.seq (.reg [⟨(some 14), none, .mv (.t 3)⟩, ⟨(some 15), none, .mv (.t 0)⟩, ⟨(some 16), none, .ixs 2 (.t 14) (.t 15)⟩, ⟨(some 17), none, .load (some 2) (.t 16)⟩, ⟨none, none, .store 2 (.t 2) (.t 17)⟩]) (.drop [3, 17]))
    .ret))))
def a_il_of : AFn := ⟨1, b_il_of, [.cell 2 (some 2)], false, false⟩
theorem a_il_of_ok : compF Try.prog Try.f73 [[], [4, 4], [4, 11], [3, 13], [3, 17]] false false hv = some a_il_of := by kernel_rfl

/-! fugleman/iec.kinds: 103 -/
def b_iec_kinds : AC :=
 (.seq (.seq (.reg [⟨(some 0), none, .mv (.c (.v (.slice none 0 0)))⟩]) (.drop [0, 0]))
 (.seq (.seq (.reg [⟨(some 1), none, .build [(.v (.string ⟨#[]⟩)), (.v (.int .i64 0)), (.v (.bool false)), (.v (.bool false))] [(0, 1, (.c (.v (.string ⟨#[66, 79, 79, 76]⟩)))), (1, 1, (.c (.v (.int .i64 1)))), (2, 1, (.c (.v (.bool false)))), (3, 1, (.c (.v (.bool true))))]⟩, ⟨(some 2), none, .build [(.v (.string ⟨#[]⟩)), (.v (.int .i64 0)), (.v (.bool false)), (.v (.bool false))] [(0, 1, (.c (.v (.string ⟨#[83, 73, 78, 84]⟩)))), (1, 1, (.c (.v (.int .i64 1)))), (2, 1, (.c (.v (.bool true)))), (3, 1, (.c (.v (.bool false))))]⟩, ⟨(some 3), none, .build [(.v (.string ⟨#[]⟩)), (.v (.int .i64 0)), (.v (.bool false)), (.v (.bool false))] [(0, 1, (.c (.v (.string ⟨#[73, 78, 84]⟩)))), (1, 1, (.c (.v (.int .i64 2)))), (2, 1, (.c (.v (.bool true)))), (3, 1, (.c (.v (.bool false))))]⟩, ⟨(some 4), none, .build [(.v (.string ⟨#[]⟩)), (.v (.int .i64 0)), (.v (.bool false)), (.v (.bool false))] [(0, 1, (.c (.v (.string ⟨#[68, 73, 78, 84]⟩)))), (1, 1, (.c (.v (.int .i64 4)))), (2, 1, (.c (.v (.bool true)))), (3, 1, (.c (.v (.bool false))))]⟩, ⟨(some 5), none, .build [(.v (.string ⟨#[]⟩)), (.v (.int .i64 0)), (.v (.bool false)), (.v (.bool false))] [(0, 1, (.c (.v (.string ⟨#[85, 73, 78, 84]⟩)))), (1, 1, (.c (.v (.int .i64 2)))), (2, 1, (.c (.v (.bool false)))), (3, 1, (.c (.v (.bool false))))]⟩, ⟨(some 6), none, .build [(.v (.string ⟨#[]⟩)), (.v (.int .i64 0)), (.v (.bool false)), (.v (.bool false))] [(0, 1, (.c (.v (.string ⟨#[87, 79, 82, 68]⟩)))), (1, 1, (.c (.v (.int .i64 2)))), (2, 1, (.c (.v (.bool false)))), (3, 1, (.c (.v (.bool true))))]⟩, ⟨(some 7), none, .build [(.v (.string ⟨#[]⟩)), (.v (.int .i64 0)), (.v (.bool false)), (.v (.bool false))] [(0, 1, (.c (.v (.string ⟨#[68, 87, 79, 82, 68]⟩)))), (1, 1, (.c (.v (.int .i64 4)))), (2, 1, (.c (.v (.bool false)))), (3, 1, (.c (.v (.bool true))))]⟩, ⟨(some 8), none, .row 4 8 [(.v (.string ⟨#[]⟩)), (.v (.int .i64 0)), (.v (.bool false)), (.v (.bool false))] [(4, 4, (.t 1)), (8, 4, (.t 2)), (12, 4, (.t 3)), (16, 4, (.t 4)), (20, 4, (.t 5)), (24, 4, (.t 6)), (28, 4, (.t 7))]⟩, ⟨(some 0), none, .mv (.t 8)⟩]) (.drop [1, 8]))
  .ret))
def a_iec_kinds : AFn := ⟨0, b_iec_kinds, [.t 0], true, false⟩
theorem a_iec_kinds_ok : compF Try.prog Try.f103 [[0, 0], [1, 8]] true false hv = some a_iec_kinds := by kernel_rfl

/-! fugleman/iec.of: 90 -/
def b_iec_of : AC :=
 (.seq (.seq (.reg [⟨(some 2), none, .alloc [(.v (.string ⟨#[]⟩)), (.v (.int .i64 0)), (.v (.bool false)), (.v (.bool false))]⟩, ⟨(some 3), none, .mv (.c (.v (.bool false)))⟩]) (.drop [3, 3]))
 (.seq (.seq (.seq (.reg [⟨(some 4), none, .mv (.t 0)⟩, ⟨(some 5), none, .bin .lss (.t 4) (.c (.v (.int .i64 1)))⟩, ⟨(some 6), none, .mv (.t 5)⟩, ⟨(some 7), (some (6, false)), .mv (.t 0)⟩, ⟨(some 8), (some (6, false)), .bin .gtr (.t 7) (.c (.v (.int .i64 7)))⟩, ⟨(some 9), none, .pick (.t 6) (.c (.v (.bool true))) (.t 8)⟩]) (.drop [3, 8]))
   (.cond (.t 9) (.seq (.seq (.reg [⟨(some 10), none, .build [(.v (.string ⟨#[]⟩)), (.v (.int .i64 0)), (.v (.bool false)), (.v (.bool false))] []⟩, ⟨none, none, .store 4 (.t 2) (.t 10)⟩, ⟨(some 3), none, .mv (.c (.v (.bool false)))⟩]) (.drop [4, 10]))
     .ret)
    .skip))
  (.seq (.seq (.reg [⟨(some 11), none, .call (.c (.fn 103 [])) []⟩, ⟨(some 12), none, .mv (.t 0)⟩, ⟨(some 13), none, .ixs 4 (.t 11) (.t 12)⟩, ⟨(some 14), none, .load (some 4) (.t 13)⟩, ⟨none, none, .store 4 (.t 2) (.t 14)⟩, ⟨(some 3), none, .mv (.c (.v (.bool true)))⟩]) (.drop [4, 14]))
   .ret)))
def a_iec_of : AFn := ⟨1, b_iec_of, [.cell 2 (some 4), .t 3], false, false⟩
theorem a_iec_of_ok : compF Try.prog Try.f90 [[3, 3], [3, 8], [4, 10], [4, 14]] false false hv = some a_iec_of := by kernel_rfl

/-! fugleman/iec.Wrap: 56 -/
def c_iec_Wrap_0 : AC :=
 (.seq (.seq (.reg [⟨(some 63), none, .fad 1 (.t 5)⟩, ⟨(some 64), none, .load none (.t 63)⟩, ⟨(some 65), none, .bin .eql (.t 64) (.c (.v (.int .i64 4)))⟩, ⟨(some 62), none, .mv (.t 65)⟩]) (.drop [63, 65]))
                 (.cond (.t 62) (.seq (.seq (.reg [⟨(some 66), none, .mv (.t 1)⟩, ⟨(some 67), none, .cvi .u32 (.t 66)⟩, ⟨(some 68), none, .cvi .i64 (.t 67)⟩, ⟨(some 4), none, .mv (.t 68)⟩]) (.drop [5, 68]))
                   .ret)
                  .skip))
theorem g_iec_Wrap_0 {C : CT} {lf : Nat} {ks : List It} {s : St} : type_of% (@Sym.go_as C lf ks s _ _ c_iec_Wrap_0.eq_1) := Sym.go_as c_iec_Wrap_0.eq_1
def c_iec_Wrap_1 : AC :=
 (.seq (.seq (.reg [⟨(some 56), none, .fad 1 (.t 5)⟩, ⟨(some 57), none, .load none (.t 56)⟩, ⟨(some 58), none, .bin .eql (.t 57) (.c (.v (.int .i64 2)))⟩, ⟨(some 55), none, .mv (.t 58)⟩]) (.drop [56, 58]))
               (.cond (.t 55) (.seq (.seq (.reg [⟨(some 59), none, .mv (.t 1)⟩, ⟨(some 60), none, .cvi .u16 (.t 59)⟩, ⟨(some 61), none, .cvi .i64 (.t 60)⟩, ⟨(some 4), none, .mv (.t 61)⟩]) (.drop [5, 61]))
                 .ret)
                c_iec_Wrap_0))
theorem g_iec_Wrap_1 {C : CT} {lf : Nat} {ks : List It} {s : St} : type_of% (@Sym.go_as C lf ks s _ _ c_iec_Wrap_1.eq_1) := Sym.go_as c_iec_Wrap_1.eq_1
def c_iec_Wrap_2 : AC :=
 (.seq (.seq (.reg [⟨(some 45), none, .fad 1 (.t 5)⟩, ⟨(some 46), none, .load none (.t 45)⟩, ⟨(some 47), none, .bin .eql (.t 46) (.c (.v (.int .i64 4)))⟩, ⟨(some 48), none, .mv (.t 47)⟩, ⟨(some 49), (some (48, true)), .fad 2 (.t 5)⟩, ⟨(some 50), (some (48, true)), .load none (.t 49)⟩, ⟨(some 51), none, .pick (.t 48) (.t 50) (.c (.v (.bool false)))⟩, ⟨(some 44), none, .mv (.t 51)⟩]) (.drop [45, 51]))
             (.cond (.t 44) (.seq (.seq (.reg [⟨(some 52), none, .mv (.t 1)⟩, ⟨(some 53), none, .cvi .i32 (.t 52)⟩, ⟨(some 54), none, .cvi .i64 (.t 53)⟩, ⟨(some 4), none, .mv (.t 54)⟩]) (.drop [5, 54]))
               .ret)
              c_iec_Wrap_1))
theorem g_iec_Wrap_2 {C : CT} {lf : Nat} {ks : List It} {s : St} : type_of% (@Sym.go_as C lf ks s _ _ c_iec_Wrap_2.eq_1) := Sym.go_as c_iec_Wrap_2.eq_1
def c_iec_Wrap_3 : AC :=
 (.seq (.seq (.reg [⟨(some 34), none, .fad 1 (.t 5)⟩, ⟨(some 35), none, .load none (.t 34)⟩, ⟨(some 36), none, .bin .eql (.t 35) (.c (.v (.int .i64 2)))⟩, ⟨(some 37), none, .mv (.t 36)⟩, ⟨(some 38), (some (37, true)), .fad 2 (.t 5)⟩, ⟨(some 39), (some (37, true)), .load none (.t 38)⟩, ⟨(some 40), none, .pick (.t 37) (.t 39) (.c (.v (.bool false)))⟩, ⟨(some 33), none, .mv (.t 40)⟩]) (.drop [34, 40]))
           (.cond (.t 33) (.seq (.seq (.reg [⟨(some 41), none, .mv (.t 1)⟩, ⟨(some 42), none, .cvi .i16 (.t 41)⟩, ⟨(some 43), none, .cvi .i64 (.t 42)⟩, ⟨(some 4), none, .mv (.t 43)⟩]) (.drop [5, 43]))
             .ret)
            c_iec_Wrap_2))
theorem g_iec_Wrap_3 {C : CT} {lf : Nat} {ks : List It} {s : St} : type_of% (@Sym.go_as C lf ks s _ _ c_iec_Wrap_3.eq_1) := Sym.go_as c_iec_Wrap_3.eq_1
def c_iec_Wrap_4 : AC :=
 (.seq (.seq (.reg [⟨(some 23), none, .fad 1 (.t 5)⟩, ⟨(some 24), none, .load none (.t 23)⟩, ⟨(some 25), none, .bin .eql (.t 24) (.c (.v (.int .i64 1)))⟩, ⟨(some 26), none, .mv (.t 25)⟩, ⟨(some 27), (some (26, true)), .fad 2 (.t 5)⟩, ⟨(some 28), (some (26, true)), .load none (.t 27)⟩, ⟨(some 29), none, .pick (.t 26) (.t 28) (.c (.v (.bool false)))⟩, ⟨(some 22), none, .mv (.t 29)⟩]) (.drop [23, 29]))
         (.cond (.t 22) (.seq (.seq (.reg [⟨(some 30), none, .mv (.t 1)⟩, ⟨(some 31), none, .cvi .i8 (.t 30)⟩, ⟨(some 32), none, .cvi .i64 (.t 31)⟩, ⟨(some 4), none, .mv (.t 32)⟩]) (.drop [5, 32]))
           .ret)
          c_iec_Wrap_3))
theorem g_iec_Wrap_4 {C : CT} {lf : Nat} {ks : List It} {s : St} : type_of% (@Sym.go_as C lf ks s _ _ c_iec_Wrap_4.eq_1) := Sym.go_as c_iec_Wrap_4.eq_1
def c_iec_Wrap_5 : AC :=
 (.seq (.seq (.reg [⟨(some 16), none, .mv (.t 0)⟩, ⟨(some 17), none, .bin .eql (.t 16) (.c (.v (.int .i64 1)))⟩, ⟨(some 18), none, .mv (.t 17)⟩, ⟨(some 19), (some (18, true)), .mv (.t 1)⟩, ⟨(some 20), (some (18, true)), .bin .neq (.t 19) (.c (.v (.int .i64 0)))⟩, ⟨(some 21), none, .pick (.t 18) (.t 20) (.c (.v (.bool false)))⟩, ⟨(some 15), none, .mv (.t 21)⟩]) (.drop [16, 21]))
       (.cond (.t 15) (.seq (.seq (.reg [⟨(some 4), none, .mv (.c (.v (.int .i64 1)))⟩]) (.drop []))
         .ret)
        c_iec_Wrap_4))
theorem g_iec_Wrap_5 {C : CT} {lf : Nat} {ks : List It} {s : St} : type_of% (@Sym.go_as C lf ks s _ _ c_iec_Wrap_5.eq_1) := Sym.go_as c_iec_Wrap_5.eq_1
theorem gs_iec_Wrap : type_of% (And.intro (And.intro (@g_iec_Wrap_0) (And.intro (@g_iec_Wrap_1) (@g_iec_Wrap_2))) (And.intro (@g_iec_Wrap_3) (And.intro (@g_iec_Wrap_4) (@g_iec_Wrap_5)))) := (And.intro (And.intro (@g_iec_Wrap_0) (And.intro (@g_iec_Wrap_1) (@g_iec_Wrap_2))) (And.intro (@g_iec_Wrap_3) (And.intro (@g_iec_Wrap_4) (@g_iec_Wrap_5))))
def b_iec_Wrap : AC :=
 (.seq (.seq (.reg [⟨(some 4), none, .mv (.c (.v (.int .i64 0)))⟩]) (.drop [2, 4]))
 (.seq (.seq (.reg [⟨(some 8), none, .mv (.t 0)⟩, ⟨(some 9), none, .call (.c (.fn 90 [])) [(.t 8)]⟩, ⟨(some 7), none, .mv (.t 9)⟩, ⟨(some 10), none, .ext 0 (.t 7)⟩, ⟨(some 11), none, .ext 1 (.t 7)⟩, ⟨(some 5), none, .alloc [(.v (.string ⟨#[]⟩)), (.v (.int .i64 0)), (.v (.bool false)), (.v (.bool false))]⟩, ⟨none, none, .store 4 (.t 5) (.t 10)⟩, ⟨(some 6), none, .mv (.t 11)⟩]) (.drop [7, 11]))
  (.seq (.block 0 (.seq (.seq (.reg [⟨(some 13), none, .mv (.t 6)⟩, ⟨(some 14), none, .un .not (.t 13)⟩, ⟨(some 12), none, .mv (.t 14)⟩]) (.drop [13, 14]))
     (.cond (.t 12) (.seq (.seq (.reg [⟨(some 4), none, .mv (.c (.v (.int .i64 0)))⟩]) (.drop []))
       .ret)
      c_iec_Wrap_5)))
   (.seq (.seq (.reg [⟨(some 4), none, .mv (.c (.v (.int .i64 0)))⟩]) (.drop []))
    .ret))))
def a_iec_Wrap : AFn := ⟨2, b_iec_Wrap, [.t 4], false, false⟩
theorem a_iec_Wrap_ok : compF Try.prog Try.f56 [[2, 4], [7, 11], [13, 14], [], [16, 21], [], [23, 29], [5, 32], [34, 40], [5, 43], [45, 51], [5, 54], [56, 58], [5, 61], [63, 65], [5, 68], []] false false hv = some a_iec_Wrap := by kernel_rfl

/-! fugleman/iec.Is: 74 -/
def b_iec_Is : AC :=
 (.seq (.seq (.reg [⟨(some 4), none, .mv (.c (.v (.bool false)))⟩]) (.drop [2, 4]))
 (.seq (.seq (.reg [⟨(some 8), none, .mv (.t 0)⟩, ⟨(some 9), none, .call (.c (.fn 90 [])) [(.t 8)]⟩, ⟨(some 7), none, .mv (.t 9)⟩, ⟨(some 10), none, .ext 0 (.t 7)⟩, ⟨(some 11), none, .ext 1 (.t 7)⟩, ⟨(some 5), none, .alloc [(.v (.string ⟨#[]⟩)), (.v (.int .i64 0)), (.v (.bool false)), (.v (.bool false))]⟩, ⟨none, none, .store 4 (.t 5) (.t 10)⟩, ⟨(some 6), none, .mv (.t 11)⟩]) (.drop [2, 5, 7, 11]))
  (.seq (.seq (.reg [⟨(some 12), none, .mv (.t 6)⟩, ⟨(some 13), none, .mv (.t 12)⟩, ⟨(some 14), (some (13, true)), .mv (.t 0)⟩, ⟨(some 15), (some (13, true)), .mv (.t 1)⟩, ⟨(some 16), (some (13, true)), .call (.c (.fn 56 [])) [(.t 14), (.t 15)]⟩, ⟨(some 17), (some (13, true)), .mv (.t 1)⟩, ⟨(some 18), (some (13, true)), .bin .eql (.t 16) (.t 17)⟩, ⟨(some 19), none, .pick (.t 13) (.t 18) (.c (.v (.bool false)))⟩, ⟨(some 4), none, .mv (.t 19)⟩]) (.drop [5, 19]))
   .ret)))
def a_iec_Is : AFn := ⟨2, b_iec_Is, [.t 4], false, false⟩
theorem a_iec_Is_ok : compF Try.prog Try.f74 [[2, 4], [2, 5, 7, 11], [5, 19]] false false hv = some a_iec_Is := by kernel_rfl

/-! fugleman/iec.Size: 76 -/
def b_iec_Size : AC :=
 (.seq (.seq (.reg [⟨(some 2), none, .mv (.c (.v (.int .i64 0)))⟩]) (.drop [1, 2]))
 (.seq (.seq (.reg [⟨(some 6), none, .mv (.t 0)⟩, ⟨(some 7), none, .call (.c (.fn 90 [])) [(.t 6)]⟩, ⟨(some 5), none, .mv (.t 7)⟩, ⟨(some 8), none, .ext 0 (.t 5)⟩, ⟨(some 9), none, .ext 1 (.t 5)⟩, ⟨(some 3), none, .alloc [(.v (.string ⟨#[]⟩)), (.v (.int .i64 0)), (.v (.bool false)), (.v (.bool false))]⟩, ⟨none, none, .store 4 (.t 3) (.t 8)⟩, ⟨(some 4), none, .mv (.t 9)⟩]) (.drop [4, 9]))
  (.seq (.seq (.reg [⟨(some 10), none, .fad 1 (.t 3)⟩, ⟨(some 11), none, .load none (.t 10)⟩, ⟨(some 2), none, .mv (.t 11)⟩]) (.drop [3, 11]))
   .ret)))
def a_iec_Size : AFn := ⟨1, b_iec_Size, [.t 2], false, false⟩
theorem a_iec_Size_ok : compF Try.prog Try.f76 [[1, 2], [4, 9], [3, 11]] false false hv = some a_iec_Size := by kernel_rfl

/-! fugleman/il.stands: 75 -/
def b_il_stands : AC :=
 (.seq (.seq (.reg [⟨(some 2), none, .box (.t 0)⟩, ⟨(some 4), none, .mv (.c (.v (.bool false)))⟩]) (.drop [3, 4]))
 (.seq (.seq (.reg [⟨(some 6), none, .fad 1 (.t 2)⟩, ⟨(some 7), none, .load none (.t 6)⟩, ⟨(some 8), none, .call (.c (.fn 76 [])) [(.t 7)]⟩, ⟨(some 5), none, .mv (.t 8)⟩]) (.drop [6, 8]))
  (.seq (.seq (.reg [⟨(some 9), none, .mv (.t 5)⟩, ⟨(some 10), none, .bin .gtr (.t 9) (.c (.v (.int .i64 0)))⟩, ⟨(some 11), none, .mv (.t 10)⟩, ⟨(some 12), (some (11, true)), .fad 2 (.t 2)⟩, ⟨(some 13), (some (11, true)), .load none (.t 12)⟩, ⟨(some 14), (some (11, true)), .mv (.t 1)⟩, ⟨(some 15), (some (11, true)), .bin .geq (.t 13) (.t 14)⟩, ⟨(some 16), none, .pick (.t 11) (.t 15) (.c (.v (.bool false)))⟩, ⟨(some 17), none, .mv (.t 16)⟩, ⟨(some 18), (some (17, true)), .fad 2 (.t 2)⟩, ⟨(some 19), (some (17, true)), .load none (.t 18)⟩, ⟨(some 20), (some (17, true)), .bin .leq (.t 19) (.c (.v (.int .i64 4)))⟩, ⟨(some 21), none, .pick (.t 17) (.t 20) (.c (.v (.bool false)))⟩, ⟨(some 22), none, .mv (.t 21)⟩, ⟨(some 23), (some (22, true)), .fad 3 (.t 2)⟩, ⟨(some 24), (some (22, true)), .load none (.t 23)⟩, ⟨(some 25), (some (22, true)), .bin .geq (.t 24) (.c (.v (.int .i64 0)))⟩, ⟨(some 26), none, .pick (.t 22) (.t 25) (.c (.v (.bool false)))⟩, ⟨(some 27), none, .mv (.t 26)⟩, ⟨(some 28), (some (27, true)), .fad 3 (.t 2)⟩, ⟨(some 29), (some (27, true)), .load none (.t 28)⟩, ⟨(some 30), (some (27, true)), .mv (.t 5)⟩, ⟨(some 31), (some (27, true)), .bin .sub (.c (.v (.int .i64 64))) (.t 30)⟩, ⟨(some 32), (some (27, true)), .bin .leq (.t 29) (.t 31)⟩, ⟨(some 33), none, .pick (.t 27) (.t 32) (.c (.v (.bool false)))⟩, ⟨(some 34), none, .mv (.t 33)⟩, ⟨(some 35), (some (34, true)), .fad 4 (.t 2)⟩, ⟨(some 36), (some (34, true)), .load none (.t 35)⟩, ⟨(some 37), (some (34, true)), .bin .eql (.t 36) (.c (.v (.int .i64 0)))⟩, ⟨(some 38), none, .pick (.t 34) (.t 37) (.c (.v (.bool false)))⟩, ⟨(some 4), none, .mv (.t 38)⟩]) (.drop [5, 38]))
   .ret)))
def a_il_stands : AFn := ⟨2, b_il_stands, [.t 4], false, false⟩
theorem a_il_stands_ok : compF Try.prog Try.f75 [[3, 4], [6, 8], [5, 38]] false false hv = some a_il_stands := by kernel_rfl

/-! fugleman/il.within: 77 -/
def b_il_within : AC :=
 (.seq (.seq (.reg [⟨(some 2), none, .mv (.c (.v (.bool false)))⟩]) (.drop [1, 2]))
 (.seq (.seq (.reg [⟨(some 3), none, .mv (.t 0)⟩, ⟨(some 4), none, .call (.c (.fn 73 [])) [(.t 3)]⟩, ⟨(some 5), none, .fld 1 none (.t 4)⟩, ⟨(some 6), none, .bin .eql (.t 5) (.c (.v (.int .i64 1)))⟩, ⟨(some 7), none, .mv (.t 6)⟩, ⟨(some 8), (some (7, true)), .mv (.t 0)⟩, ⟨(some 9), (some (7, true)), .bin .geq (.t 8) (.c (.v (.int .i64 7)))⟩, ⟨(some 10), none, .pick (.t 7) (.t 9) (.c (.v (.bool false)))⟩, ⟨(some 2), none, .mv (.t 10)⟩]) (.drop [3, 10]))
  .ret))
def a_il_within : AFn := ⟨1, b_il_within, [.t 2], false, false⟩
theorem a_il_within_ok : compF Try.prog Try.f77 [[1, 2], [3, 10]] false false hv = some a_il_within := by kernel_rfl

/-! fugleman/il.keeps: 78 -/
def b_il_keeps : AC :=
 (.seq (.seq (.reg [⟨(some 2), none, .mv (.c (.v (.bool false)))⟩]) (.drop [1, 2]))
 (.seq (.seq (.reg [⟨(some 3), none, .mv (.t 0)⟩, ⟨(some 4), none, .bin .eql (.t 3) (.c (.v (.int .i64 3)))⟩, ⟨(some 5), none, .mv (.t 4)⟩, ⟨(some 6), (some (5, false)), .mv (.t 0)⟩, ⟨(some 7), (some (5, false)), .bin .eql (.t 6) (.c (.v (.int .i64 4)))⟩, ⟨(some 8), none, .pick (.t 5) (.c (.v (.bool true))) (.t 7)⟩, ⟨(some 2), none, .mv (.t 8)⟩]) (.drop [3, 8]))
  .ret))
def a_il_keeps : AFn := ⟨1, b_il_keeps, [.t 2], false, false⟩
theorem a_il_keeps_ok : compF Try.prog Try.f78 [[1, 2], [3, 8]] false false hv = some a_il_keeps := by kernel_rfl

/-! fugleman/il.Right: 47 -/
def c_il_Right_0 : AC :=
 (.seq (.seq (.reg [⟨(some 23), none, .fad 3 (.t 1)⟩, ⟨(some 24), none, .load none (.t 23)⟩, ⟨(some 25), none, .bin .eql (.t 24) (.c (.v (.int .i64 0)))⟩, ⟨(some 26), none, .mv (.t 25)⟩, ⟨(some 27), (some (26, true)), .fad 1 (.t 1)⟩, ⟨(some 28), (some (26, true)), .load none (.t 27)⟩, ⟨(some 29), (some (26, true)), .fad 4 (.t 1)⟩, ⟨(some 30), (some (26, true)), .load none (.t 29)⟩, ⟨(some 31), (some (26, true)), .call (.c (.fn 74 [])) [(.t 28), (.t 30)]⟩, ⟨(some 32), none, .pick (.t 26) (.t 31) (.c (.v (.bool false)))⟩, ⟨(some 2), none, .mv (.t 32)⟩]) (.drop [3, 32]))
            .ret)
theorem g_il_Right_0 {C : CT} {lf : Nat} {ks : List It} {s : St} : type_of% (@Sym.go_as C lf ks s _ _ c_il_Right_0.eq_1) := Sym.go_as c_il_Right_0.eq_1
def c_il_Right_1 : AC :=
 (.seq (.seq (.seq (.reg [⟨(some 20), none, .fad 2 (.t 1)⟩, ⟨(some 21), none, .load none (.t 20)⟩, ⟨(some 22), none, .bin .eql (.t 21) (.c (.v (.int .i64 0)))⟩]) (.drop [2, 21]))
          (.cond (.t 22) c_il_Right_0
           .skip))
         (.seq (.seq (.reg [⟨(some 33), none, .load (some 5) (.t 1)⟩, ⟨(some 34), none, .call (.c (.fn 75 [])) [(.t 33), (.c (.v (.int .i64 1)))]⟩, ⟨(some 2), none, .mv (.t 34)⟩]) (.drop [3, 34]))
          .ret))
theorem g_il_Right_1 {C : CT} {lf : Nat} {ks : List It} {s : St} : type_of% (@Sym.go_as C lf ks s _ _ c_il_Right_1.eq_1) := Sym.go_as c_il_Right_1.eq_1
def c_il_Right_2 : AC :=
 (.seq (.seq (.reg [⟨(some 41), none, .mv (.t 4)⟩, ⟨(some 42), none, .mv (.t 41)⟩, ⟨(some 43), (some (42, true)), .fad 1 (.t 1)⟩, ⟨(some 44), (some (42, true)), .load none (.t 43)⟩, ⟨(some 45), (some (42, true)), .bin .eql (.t 44) (.c (.v (.int .i64 0)))⟩, ⟨(some 46), none, .pick (.t 42) (.t 45) (.c (.v (.bool false)))⟩, ⟨(some 47), none, .mv (.t 46)⟩, ⟨(some 48), (some (47, true)), .fad 3 (.t 1)⟩, ⟨(some 49), (some (47, true)), .load none (.t 48)⟩, ⟨(some 50), (some (47, true)), .bin .geq (.t 49) (.c (.v (.int .i64 0)))⟩, ⟨(some 51), none, .pick (.t 47) (.t 50) (.c (.v (.bool false)))⟩, ⟨(some 52), none, .mv (.t 51)⟩, ⟨(some 53), (some (52, true)), .fad 3 (.t 1)⟩, ⟨(some 54), (some (52, true)), .load none (.t 53)⟩, ⟨(some 55), (some (52, true)), .bin .leq (.t 54) (.c (.v (.int .i64 200)))⟩, ⟨(some 56), none, .pick (.t 52) (.t 55) (.c (.v (.bool false)))⟩, ⟨(some 2), none, .mv (.t 56)⟩]) (.drop [3, 56]))
             .ret)
theorem g_il_Right_2 {C : CT} {lf : Nat} {ks : List It} {s : St} : type_of% (@Sym.go_as C lf ks s _ _ c_il_Right_2.eq_1) := Sym.go_as c_il_Right_2.eq_1
def c_il_Right_3 : AC :=
 (.seq (.seq (.reg [⟨(some 59), none, .mv (.t 4)⟩, ⟨(some 60), none, .mv (.t 59)⟩, ⟨(some 61), (some (60, true)), .fad 1 (.t 1)⟩, ⟨(some 62), (some (60, true)), .load none (.t 61)⟩, ⟨(some 63), (some (60, true)), .bin .eql (.t 62) (.c (.v (.int .i64 0)))⟩, ⟨(some 64), none, .pick (.t 60) (.t 63) (.c (.v (.bool false)))⟩, ⟨(some 65), none, .mv (.t 64)⟩, ⟨(some 66), (some (65, true)), .fad 3 (.t 1)⟩, ⟨(some 67), (some (65, true)), .load none (.t 66)⟩, ⟨(some 68), (some (65, true)), .bin .eql (.t 67) (.c (.v (.int .i64 0)))⟩, ⟨(some 69), none, .pick (.t 65) (.t 68) (.c (.v (.bool false)))⟩, ⟨(some 2), none, .mv (.t 69)⟩]) (.drop [3, 69]))
               .ret)
theorem g_il_Right_3 {C : CT} {lf : Nat} {ks : List It} {s : St} : type_of% (@Sym.go_as C lf ks s _ _ c_il_Right_3.eq_1) := Sym.go_as c_il_Right_3.eq_1
def c_il_Right_4 : AC :=
 (.seq (.seq (.reg [⟨(some 72), none, .mv (.t 4)⟩, ⟨(some 73), none, .mv (.t 72)⟩, ⟨(some 74), (some (73, true)), .fad 3 (.t 1)⟩, ⟨(some 75), (some (73, true)), .load none (.t 74)⟩, ⟨(some 76), (some (73, true)), .bin .eql (.t 75) (.c (.v (.int .i64 0)))⟩, ⟨(some 77), none, .pick (.t 73) (.t 76) (.c (.v (.bool false)))⟩, ⟨(some 78), none, .mv (.t 77)⟩, ⟨(some 79), (some (78, true)), .fad 1 (.t 1)⟩, ⟨(some 80), (some (78, true)), .load none (.t 79)⟩, ⟨(some 81), (some (78, true)), .call (.c (.fn 76 [])) [(.t 80)]⟩, ⟨(some 82), (some (78, true)), .bin .gtr (.t 81) (.c (.v (.int .i64 0)))⟩, ⟨(some 83), none, .pick (.t 78) (.t 82) (.c (.v (.bool false)))⟩, ⟨(some 2), none, .mv (.t 83)⟩]) (.drop [3, 83]))
                 .ret)
theorem g_il_Right_4 {C : CT} {lf : Nat} {ks : List It} {s : St} : type_of% (@Sym.go_as C lf ks s _ _ c_il_Right_4.eq_1) := Sym.go_as c_il_Right_4.eq_1
def c_il_Right_5 : AC :=
 (.seq (.seq (.reg [⟨(some 86), none, .mv (.t 4)⟩, ⟨(some 87), none, .mv (.t 86)⟩, ⟨(some 88), (some (87, true)), .fad 1 (.t 1)⟩, ⟨(some 89), (some (87, true)), .load none (.t 88)⟩, ⟨(some 90), (some (87, true)), .bin .eql (.t 89) (.c (.v (.int .i64 0)))⟩, ⟨(some 91), none, .pick (.t 87) (.t 90) (.c (.v (.bool false)))⟩, ⟨(some 92), none, .mv (.t 91)⟩, ⟨(some 93), (some (92, true)), .fad 3 (.t 1)⟩, ⟨(some 94), (some (92, true)), .load none (.t 93)⟩, ⟨(some 95), (some (92, true)), .call (.c (.fn 77 [])) [(.t 94)]⟩, ⟨(some 96), none, .pick (.t 92) (.t 95) (.c (.v (.bool false)))⟩, ⟨(some 2), none, .mv (.t 96)⟩]) (.drop [3, 96]))
                   .ret)
theorem g_il_Right_5 {C : CT} {lf : Nat} {ks : List It} {s : St} : type_of% (@Sym.go_as C lf ks s _ _ c_il_Right_5.eq_1) := Sym.go_as c_il_Right_5.eq_1
def c_il_Right_6 : AC :=
 (.seq (.seq (.reg [⟨(some 99), none, .fad 1 (.t 1)⟩, ⟨(some 100), none, .load none (.t 99)⟩, ⟨(some 101), none, .bin .eql (.t 100) (.c (.v (.int .i64 0)))⟩, ⟨(some 102), none, .mv (.t 101)⟩, ⟨(some 103), (some (102, true)), .fad 2 (.t 1)⟩, ⟨(some 104), (some (102, true)), .load none (.t 103)⟩, ⟨(some 105), (some (102, true)), .call (.c (.fn 78 [])) [(.t 104)]⟩, ⟨(some 106), none, .pick (.t 102) (.t 105) (.c (.v (.bool false)))⟩, ⟨(some 107), none, .mv (.t 106)⟩, ⟨(some 108), (some (107, true)), .fad 3 (.t 1)⟩, ⟨(some 109), (some (107, true)), .load none (.t 108)⟩, ⟨(some 110), (some (107, true)), .bin .geq (.t 109) (.c (.v (.int .i64 0)))⟩, ⟨(some 111), none, .pick (.t 107) (.t 110) (.c (.v (.bool false)))⟩, ⟨(some 112), none, .mv (.t 111)⟩, ⟨(some 113), (some (112, true)), .fad 3 (.t 1)⟩, ⟨(some 114), (some (112, true)), .load none (.t 113)⟩, ⟨(some 115), (some (112, true)), .bin .leq (.t 114) (.c (.v (.int .i64 59)))⟩, ⟨(some 116), none, .pick (.t 112) (.t 115) (.c (.v (.bool false)))⟩, ⟨(some 117), none, .mv (.t 116)⟩, ⟨(some 118), (some (117, true)), .fad 4 (.t 1)⟩, ⟨(some 119), (some (117, true)), .load none (.t 118)⟩, ⟨(some 120), (some (117, true)), .bin .geq (.t 119) (.c (.v (.int .i64 1)))⟩, ⟨(some 121), none, .pick (.t 117) (.t 120) (.c (.v (.bool false)))⟩, ⟨(some 122), none, .mv (.t 121)⟩, ⟨(some 123), (some (122, true)), .fad 4 (.t 1)⟩, ⟨(some 124), (some (122, true)), .load none (.t 123)⟩, ⟨(some 125), (some (122, true)), .bin .leq (.t 124) (.c (.v (.int .i64 9999)))⟩, ⟨(some 126), none, .pick (.t 122) (.t 125) (.c (.v (.bool false)))⟩, ⟨(some 2), none, .mv (.t 126)⟩]) (.drop [3, 126]))
                     .ret)
theorem g_il_Right_6 {C : CT} {lf : Nat} {ks : List It} {s : St} : type_of% (@Sym.go_as C lf ks s _ _ c_il_Right_6.eq_1) := Sym.go_as c_il_Right_6.eq_1
def c_il_Right_7 : AC :=
 (.seq (.seq (.reg [⟨(some 129), none, .fad 1 (.t 1)⟩, ⟨(some 130), none, .load none (.t 129)⟩, ⟨(some 131), none, .bin .eql (.t 130) (.c (.v (.int .i64 0)))⟩, ⟨(some 132), none, .mv (.t 131)⟩, ⟨(some 133), (some (132, true)), .fad 2 (.t 1)⟩, ⟨(some 134), (some (132, true)), .load none (.t 133)⟩, ⟨(some 135), (some (132, true)), .call (.c (.fn 78 [])) [(.t 134)]⟩, ⟨(some 136), none, .pick (.t 132) (.t 135) (.c (.v (.bool false)))⟩, ⟨(some 137), none, .mv (.t 136)⟩, ⟨(some 138), (some (137, true)), .fad 3 (.t 1)⟩, ⟨(some 139), (some (137, true)), .load none (.t 138)⟩, ⟨(some 140), (some (137, true)), .bin .geq (.t 139) (.c (.v (.int .i64 0)))⟩, ⟨(some 141), none, .pick (.t 137) (.t 140) (.c (.v (.bool false)))⟩, ⟨(some 142), none, .mv (.t 141)⟩, ⟨(some 143), (some (142, true)), .fad 3 (.t 1)⟩, ⟨(some 144), (some (142, true)), .load none (.t 143)⟩, ⟨(some 145), (some (142, true)), .bin .lss (.t 144) (.c (.v (.int .i64 64)))⟩, ⟨(some 146), none, .pick (.t 142) (.t 145) (.c (.v (.bool false)))⟩, ⟨(some 147), none, .mv (.t 146)⟩, ⟨(some 148), (some (147, true)), .fad 4 (.t 1)⟩, ⟨(some 149), (some (147, true)), .load none (.t 148)⟩, ⟨(some 150), (some (147, true)), .bin .eql (.t 149) (.c (.v (.int .i64 0)))⟩, ⟨(some 151), none, .pick (.t 147) (.t 150) (.c (.v (.bool false)))⟩, ⟨(some 2), none, .mv (.t 151)⟩]) (.drop [3, 151]))
                       .ret)
theorem g_il_Right_7 {C : CT} {lf : Nat} {ks : List It} {s : St} : type_of% (@Sym.go_as C lf ks s _ _ c_il_Right_7.eq_1) := Sym.go_as c_il_Right_7.eq_1
def c_il_Right_8 : AC :=
 (.seq (.seq (.reg [⟨(some 98), none, .bin .eql (.t 17) (.c (.v (.int .i64 7)))⟩, ⟨(some 97), none, .mv (.t 98)⟩]) (.drop [98, 98]))
                   (.cond (.t 97) c_il_Right_6
                    (.seq (.seq (.reg [⟨(some 128), none, .bin .eql (.t 17) (.c (.v (.int .i64 8)))⟩, ⟨(some 127), none, .mv (.t 128)⟩]) (.drop [128, 128]))
                     (.cond (.t 127) c_il_Right_7
                      .skip))))
theorem g_il_Right_8 {C : CT} {lf : Nat} {ks : List It} {s : St} : type_of% (@Sym.go_as C lf ks s _ _ c_il_Right_8.eq_1) := Sym.go_as c_il_Right_8.eq_1
def c_il_Right_9 : AC :=
 (.seq (.seq (.reg [⟨(some 71), none, .bin .eql (.t 17) (.c (.v (.int .i64 5)))⟩, ⟨(some 70), none, .mv (.t 71)⟩]) (.drop [71, 71]))
               (.cond (.t 70) c_il_Right_4
                (.seq (.seq (.reg [⟨(some 85), none, .bin .eql (.t 17) (.c (.v (.int .i64 6)))⟩, ⟨(some 84), none, .mv (.t 85)⟩]) (.drop [85, 85]))
                 (.cond (.t 84) c_il_Right_5
                  c_il_Right_8))))
theorem g_il_Right_9 {C : CT} {lf : Nat} {ks : List It} {s : St} : type_of% (@Sym.go_as C lf ks s _ _ c_il_Right_9.eq_1) := Sym.go_as c_il_Right_9.eq_1
def c_il_Right_10 : AC :=
 (.seq (.seq (.reg [⟨(some 40), none, .bin .eql (.t 17) (.c (.v (.int .i64 3)))⟩, ⟨(some 39), none, .mv (.t 40)⟩]) (.drop [40, 40]))
           (.cond (.t 39) c_il_Right_2
            (.seq (.seq (.reg [⟨(some 58), none, .bin .eql (.t 17) (.c (.v (.int .i64 4)))⟩, ⟨(some 57), none, .mv (.t 58)⟩]) (.drop [58, 58]))
             (.cond (.t 57) c_il_Right_3
              c_il_Right_9))))
theorem g_il_Right_10 {C : CT} {lf : Nat} {ks : List It} {s : St} : type_of% (@Sym.go_as C lf ks s _ _ c_il_Right_10.eq_1) := Sym.go_as c_il_Right_10.eq_1
def c_il_Right_11 : AC :=
 (.seq (.seq (.reg [⟨(some 36), none, .bin .eql (.t 17) (.c (.v (.int .i64 2)))⟩, ⟨(some 35), none, .mv (.t 36)⟩]) (.drop [36, 36]))
         (.cond (.t 35) (.seq (.seq (.reg [⟨(some 37), none, .load (some 5) (.t 1)⟩, ⟨(some 38), none, .call (.c (.fn 75 [])) [(.t 37), (.c (.v (.int .i64 2)))]⟩, ⟨(some 2), none, .mv (.t 38)⟩]) (.drop [3, 38]))
           .ret)
          c_il_Right_10))
theorem g_il_Right_11 {C : CT} {lf : Nat} {ks : List It} {s : St} : type_of% (@Sym.go_as C lf ks s _ _ c_il_Right_11.eq_1) := Sym.go_as c_il_Right_11.eq_1
theorem gs_il_Right : type_of% (And.intro (And.intro (And.intro (@g_il_Right_0) (And.intro (@g_il_Right_1) (@g_il_Right_2))) (And.intro (@g_il_Right_3) (And.intro (@g_il_Right_4) (@g_il_Right_5)))) (And.intro (And.intro (@g_il_Right_6) (And.intro (@g_il_Right_7) (@g_il_Right_8))) (And.intro (@g_il_Right_9) (And.intro (@g_il_Right_10) (@g_il_Right_11))))) := (And.intro (And.intro (And.intro (@g_il_Right_0) (And.intro (@g_il_Right_1) (@g_il_Right_2))) (And.intro (@g_il_Right_3) (And.intro (@g_il_Right_4) (@g_il_Right_5)))) (And.intro (And.intro (@g_il_Right_6) (And.intro (@g_il_Right_7) (@g_il_Right_8))) (And.intro (@g_il_Right_9) (And.intro (@g_il_Right_10) (@g_il_Right_11)))))
def b_il_Right : AC :=
 (.seq (.seq (.reg [⟨(some 1), none, .box (.t 0)⟩, ⟨(some 2), none, .mv (.c (.v (.bool false)))⟩]) (.drop [2, 2]))
 (.seq (.seq (.reg [⟨(some 5), none, .fad 0 (.t 1)⟩, ⟨(some 6), none, .load none (.t 5)⟩, ⟨(some 7), none, .call (.c (.fn 73 [])) [(.t 6)]⟩, ⟨(some 8), none, .fld 1 none (.t 7)⟩, ⟨(some 3), none, .mv (.t 8)⟩]) (.drop [4, 8]))
  (.seq (.seq (.reg [⟨(some 9), none, .fad 2 (.t 1)⟩, ⟨(some 10), none, .load none (.t 9)⟩, ⟨(some 11), none, .bin .eql (.t 10) (.c (.v (.int .i64 0)))⟩, ⟨(some 12), none, .mv (.t 11)⟩, ⟨(some 13), (some (12, true)), .fad 4 (.t 1)⟩, ⟨(some 14), (some (12, true)), .load none (.t 13)⟩, ⟨(some 15), (some (12, true)), .bin .eql (.t 14) (.c (.v (.int .i64 0)))⟩, ⟨(some 16), none, .pick (.t 12) (.t 15) (.c (.v (.bool false)))⟩, ⟨(some 4), none, .mv (.t 16)⟩]) (.drop [5, 16]))
   (.seq (.seq (.seq (.reg [⟨(some 17), none, .mv (.t 3)⟩]) (.drop []))
     (.block 0 (.seq (.seq (.reg [⟨(some 19), none, .bin .eql (.t 17) (.c (.v (.int .i64 1)))⟩, ⟨(some 18), none, .mv (.t 19)⟩]) (.drop [19, 19]))
       (.cond (.t 18) c_il_Right_1
        c_il_Right_11))))
    (.seq (.seq (.reg [⟨(some 2), none, .mv (.c (.v (.bool false)))⟩]) (.drop []))
     .ret)))))
def a_il_Right : AFn := ⟨1, b_il_Right, [.t 2], false, false⟩
theorem a_il_Right_ok : compF Try.prog Try.f47 [[2, 2], [4, 8], [5, 16], [], [19, 19], [2, 21], [3, 32], [3, 34], [36, 36], [3, 38], [40, 40], [3, 56], [58, 58], [3, 69], [71, 71], [3, 83], [85, 85], [3, 96], [98, 98], [3, 126], [128, 128], [3, 151], []] false false hv = some a_il_Right := by kernel_rfl

/-! fugleman/verify.jumps: 48 -/
def b_verify_jumps : AC :=
 (.seq (.seq (.reg [⟨(some 1), none, .box (.t 0)⟩, ⟨(some 2), none, .mv (.c (.v (.bool false)))⟩]) (.drop [2, 2]))
 (.seq (.seq (.reg [⟨(some 3), none, .fad 0 (.t 1)⟩, ⟨(some 4), none, .load none (.t 3)⟩, ⟨(some 5), none, .bin .geq (.t 4) (.c (.v (.int .i64 25)))⟩, ⟨(some 6), none, .mv (.t 5)⟩, ⟨(some 7), (some (6, true)), .fad 0 (.t 1)⟩, ⟨(some 8), (some (6, true)), .load none (.t 7)⟩, ⟨(some 9), (some (6, true)), .bin .leq (.t 8) (.c (.v (.int .i64 27)))⟩, ⟨(some 10), none, .pick (.t 6) (.t 9) (.c (.v (.bool false)))⟩, ⟨(some 2), none, .mv (.t 10)⟩]) (.drop [3, 10]))
  .ret))
def a_verify_jumps : AFn := ⟨1, b_verify_jumps, [.t 2], false, false⟩
theorem a_verify_jumps_ok : compF Try.prog Try.f48 [[2, 2], [3, 10]] false false hv = some a_verify_jumps := by kernel_rfl

/-! (fugleman/verify.ahead).with: 79 -/
def b_verify_ahead_with : AC :=
 (.seq (.seq (.reg [⟨(some 2), none, .box (.t 0)⟩, ⟨(some 4), none, .alloc [(.v (.int .i64 0)), (.v (.slice none 0 0))]⟩]) (.drop []))
 (.seq (.seq (.reg [⟨(some 5), none, .mv (.t 1)⟩, ⟨(some 6), none, .fad 0 (.t 2)⟩, ⟨none, none, .store 1 (.t 6) (.t 5)⟩]) (.drop [5, 6]))
  (.seq (.seq (.reg [⟨(some 7), none, .load (some 2) (.t 2)⟩, ⟨none, none, .store 2 (.t 4) (.t 7)⟩]) (.drop [5, 7]))
   .ret)))
def a_verify_ahead_with : AFn := ⟨2, b_verify_ahead_with, [.cell 4 (some 2)], false, false⟩
theorem a_verify_ahead_with_ok : compF Try.prog Try.f79 [[], [5, 6], [5, 7]] false false hv = some a_verify_ahead_with := by kernel_rfl

/-! fugleman/verify.must: 80 -/
def b_verify_must : AC :=
 (.seq (.seq (.reg [⟨(some 2), none, .mv (.c (.v (.int .i64 0)))⟩]) (.drop [1, 2]))
 (.seq (.seq (.seq (.reg [⟨(some 3), none, .mv (.t 0)⟩, ⟨(some 4), none, .un .not (.t 3)⟩]) (.drop [0, 3]))
   (.cond (.t 4) (.seq (.seq (.reg [⟨(some 2), none, .mv (.c (.v (.int .i64 6)))⟩]) (.drop []))
     .ret)
    .skip))
  (.seq (.seq (.reg [⟨(some 2), none, .mv (.c (.v (.int .i64 0)))⟩]) (.drop []))
   .ret)))
def a_verify_must : AFn := ⟨1, b_verify_must, [.t 2], false, false⟩
theorem a_verify_must_ok : compF Try.prog Try.f80 [[1, 2], [0, 3], [], []] false false hv = some a_verify_must := by kernel_rfl

/-! fugleman/iec.May: 86 -/
def c_iec_May_0 : AC :=
 (.seq (.seq (.reg [⟨(some 25), none, .mv (.t 0)⟩, ⟨(some 26), none, .bin .geq (.t 25) (.c (.v (.int .i64 14)))⟩, ⟨(some 27), none, .mv (.t 26)⟩, ⟨(some 28), (some (27, true)), .mv (.t 0)⟩, ⟨(some 29), (some (27, true)), .bin .leq (.t 28) (.c (.v (.int .i64 18)))⟩, ⟨(some 30), none, .pick (.t 27) (.t 29) (.c (.v (.bool false)))⟩, ⟨(some 24), none, .mv (.t 30)⟩]) (.drop [25, 30]))
         (.cond (.t 24) (.seq (.seq (.reg [⟨(some 31), none, .fad 3 (.t 5)⟩, ⟨(some 32), none, .load none (.t 31)⟩, ⟨(some 33), none, .un .not (.t 32)⟩, ⟨(some 4), none, .mv (.t 33)⟩]) (.drop [5, 33]))
           .ret)
          .skip))
theorem g_iec_May_0 {C : CT} {lf : Nat} {ks : List It} {s : St} : type_of% (@Sym.go_as C lf ks s _ _ c_iec_May_0.eq_1) := Sym.go_as c_iec_May_0.eq_1
def c_iec_May_1 : AC :=
 (.seq (.seq (.reg [⟨(some 16), none, .mv (.t 0)⟩, ⟨(some 17), none, .bin .geq (.t 16) (.c (.v (.int .i64 7)))⟩, ⟨(some 18), none, .mv (.t 17)⟩, ⟨(some 19), (some (18, true)), .mv (.t 0)⟩, ⟨(some 20), (some (18, true)), .bin .leq (.t 19) (.c (.v (.int .i64 13)))⟩, ⟨(some 21), none, .pick (.t 18) (.t 20) (.c (.v (.bool false)))⟩, ⟨(some 15), none, .mv (.t 21)⟩]) (.drop [16, 21]))
       (.cond (.t 15) (.seq (.seq (.reg [⟨(some 22), none, .fad 3 (.t 5)⟩, ⟨(some 23), none, .load none (.t 22)⟩, ⟨(some 4), none, .mv (.t 23)⟩]) (.drop [5, 23]))
         .ret)
        c_iec_May_0))
theorem g_iec_May_1 {C : CT} {lf : Nat} {ks : List It} {s : St} : type_of% (@Sym.go_as C lf ks s _ _ c_iec_May_1.eq_1) := Sym.go_as c_iec_May_1.eq_1
theorem gs_iec_May : type_of% (And.intro (@g_iec_May_0) (@g_iec_May_1)) := (And.intro (@g_iec_May_0) (@g_iec_May_1))
def b_iec_May : AC :=
 (.seq (.seq (.reg [⟨(some 4), none, .mv (.c (.v (.bool false)))⟩]) (.drop [2, 4]))
 (.seq (.seq (.reg [⟨(some 8), none, .mv (.t 1)⟩, ⟨(some 9), none, .call (.c (.fn 90 [])) [(.t 8)]⟩, ⟨(some 7), none, .mv (.t 9)⟩, ⟨(some 10), none, .ext 0 (.t 7)⟩, ⟨(some 11), none, .ext 1 (.t 7)⟩, ⟨(some 5), none, .alloc [(.v (.string ⟨#[]⟩)), (.v (.int .i64 0)), (.v (.bool false)), (.v (.bool false))]⟩, ⟨none, none, .store 4 (.t 5) (.t 10)⟩, ⟨(some 6), none, .mv (.t 11)⟩]) (.drop [7, 11]))
  (.seq (.block 0 (.seq (.seq (.reg [⟨(some 13), none, .mv (.t 6)⟩, ⟨(some 14), none, .un .not (.t 13)⟩, ⟨(some 12), none, .mv (.t 14)⟩]) (.drop [13, 14]))
     (.cond (.t 12) (.seq (.seq (.reg [⟨(some 4), none, .mv (.c (.v (.bool false)))⟩]) (.drop []))
       .ret)
      c_iec_May_1)))
   (.seq (.seq (.reg [⟨(some 34), none, .mv (.t 0)⟩, ⟨(some 35), none, .bin .geq (.t 34) (.c (.v (.int .i64 19)))⟩, ⟨(some 36), none, .mv (.t 35)⟩, ⟨(some 37), (some (36, true)), .mv (.t 0)⟩, ⟨(some 38), (some (36, true)), .bin .leq (.t 37) (.c (.v (.int .i64 24)))⟩, ⟨(some 39), none, .pick (.t 36) (.t 38) (.c (.v (.bool false)))⟩, ⟨(some 4), none, .mv (.t 39)⟩]) (.drop [5, 39]))
    .ret))))
def a_iec_May : AFn := ⟨2, b_iec_May, [.t 4], false, false⟩
theorem a_iec_May_ok : compF Try.prog Try.f86 [[2, 4], [7, 11], [13, 14], [], [16, 21], [5, 23], [25, 30], [5, 33], [5, 39]] false false hv = some a_iec_May := by kernel_rfl

/-! fugleman/verify.logic: 81 -/
def b_verify_logic : AC :=
 (.seq (.seq (.reg [⟨(some 2), none, .mv (.c (.v (.bool false)))⟩]) (.drop [1, 2]))
 (.seq (.seq (.reg [⟨(some 3), none, .mv (.t 0)⟩, ⟨(some 4), none, .call (.c (.fn 86 [])) [(.c (.v (.int .i64 13))), (.t 3)]⟩, ⟨(some 2), none, .mv (.t 4)⟩]) (.drop [3, 4]))
  .ret))
def a_verify_logic : AFn := ⟨1, b_verify_logic, [.t 2], false, false⟩
theorem a_verify_logic_ok : compF Try.prog Try.f81 [[1, 2], [3, 4]] false false hv = some a_verify_logic := by kernel_rfl

/-! (fugleman/verify.ahead).ret: 82 -/
def c_verify_ahead_ret_0 : AC :=
 (.seq (.seq (.reg [⟨(some 16), none, .fad 1 (.t 2)⟩, ⟨(some 17), none, .load none (.t 16)⟩, ⟨(some 18), none, .len (.t 17)⟩, ⟨(some 19), none, .bin .gtr (.t 18) (.c (.v (.int .i64 0)))⟩, ⟨(some 15), none, .mv (.t 19)⟩]) (.drop [16, 19]))
      (.cond (.t 15) (.seq (.seq (.reg [⟨(some 20), none, .load (some 2) (.t 2)⟩, ⟨none, none, .store 2 (.t 4) (.t 20)⟩, ⟨(some 5), none, .mv (.c (.v (.int .i64 3)))⟩]) (.drop [6, 20]))
        .ret)
       .skip))
theorem g_verify_ahead_ret_0 {C : CT} {lf : Nat} {ks : List It} {s : St} : type_of% (@Sym.go_as C lf ks s _ _ c_verify_ahead_ret_0.eq_1) := Sym.go_as c_verify_ahead_ret_0.eq_1
def b_verify_ahead_ret : AC :=
 (.seq (.seq (.reg [⟨(some 2), none, .box (.t 0)⟩, ⟨(some 4), none, .alloc [(.v (.int .i64 0)), (.v (.slice none 0 0))]⟩, ⟨(some 5), none, .mv (.c (.v (.int .i64 0)))⟩]) (.drop [5, 5]))
 (.seq (.block 0 (.seq (.seq (.reg [⟨(some 7), none, .mv (.t 1)⟩, ⟨(some 8), none, .bin .neq (.t 7) (.c (.v (.int .i64 28)))⟩, ⟨(some 9), none, .mv (.t 8)⟩, ⟨(some 10), (some (9, true)), .fad 0 (.t 2)⟩, ⟨(some 11), (some (9, true)), .load none (.t 10)⟩, ⟨(some 12), (some (9, true)), .bin .neq (.t 11) (.c (.v (.int .i64 1)))⟩, ⟨(some 13), none, .pick (.t 9) (.t 12) (.c (.v (.bool false)))⟩, ⟨(some 6), none, .mv (.t 13)⟩]) (.drop [7, 13]))
    (.cond (.t 6) (.seq (.seq (.reg [⟨(some 14), none, .load (some 2) (.t 2)⟩, ⟨none, none, .store 2 (.t 4) (.t 14)⟩, ⟨(some 5), none, .mv (.c (.v (.int .i64 6)))⟩]) (.drop [6, 14]))
      .ret)
     c_verify_ahead_ret_0)))
  (.seq (.seq (.reg [⟨(some 21), none, .load (some 2) (.t 2)⟩, ⟨none, none, .store 2 (.t 4) (.t 21)⟩, ⟨(some 5), none, .mv (.c (.v (.int .i64 0)))⟩]) (.drop [6, 21]))
   .ret)))
def a_verify_ahead_ret : AFn := ⟨2, b_verify_ahead_ret, [.cell 4 (some 2), .t 5], false, false⟩
theorem a_verify_ahead_ret_ok : compF Try.prog Try.f82 [[5, 5], [7, 13], [6, 14], [16, 19], [6, 20], [6, 21]] false false hv = some a_verify_ahead_ret := by kernel_rfl

/-! slices.Clip[[]fugleman/verify.bracket,fugleman/verify.bracket]: 100 -/
def b_verify_bracket_100 : AC :=
 (.seq (.seq (.reg [⟨(some 2), none, .mv (.c (.v (.slice none 0 0)))⟩]) (.drop [1, 2]))
 (.seq (.seq (.reg [⟨(some 3), none, .mv (.t 0)⟩, ⟨(some 4), none, .mv (.t 0)⟩, ⟨(some 5), none, .len (.t 4)⟩, ⟨(some 6), none, .mv (.t 0)⟩, ⟨(some 7), none, .len (.t 6)⟩, ⟨(some 8), none, .sls 2 (.t 3) none (some (.t 5)) (some (.t 7))⟩, ⟨(some 2), none, .mv (.t 8)⟩]) (.drop [3, 8]))
  .ret))
def a_verify_bracket_100 : AFn := ⟨1, b_verify_bracket_100, [.t 2], false, false⟩
theorem a_verify_bracket_100_ok : compF Try.prog Try.f100 [[1, 2], [3, 8]] false false hv = some a_verify_bracket_100 := by kernel_rfl

/-! (fugleman/verify.ahead).push: 83 -/
def c_verify_ahead_push_0 : AC :=
 (.seq (.seq (.reg [⟨(some 14), none, .fad 1 (.t 2)⟩, ⟨(some 15), none, .load none (.t 14)⟩, ⟨(some 16), none, .len (.t 15)⟩, ⟨(some 17), none, .bin .eql (.t 16) (.c (.v (.int .i64 8)))⟩, ⟨(some 13), none, .mv (.t 17)⟩]) (.drop [14, 17]))
      (.cond (.t 13) (.seq (.seq (.reg [⟨(some 18), none, .load (some 2) (.t 2)⟩, ⟨none, none, .store 2 (.t 4) (.t 18)⟩, ⟨(some 5), none, .mv (.c (.v (.int .i64 8)))⟩]) (.drop [6, 18]))
        .ret)
       .skip))
theorem g_verify_ahead_push_0 {C : CT} {lf : Nat} {ks : List It} {s : St} : type_of% (@Sym.go_as C lf ks s _ _ c_verify_ahead_push_0.eq_1) := Sym.go_as c_verify_ahead_push_0.eq_1
def b_verify_ahead_push : AC :=
 (.seq (.seq (.reg [⟨(some 2), none, .box (.t 0)⟩, ⟨(some 4), none, .alloc [(.v (.int .i64 0)), (.v (.slice none 0 0))]⟩, ⟨(some 5), none, .mv (.c (.v (.int .i64 0)))⟩]) (.drop [5, 5]))
 (.seq (.block 0 (.seq (.seq (.reg [⟨(some 7), none, .mv (.t 1)⟩, ⟨(some 8), none, .fad 0 (.t 2)⟩, ⟨(some 9), none, .load none (.t 8)⟩, ⟨(some 10), none, .call (.c (.fn 86 [])) [(.t 7), (.t 9)]⟩, ⟨(some 11), none, .un .not (.t 10)⟩, ⟨(some 6), none, .mv (.t 11)⟩]) (.drop [7, 11]))
    (.cond (.t 6) (.seq (.seq (.reg [⟨(some 12), none, .load (some 2) (.t 2)⟩, ⟨none, none, .store 2 (.t 4) (.t 12)⟩, ⟨(some 5), none, .mv (.c (.v (.int .i64 6)))⟩]) (.drop [6, 12]))
      .ret)
     c_verify_ahead_push_0)))
  (.seq (.seq (.regm [(.o, ⟨(some 19), none, .fad 1 (.t 2)⟩), (.o, ⟨(some 20), none, .load none (.t 19)⟩), (.f, ⟨(some 21), none, .call (.c (.fn 100 [])) [(.t 20)]⟩), (.o, ⟨(some 22), none, .mv (.t 1)⟩), (.o, ⟨(some 23), none, .fad 0 (.t 2)⟩), (.o, ⟨(some 24), none, .load none (.t 23)⟩), (.o, ⟨(some 25), none, .build [(.v (.int .i64 0)), (.v (.int .i64 0))] [(0, 1, (.t 22)), (1, 1, (.t 24))]⟩), (.o, ⟨(some 26), none, .row 2 1 [(.v (.int .i64 0)), (.v (.int .i64 0))] [(0, 2, (.t 25))]⟩), (.o, ⟨(some 27), none, .app 2 16 (.t 21) (.t 26)⟩), (.o, ⟨(some 28), none, .build [(.v (.int .i64 0)), (.v (.slice none 0 0))] [(1, 1, (.t 27))]⟩), (.o, ⟨none, none, .store 2 (.t 4) (.t 28)⟩), (.o, ⟨(some 5), none, .mv (.c (.v (.int .i64 0)))⟩)]) (.drop [6, 28]))
   .ret)))
def a_verify_ahead_push : AFn := ⟨2, b_verify_ahead_push, [.cell 4 (some 2), .t 5], true, false⟩
theorem a_verify_ahead_push_ok : compF Try.prog Try.f83 [[5, 5], [7, 11], [6, 12], [14, 17], [6, 18], [6, 28]] true false hv = some a_verify_ahead_push := by kernel_rfl

/-! fugleman/verify.made: 85 -/
def b_verify_made : AC :=
 (.seq (.seq (.reg [⟨(some 4), none, .mv (.c (.v (.int .i64 0)))⟩]) (.drop [2, 4]))
 (.seq (.seq (.seq (.reg [⟨(some 5), none, .mv (.t 0)⟩, ⟨(some 6), none, .bin .geq (.t 5) (.c (.v (.int .i64 19)))⟩, ⟨(some 7), none, .mv (.t 6)⟩, ⟨(some 8), (some (7, true)), .mv (.t 0)⟩, ⟨(some 9), (some (7, true)), .bin .leq (.t 8) (.c (.v (.int .i64 24)))⟩, ⟨(some 10), none, .pick (.t 7) (.t 9) (.c (.v (.bool false)))⟩]) (.drop [2, 9]))
   (.cond (.t 10) (.seq (.seq (.reg [⟨(some 4), none, .mv (.c (.v (.int .i64 1)))⟩]) (.drop []))
     .ret)
    .skip))
  (.seq (.seq (.reg [⟨(some 11), none, .mv (.t 1)⟩, ⟨(some 4), none, .mv (.t 11)⟩]) (.drop [5, 11]))
   .ret)))
def a_verify_made : AFn := ⟨2, b_verify_made, [.t 4], false, false⟩
theorem a_verify_made_ok : compF Try.prog Try.f85 [[2, 4], [2, 9], [], [5, 11]] false false hv = some a_verify_made := by kernel_rfl

/-! (fugleman/verify.ahead).pop: 84 -/
def b_verify_ahead_pop : AC :=
 (.seq (.seq (.reg [⟨(some 1), none, .box (.t 0)⟩, ⟨(some 2), none, .alloc [(.v (.int .i64 0)), (.v (.slice none 0 0))]⟩, ⟨(some 3), none, .mv (.c (.v (.int .i64 0)))⟩]) (.drop [3, 3]))
 (.seq (.seq (.reg [⟨(some 6), none, .fad 1 (.t 1)⟩, ⟨(some 7), none, .load none (.t 6)⟩, ⟨(some 8), none, .len (.t 7)⟩, ⟨(some 4), none, .mv (.t 8)⟩]) (.drop [5, 8]))
  (.seq (.seq (.seq (.reg [⟨(some 9), none, .mv (.t 4)⟩, ⟨(some 10), none, .bin .eql (.t 9) (.c (.v (.int .i64 0)))⟩]) (.drop [5, 9]))
    (.cond (.t 10) (.seq (.seq (.reg [⟨(some 11), none, .load (some 2) (.t 1)⟩, ⟨none, none, .store 2 (.t 2) (.t 11)⟩, ⟨(some 3), none, .mv (.c (.v (.int .i64 3)))⟩]) (.drop [4, 11]))
      .ret)
     .skip))
   (.seq (.seq (.reg [⟨(some 12), none, .fad 1 (.t 1)⟩, ⟨(some 13), none, .load none (.t 12)⟩, ⟨(some 14), none, .mv (.t 4)⟩, ⟨(some 15), none, .bin .sub (.t 14) (.c (.v (.int .i64 1)))⟩, ⟨(some 16), none, .ixs 2 (.t 13) (.t 15)⟩, ⟨(some 17), none, .load (some 2) (.t 16)⟩, ⟨(some 5), none, .alloc [(.v (.int .i64 0)), (.v (.int .i64 0))]⟩, ⟨none, none, .store 2 (.t 5) (.t 17)⟩]) (.drop [6, 17]))
    (.seq (.seq (.seq (.reg [⟨(some 18), none, .fad 1 (.t 5)⟩, ⟨(some 19), none, .load none (.t 18)⟩, ⟨(some 20), none, .fad 0 (.t 1)⟩, ⟨(some 21), none, .load none (.t 20)⟩, ⟨(some 22), none, .bin .neq (.t 19) (.t 21)⟩]) (.drop [6, 21]))
      (.cond (.t 22) (.seq (.seq (.reg [⟨(some 23), none, .load (some 2) (.t 1)⟩, ⟨none, none, .store 2 (.t 2) (.t 23)⟩, ⟨(some 3), none, .mv (.c (.v (.int .i64 6)))⟩]) (.drop [4, 23]))
        .ret)
       .skip))
     (.seq (.seq (.regm [(.o, ⟨(some 24), none, .fad 0 (.t 5)⟩), (.o, ⟨(some 25), none, .load none (.t 24)⟩), (.o, ⟨(some 26), none, .fad 1 (.t 5)⟩), (.o, ⟨(some 27), none, .load none (.t 26)⟩), (.o, ⟨(some 29), none, .fad 1 (.t 1)⟩), (.o, ⟨(some 30), none, .load none (.t 29)⟩), (.o, ⟨(some 31), none, .mv (.t 4)⟩), (.o, ⟨(some 32), none, .bin .sub (.t 31) (.c (.v (.int .i64 1)))⟩), (.o, ⟨(some 33), none, .sls 2 (.t 30) none (some (.t 32)) none⟩), (.m, ⟨(some 28), none, .call (.c (.fn 85 [])) [(.t 25), (.t 27)]⟩), (.o, ⟨(some 34), none, .build [(.v (.int .i64 0)), (.v (.slice none 0 0))] [(0, 1, (.t 28)), (1, 1, (.t 33))]⟩), (.o, ⟨none, none, .store 2 (.t 2) (.t 34)⟩), (.o, ⟨(some 3), none, .mv (.c (.v (.int .i64 0)))⟩)]) (.drop [4, 34]))
      .ret))))))
def a_verify_ahead_pop : AFn := ⟨1, b_verify_ahead_pop, [.cell 2 (some 2), .t 3], false, false⟩
theorem a_verify_ahead_pop_ok : compF Try.prog Try.f84 [[3, 3], [5, 8], [5, 9], [4, 11], [6, 17], [6, 21], [4, 23], [4, 34]] false false hv = some a_verify_ahead_pop := by kernel_rfl

/-! (fugleman/verify.ahead).behind: 49 -/
def c_verify_ahead_behind_0 : AC :=
 (.seq (.seq (.reg [⟨(some 14), none, .load (some 2) (.t 2)⟩, ⟨(some 15), none, .fad 1 (.t 3)⟩, ⟨(some 16), none, .load none (.t 15)⟩, ⟨(some 17), none, .call (.c (.fn 79 [])) [(.t 14), (.t 16)]⟩, ⟨none, none, .store 2 (.t 4) (.t 17)⟩, ⟨(some 5), none, .mv (.c (.v (.int .i64 0)))⟩]) (.drop [6, 17]))
        .ret)
theorem g_verify_ahead_behind_0 {C : CT} {lf : Nat} {ks : List It} {s : St} : type_of% (@Sym.go_as C lf ks s _ _ c_verify_ahead_behind_0.eq_1) := Sym.go_as c_verify_ahead_behind_0.eq_1
def c_verify_ahead_behind_1 : AC :=
 (.seq (.seq (.regm [(.o, ⟨(some 20), none, .load (some 2) (.t 2)⟩), (.o, ⟨(some 21), none, .fad 1 (.t 3)⟩), (.o, ⟨(some 22), none, .load none (.t 21)⟩), (.o, ⟨(some 24), none, .fad 1 (.t 3)⟩), (.o, ⟨(some 25), none, .load none (.t 24)⟩), (.m, ⟨(some 23), none, .call (.c (.fn 79 [])) [(.t 20), (.t 22)]⟩), (.m, ⟨(some 26), none, .call (.c (.fn 81 [])) [(.t 25)]⟩), (.m, ⟨(some 27), none, .call (.c (.fn 80 [])) [(.t 26)]⟩), (.o, ⟨none, none, .store 2 (.t 4) (.t 23)⟩), (.o, ⟨(some 5), none, .mv (.t 27)⟩)]) (.drop [6, 27]))
          .ret)
theorem g_verify_ahead_behind_1 {C : CT} {lf : Nat} {ks : List It} {s : St} : type_of% (@Sym.go_as C lf ks s _ _ c_verify_ahead_behind_1.eq_1) := Sym.go_as c_verify_ahead_behind_1.eq_1
def c_verify_ahead_behind_2 : AC :=
 (.seq (.seq (.regm [(.o, ⟨(some 30), none, .load (some 2) (.t 2)⟩), (.o, ⟨(some 31), none, .fad 0 (.t 2)⟩), (.o, ⟨(some 32), none, .load none (.t 31)⟩), (.o, ⟨(some 33), none, .fad 1 (.t 3)⟩), (.o, ⟨(some 34), none, .load none (.t 33)⟩), (.o, ⟨(some 35), none, .bin .eql (.t 32) (.t 34)⟩), (.m, ⟨(some 36), none, .call (.c (.fn 80 [])) [(.t 35)]⟩), (.o, ⟨none, none, .store 2 (.t 4) (.t 30)⟩), (.o, ⟨(some 5), none, .mv (.t 36)⟩)]) (.drop [6, 36]))
            .ret)
theorem g_verify_ahead_behind_2 {C : CT} {lf : Nat} {ks : List It} {s : St} : type_of% (@Sym.go_as C lf ks s _ _ c_verify_ahead_behind_2.eq_1) := Sym.go_as c_verify_ahead_behind_2.eq_1
def c_verify_ahead_behind_3 : AC :=
 (.seq (.seq (.regm [(.o, ⟨(some 39), none, .load (some 2) (.t 2)⟩), (.o, ⟨(some 40), none, .fad 0 (.t 2)⟩), (.o, ⟨(some 41), none, .load none (.t 40)⟩), (.o, ⟨(some 42), none, .fad 1 (.t 3)⟩), (.o, ⟨(some 43), none, .load none (.t 42)⟩), (.o, ⟨(some 44), none, .bin .eql (.t 41) (.t 43)⟩), (.o, ⟨(some 45), none, .mv (.t 44)⟩), (.o, ⟨(some 46), (some (45, true)), .fad 1 (.t 3)⟩), (.o, ⟨(some 47), (some (45, true)), .load none (.t 46)⟩), (.m, ⟨(some 48), (some (45, true)), .call (.c (.fn 81 [])) [(.t 47)]⟩), (.o, ⟨(some 49), none, .pick (.t 45) (.t 48) (.c (.v (.bool false)))⟩), (.m, ⟨(some 50), none, .call (.c (.fn 80 [])) [(.t 49)]⟩), (.o, ⟨none, none, .store 2 (.t 4) (.t 39)⟩), (.o, ⟨(some 5), none, .mv (.t 50)⟩)]) (.drop [6, 50]))
              .ret)
theorem g_verify_ahead_behind_3 {C : CT} {lf : Nat} {ks : List It} {s : St} : type_of% (@Sym.go_as C lf ks s _ _ c_verify_ahead_behind_3.eq_1) := Sym.go_as c_verify_ahead_behind_3.eq_1
def c_verify_ahead_behind_4 : AC :=
 (.seq (.seq (.regm [(.o, ⟨(some 54), none, .load (some 2) (.t 2)⟩), (.o, ⟨(some 55), none, .mv (.t 6)⟩), (.o, ⟨(some 56), none, .mv (.t 55)⟩), (.o, ⟨(some 57), (some (56, true)), .fad 1 (.t 3)⟩), (.o, ⟨(some 58), (some (56, true)), .load none (.t 57)⟩), (.o, ⟨(some 59), (some (56, true)), .bin .eql (.t 58) (.c (.v (.int .i64 1)))⟩), (.o, ⟨(some 60), none, .pick (.t 56) (.t 59) (.c (.v (.bool false)))⟩), (.m, ⟨(some 61), none, .call (.c (.fn 80 [])) [(.t 60)]⟩), (.o, ⟨none, none, .store 2 (.t 4) (.t 54)⟩), (.o, ⟨(some 5), none, .mv (.t 61)⟩)]) (.drop [6, 61]))
                .ret)
theorem g_verify_ahead_behind_4 {C : CT} {lf : Nat} {ks : List It} {s : St} : type_of% (@Sym.go_as C lf ks s _ _ c_verify_ahead_behind_4.eq_1) := Sym.go_as c_verify_ahead_behind_4.eq_1
def c_verify_ahead_behind_5 : AC :=
 (.seq (.seq (.regm [(.o, ⟨(some 64), none, .load (some 2) (.t 2)⟩), (.o, ⟨(some 65), none, .fad 0 (.t 2)⟩), (.o, ⟨(some 66), none, .load none (.t 65)⟩), (.m, ⟨(some 67), none, .call (.c (.fn 81 [])) [(.t 66)]⟩), (.m, ⟨(some 68), none, .call (.c (.fn 80 [])) [(.t 67)]⟩), (.o, ⟨none, none, .store 2 (.t 4) (.t 64)⟩), (.o, ⟨(some 5), none, .mv (.t 68)⟩)]) (.drop [6, 68]))
                  .ret)
theorem g_verify_ahead_behind_5 {C : CT} {lf : Nat} {ks : List It} {s : St} : type_of% (@Sym.go_as C lf ks s _ _ c_verify_ahead_behind_5.eq_1) := Sym.go_as c_verify_ahead_behind_5.eq_1
def c_verify_ahead_behind_6 : AC :=
 (.seq (.seq (.reg [⟨(some 76), none, .bin .eql (.t 11) (.c (.v (.int .i64 35)))⟩, ⟨(some 72), none, .mv (.t 76)⟩]) (.drop [73, 76]))
                           (.cond (.t 72) .skip
                            (.seq (.reg [⟨(some 77), none, .bin .eql (.t 11) (.c (.v (.int .i64 36)))⟩, ⟨(some 72), none, .mv (.t 77)⟩]) (.drop [73, 77]))))
theorem g_verify_ahead_behind_6 {C : CT} {lf : Nat} {ks : List It} {s : St} : type_of% (@Sym.go_as C lf ks s _ _ c_verify_ahead_behind_6.eq_1) := Sym.go_as c_verify_ahead_behind_6.eq_1
def c_verify_ahead_behind_7 : AC :=
 (.seq (.seq (.reg [⟨(some 74), none, .bin .eql (.t 11) (.c (.v (.int .i64 27)))⟩, ⟨(some 72), none, .mv (.t 74)⟩]) (.drop [73, 74]))
                       (.cond (.t 72) .skip
                        (.seq (.seq (.reg [⟨(some 75), none, .bin .eql (.t 11) (.c (.v (.int .i64 34)))⟩, ⟨(some 72), none, .mv (.t 75)⟩]) (.drop [73, 75]))
                         (.cond (.t 72) .skip
                          c_verify_ahead_behind_6))))
theorem g_verify_ahead_behind_7 {C : CT} {lf : Nat} {ks : List It} {s : St} : type_of% (@Sym.go_as C lf ks s _ _ c_verify_ahead_behind_7.eq_1) := Sym.go_as c_verify_ahead_behind_7.eq_1
def c_verify_ahead_behind_8 : AC :=
 (.seq (.seq (.regm [(.o, ⟨(some 78), none, .load (some 2) (.t 2)⟩), (.o, ⟨(some 79), none, .mv (.t 6)⟩), (.m, ⟨(some 80), none, .call (.c (.fn 80 [])) [(.t 79)]⟩), (.o, ⟨none, none, .store 2 (.t 4) (.t 78)⟩), (.o, ⟨(some 5), none, .mv (.t 80)⟩)]) (.drop [6, 80]))
                      .ret)
theorem g_verify_ahead_behind_8 {C : CT} {lf : Nat} {ks : List It} {s : St} : type_of% (@Sym.go_as C lf ks s _ _ c_verify_ahead_behind_8.eq_1) := Sym.go_as c_verify_ahead_behind_8.eq_1
def c_verify_ahead_behind_9 : AC :=
 (.seq (.seq (.reg [⟨(some 83), none, .bin .eql (.t 11) (.c (.v (.int .i64 29)))⟩, ⟨(some 81), none, .mv (.t 83)⟩]) (.drop [82, 83]))
                         (.cond (.t 81) .skip
                          (.seq (.reg [⟨(some 84), none, .bin .eql (.t 11) (.c (.v (.int .i64 30)))⟩, ⟨(some 81), none, .mv (.t 84)⟩]) (.drop [82, 84]))))
theorem g_verify_ahead_behind_9 {C : CT} {lf : Nat} {ks : List It} {s : St} : type_of% (@Sym.go_as C lf ks s _ _ c_verify_ahead_behind_9.eq_1) := Sym.go_as c_verify_ahead_behind_9.eq_1
def c_verify_ahead_behind_10 : AC :=
 (.seq (.seq (.reg [⟨(some 85), none, .load (some 2) (.t 2)⟩, ⟨(some 86), none, .fad 0 (.t 3)⟩, ⟨(some 87), none, .load none (.t 86)⟩, ⟨(some 88), none, .call (.c (.fn 82 [])) [(.t 85), (.t 87)]⟩, ⟨(some 89), none, .ext 0 (.t 88)⟩, ⟨(some 90), none, .ext 1 (.t 88)⟩, ⟨none, none, .store 2 (.t 4) (.t 89)⟩, ⟨(some 5), none, .mv (.t 90)⟩]) (.drop [6, 90]))
                        .ret)
theorem g_verify_ahead_behind_10 {C : CT} {lf : Nat} {ks : List It} {s : St} : type_of% (@Sym.go_as C lf ks s _ _ c_verify_ahead_behind_10.eq_1) := Sym.go_as c_verify_ahead_behind_10.eq_1
def c_verify_ahead_behind_11 : AC :=
 (.seq (.seq (.regm [(.o, ⟨(some 93), none, .load (some 2) (.t 2)⟩), (.o, ⟨(some 94), none, .fad 1 (.t 3)⟩), (.o, ⟨(some 95), none, .load none (.t 94)⟩), (.o, ⟨(some 97), none, .fad 0 (.t 2)⟩), (.o, ⟨(some 98), none, .load none (.t 97)⟩), (.o, ⟨(some 99), none, .bin .neq (.t 98) (.c (.v (.int .i64 0)))⟩), (.m, ⟨(some 96), none, .call (.c (.fn 79 [])) [(.t 93), (.t 95)]⟩), (.m, ⟨(some 100), none, .call (.c (.fn 80 [])) [(.t 99)]⟩), (.o, ⟨none, none, .store 2 (.t 4) (.t 96)⟩), (.o, ⟨(some 5), none, .mv (.t 100)⟩)]) (.drop [6, 100]))
                          .ret)
theorem g_verify_ahead_behind_11 {C : CT} {lf : Nat} {ks : List It} {s : St} : type_of% (@Sym.go_as C lf ks s _ _ c_verify_ahead_behind_11.eq_1) := Sym.go_as c_verify_ahead_behind_11.eq_1
def c_verify_ahead_behind_12 : AC :=
 (.seq (.seq (.reg [⟨(some 103), none, .load (some 2) (.t 2)⟩, ⟨(some 104), none, .fad 3 (.t 3)⟩, ⟨(some 105), none, .load none (.t 104)⟩, ⟨(some 106), none, .call (.c (.fn 83 [])) [(.t 103), (.t 105)]⟩, ⟨(some 107), none, .ext 0 (.t 106)⟩, ⟨(some 108), none, .ext 1 (.t 106)⟩, ⟨none, none, .store 2 (.t 4) (.t 107)⟩, ⟨(some 5), none, .mv (.t 108)⟩]) (.drop [6, 108]))
                            .ret)
theorem g_verify_ahead_behind_12 {C : CT} {lf : Nat} {ks : List It} {s : St} : type_of% (@Sym.go_as C lf ks s _ _ c_verify_ahead_behind_12.eq_1) := Sym.go_as c_verify_ahead_behind_12.eq_1
def c_verify_ahead_behind_13 : AC :=
 (.seq (.seq (.reg [⟨(some 111), none, .load (some 2) (.t 2)⟩, ⟨(some 112), none, .call (.c (.fn 84 [])) [(.t 111)]⟩, ⟨(some 113), none, .ext 0 (.t 112)⟩, ⟨(some 114), none, .ext 1 (.t 112)⟩, ⟨none, none, .store 2 (.t 4) (.t 113)⟩, ⟨(some 5), none, .mv (.t 114)⟩]) (.drop [6, 114]))
                              .ret)
theorem g_verify_ahead_behind_13 {C : CT} {lf : Nat} {ks : List It} {s : St} : type_of% (@Sym.go_as C lf ks s _ _ c_verify_ahead_behind_13.eq_1) := Sym.go_as c_verify_ahead_behind_13.eq_1
def c_verify_ahead_behind_14 : AC :=
 (.seq (.seq (.reg [⟨(some 102), none, .bin .eql (.t 11) (.c (.v (.int .i64 32)))⟩, ⟨(some 101), none, .mv (.t 102)⟩]) (.drop [102, 102]))
                          (.cond (.t 101) c_verify_ahead_behind_12
                           (.seq (.seq (.reg [⟨(some 110), none, .bin .eql (.t 11) (.c (.v (.int .i64 33)))⟩, ⟨(some 109), none, .mv (.t 110)⟩]) (.drop [110, 110]))
                            (.cond (.t 109) c_verify_ahead_behind_13
                             .skip))))
theorem g_verify_ahead_behind_14 {C : CT} {lf : Nat} {ks : List It} {s : St} : type_of% (@Sym.go_as C lf ks s _ _ c_verify_ahead_behind_14.eq_1) := Sym.go_as c_verify_ahead_behind_14.eq_1
def c_verify_ahead_behind_15 : AC :=
 (.seq (.seq (.seq (.reg [⟨(some 82), none, .bin .eql (.t 11) (.c (.v (.int .i64 28)))⟩, ⟨(some 81), none, .mv (.t 82)⟩]) (.drop [82, 82]))
                       (.cond (.t 81) .skip
                        c_verify_ahead_behind_9))
                      (.cond (.t 81) c_verify_ahead_behind_10
                       (.seq (.seq (.reg [⟨(some 92), none, .bin .eql (.t 11) (.c (.v (.int .i64 31)))⟩, ⟨(some 91), none, .mv (.t 92)⟩]) (.drop [92, 92]))
                        (.cond (.t 91) c_verify_ahead_behind_11
                         c_verify_ahead_behind_14))))
theorem g_verify_ahead_behind_15 {C : CT} {lf : Nat} {ks : List It} {s : St} : type_of% (@Sym.go_as C lf ks s _ _ c_verify_ahead_behind_15.eq_1) := Sym.go_as c_verify_ahead_behind_15.eq_1
def c_verify_ahead_behind_16 : AC :=
 (.seq (.seq (.seq (.reg [⟨(some 73), none, .bin .eql (.t 11) (.c (.v (.int .i64 26)))⟩, ⟨(some 72), none, .mv (.t 73)⟩]) (.drop [73, 73]))
                     (.cond (.t 72) .skip
                      c_verify_ahead_behind_7))
                    (.cond (.t 72) c_verify_ahead_behind_8
                     c_verify_ahead_behind_15))
theorem g_verify_ahead_behind_16 {C : CT} {lf : Nat} {ks : List It} {s : St} : type_of% (@Sym.go_as C lf ks s _ _ c_verify_ahead_behind_16.eq_1) := Sym.go_as c_verify_ahead_behind_16.eq_1
def c_verify_ahead_behind_17 : AC :=
 (.seq (.seq (.reg [⟨(some 70), none, .bin .eql (.t 11) (.c (.v (.int .i64 25)))⟩, ⟨(some 69), none, .mv (.t 70)⟩]) (.drop [70, 70]))
                  (.cond (.t 69) (.seq (.seq (.reg [⟨(some 71), none, .load (some 2) (.t 2)⟩, ⟨none, none, .store 2 (.t 4) (.t 71)⟩, ⟨(some 5), none, .mv (.c (.v (.int .i64 0)))⟩]) (.drop [6, 71]))
                    .ret)
                   c_verify_ahead_behind_16))
theorem g_verify_ahead_behind_17 {C : CT} {lf : Nat} {ks : List It} {s : St} : type_of% (@Sym.go_as C lf ks s _ _ c_verify_ahead_behind_17.eq_1) := Sym.go_as c_verify_ahead_behind_17.eq_1
def c_verify_ahead_behind_18 : AC :=
 (.seq (.seq (.seq (.reg [⟨(some 52), none, .bin .eql (.t 11) (.c (.v (.int .i64 5)))⟩, ⟨(some 51), none, .mv (.t 52)⟩]) (.drop [52, 52]))
               (.cond (.t 51) .skip
                (.seq (.reg [⟨(some 53), none, .bin .eql (.t 11) (.c (.v (.int .i64 6)))⟩, ⟨(some 51), none, .mv (.t 53)⟩]) (.drop [52, 53]))))
              (.cond (.t 51) c_verify_ahead_behind_4
               (.seq (.seq (.reg [⟨(some 63), none, .bin .eql (.t 11) (.c (.v (.int .i64 13)))⟩, ⟨(some 62), none, .mv (.t 63)⟩]) (.drop [63, 63]))
                (.cond (.t 62) c_verify_ahead_behind_5
                 c_verify_ahead_behind_17))))
theorem g_verify_ahead_behind_18 {C : CT} {lf : Nat} {ks : List It} {s : St} : type_of% (@Sym.go_as C lf ks s _ _ c_verify_ahead_behind_18.eq_1) := Sym.go_as c_verify_ahead_behind_18.eq_1
def c_verify_ahead_behind_19 : AC :=
 (.seq (.seq (.reg [⟨(some 29), none, .bin .eql (.t 11) (.c (.v (.int .i64 3)))⟩, ⟨(some 28), none, .mv (.t 29)⟩]) (.drop [29, 29]))
          (.cond (.t 28) c_verify_ahead_behind_2
           (.seq (.seq (.reg [⟨(some 38), none, .bin .eql (.t 11) (.c (.v (.int .i64 4)))⟩, ⟨(some 37), none, .mv (.t 38)⟩]) (.drop [38, 38]))
            (.cond (.t 37) c_verify_ahead_behind_3
             c_verify_ahead_behind_18))))
theorem g_verify_ahead_behind_19 {C : CT} {lf : Nat} {ks : List It} {s : St} : type_of% (@Sym.go_as C lf ks s _ _ c_verify_ahead_behind_19.eq_1) := Sym.go_as c_verify_ahead_behind_19.eq_1
theorem gs_verify_ahead_behind : type_of% (And.intro (And.intro (And.intro (And.intro (@g_verify_ahead_behind_0) (@g_verify_ahead_behind_1)) (And.intro (@g_verify_ahead_behind_2) (And.intro (@g_verify_ahead_behind_3) (@g_verify_ahead_behind_4)))) (And.intro (And.intro (@g_verify_ahead_behind_5) (@g_verify_ahead_behind_6)) (And.intro (@g_verify_ahead_behind_7) (And.intro (@g_verify_ahead_behind_8) (@g_verify_ahead_behind_9))))) (And.intro (And.intro (And.intro (@g_verify_ahead_behind_10) (@g_verify_ahead_behind_11)) (And.intro (@g_verify_ahead_behind_12) (And.intro (@g_verify_ahead_behind_13) (@g_verify_ahead_behind_14)))) (And.intro (And.intro (@g_verify_ahead_behind_15) (@g_verify_ahead_behind_16)) (And.intro (@g_verify_ahead_behind_17) (And.intro (@g_verify_ahead_behind_18) (@g_verify_ahead_behind_19)))))) := (And.intro (And.intro (And.intro (And.intro (@g_verify_ahead_behind_0) (@g_verify_ahead_behind_1)) (And.intro (@g_verify_ahead_behind_2) (And.intro (@g_verify_ahead_behind_3) (@g_verify_ahead_behind_4)))) (And.intro (And.intro (@g_verify_ahead_behind_5) (@g_verify_ahead_behind_6)) (And.intro (@g_verify_ahead_behind_7) (And.intro (@g_verify_ahead_behind_8) (@g_verify_ahead_behind_9))))) (And.intro (And.intro (And.intro (@g_verify_ahead_behind_10) (@g_verify_ahead_behind_11)) (And.intro (@g_verify_ahead_behind_12) (And.intro (@g_verify_ahead_behind_13) (@g_verify_ahead_behind_14)))) (And.intro (And.intro (@g_verify_ahead_behind_15) (@g_verify_ahead_behind_16)) (And.intro (@g_verify_ahead_behind_17) (And.intro (@g_verify_ahead_behind_18) (@g_verify_ahead_behind_19))))))
def b_verify_ahead_behind : AC :=
 (.seq (.seq (.reg [⟨(some 2), none, .box (.t 0)⟩, ⟨(some 3), none, .box (.t 1)⟩, ⟨(some 4), none, .alloc [(.v (.int .i64 0)), (.v (.slice none 0 0))]⟩, ⟨(some 5), none, .mv (.c (.v (.int .i64 0)))⟩]) (.drop [5, 5]))
 (.seq (.seq (.reg [⟨(some 7), none, .fad 0 (.t 2)⟩, ⟨(some 8), none, .load none (.t 7)⟩, ⟨(some 9), none, .bin .eql (.t 8) (.c (.v (.int .i64 1)))⟩, ⟨(some 6), none, .mv (.t 9)⟩]) (.drop [7, 9]))
  (.seq (.seq (.seq (.reg [⟨(some 10), none, .fad 0 (.t 3)⟩, ⟨(some 11), none, .load none (.t 10)⟩]) (.drop [7, 10]))
    (.block 0 (.seq (.seq (.reg [⟨(some 13), none, .bin .eql (.t 11) (.c (.v (.int .i64 1)))⟩, ⟨(some 12), none, .mv (.t 13)⟩]) (.drop [13, 13]))
      (.cond (.t 12) c_verify_ahead_behind_0
       (.seq (.seq (.reg [⟨(some 19), none, .bin .eql (.t 11) (.c (.v (.int .i64 2)))⟩, ⟨(some 18), none, .mv (.t 19)⟩]) (.drop [19, 19]))
        (.cond (.t 18) c_verify_ahead_behind_1
         c_verify_ahead_behind_19))))))
   (.seq (.seq (.regm [(.o, ⟨(some 115), none, .load (some 2) (.t 2)⟩), (.o, ⟨(some 116), none, .fad 0 (.t 3)⟩), (.o, ⟨(some 117), none, .load none (.t 116)⟩), (.o, ⟨(some 118), none, .fad 1 (.t 3)⟩), (.o, ⟨(some 119), none, .load none (.t 118)⟩), (.o, ⟨(some 122), none, .fad 0 (.t 2)⟩), (.o, ⟨(some 123), none, .load none (.t 122)⟩), (.o, ⟨(some 124), none, .fad 1 (.t 3)⟩), (.o, ⟨(some 125), none, .load none (.t 124)⟩), (.o, ⟨(some 126), none, .bin .eql (.t 123) (.t 125)⟩), (.m, ⟨(some 120), none, .call (.c (.fn 85 [])) [(.t 117), (.t 119)]⟩), (.m, ⟨(some 121), none, .call (.c (.fn 79 [])) [(.t 115), (.t 120)]⟩), (.o, ⟨(some 127), none, .mv (.t 126)⟩), (.o, ⟨(some 128), (some (127, true)), .fad 0 (.t 3)⟩), (.o, ⟨(some 129), (some (127, true)), .load none (.t 128)⟩), (.o, ⟨(some 130), (some (127, true)), .fad 1 (.t 3)⟩), (.o, ⟨(some 131), (some (127, true)), .load none (.t 130)⟩), (.m, ⟨(some 132), (some (127, true)), .call (.c (.fn 86 [])) [(.t 129), (.t 131)]⟩), (.o, ⟨(some 133), none, .pick (.t 127) (.t 132) (.c (.v (.bool false)))⟩), (.m, ⟨(some 134), none, .call (.c (.fn 80 [])) [(.t 133)]⟩), (.o, ⟨none, none, .store 2 (.t 4) (.t 121)⟩), (.o, ⟨(some 5), none, .mv (.t 134)⟩)]) (.drop [6, 134]))
    .ret))))
def a_verify_ahead_behind : AFn := ⟨2, b_verify_ahead_behind, [.cell 4 (some 2), .t 5], false, false⟩
theorem a_verify_ahead_behind_ok : compF Try.prog Try.f49 [[5, 5], [7, 9], [7, 10], [13, 13], [6, 17], [19, 19], [6, 27], [29, 29], [6, 36], [38, 38], [6, 50], [52, 52], [52, 53], [6, 61], [63, 63], [6, 68], [70, 70], [6, 71], [73, 73], [73, 74], [73, 75], [73, 76], [73, 77], [6, 80], [82, 82], [82, 83], [82, 84], [6, 90], [92, 92], [6, 100], [102, 102], [6, 108], [110, 110], [6, 114], [6, 134]] false false hv = some a_verify_ahead_behind := by kernel_rfl

/-! fugleman/verify.on: 50 -/
def b_verify_on : AC :=
 (.seq (.seq (.reg [⟨(some 1), none, .box (.t 0)⟩, ⟨(some 2), none, .mv (.c (.v (.bool false)))⟩]) (.drop [2, 2]))
 (.seq (.seq (.reg [⟨(some 3), none, .fad 0 (.t 1)⟩, ⟨(some 4), none, .load none (.t 3)⟩, ⟨(some 5), none, .bin .neq (.t 4) (.c (.v (.int .i64 25)))⟩, ⟨(some 6), none, .mv (.t 5)⟩, ⟨(some 7), (some (6, true)), .fad 0 (.t 1)⟩, ⟨(some 8), (some (6, true)), .load none (.t 7)⟩, ⟨(some 9), (some (6, true)), .bin .neq (.t 8) (.c (.v (.int .i64 28)))⟩, ⟨(some 10), none, .pick (.t 6) (.t 9) (.c (.v (.bool false)))⟩, ⟨(some 2), none, .mv (.t 10)⟩]) (.drop [3, 10]))
  .ret))
def a_verify_on : AFn := ⟨1, b_verify_on, [.t 2], false, false⟩
theorem a_verify_on_ok : compF Try.prog Try.f50 [[2, 2], [3, 10]] false false hv = some a_verify_on := by kernel_rfl

/-! slices.Equal[[]fugleman/verify.bracket,fugleman/verify.bracket]: 87 -/
def l_verify_bracket_87_1 : AC :=
 (.seq (.seq (.reg [⟨(some 4), none, .mv (.c (.v (.bool true)))⟩]) (.drop []))
 .ret)
def l_verify_bracket_87_0 : AC :=
 (.seq (.seq (.reg [⟨(some 14), none, .bin .lss (.t 13) (.t 12)⟩]) (.drop []))
 (.seq (.cond (.t 14) .skip
   (.exit 0))
  (.seq (.block 1 (.seq (.seq (.reg [⟨(some 15), none, .mv (.t 13)⟩, ⟨(some 5), none, .mv (.t 15)⟩]) (.drop [14, 15]))
     (.seq (.seq (.regq [⟨(some 16), none, .mv (.t 0)⟩, ⟨(some 17), none, .mv (.t 5)⟩, ⟨(some 18), none, .ixs 2 (.t 16) (.t 17)⟩, ⟨(some 19), none, .load (some 2) (.t 18)⟩, ⟨(some 20), none, .mv (.t 1)⟩, ⟨(some 21), none, .mv (.t 5)⟩, ⟨(some 22), none, .ixs 2 (.t 20) (.t 21)⟩, ⟨(some 23), none, .load (some 2) (.t 22)⟩, ⟨(some 24), none, .eqst true [(0, .i), (1, .i)] (.t 19) (.t 23)⟩]) (.drop [14, 23]))
      (.cond (.t 24) (.seq (.seq (.reg [⟨(some 4), none, .mv (.c (.v (.bool false)))⟩]) (.drop []))
        .ret)
       .skip))))
   (.seq (.reg [⟨(some 25), none, .bin .add (.t 13) (.c (.v (.int .i64 1)))⟩, ⟨(some 13), none, .mv (.t 25)⟩]) (.drop [14, 25])))))
def b_verify_bracket_87 : AC :=
 (.seq (.seq (.reg [⟨(some 4), none, .mv (.c (.v (.bool false)))⟩]) (.drop [2, 4]))
 (.seq (.seq (.seq (.reg [⟨(some 6), none, .mv (.t 0)⟩, ⟨(some 7), none, .len (.t 6)⟩, ⟨(some 8), none, .mv (.t 1)⟩, ⟨(some 9), none, .len (.t 8)⟩, ⟨(some 10), none, .bin .neq (.t 7) (.t 9)⟩]) (.drop [2, 9]))
   (.cond (.t 10) (.seq (.seq (.reg [⟨(some 4), none, .mv (.c (.v (.bool false)))⟩]) (.drop []))
     .ret)
    .skip))
  (.seq (.seq (.seq (.reg [⟨(some 11), none, .mv (.t 0)⟩, ⟨(some 12), none, .len (.t 11)⟩, ⟨(some 13), none, .mv (.c (.v (.int .i64 0)))⟩]) (.drop [2, 11]))
    (.block 0 (.loop [0, 1, 12, 13] l_verify_bracket_87_0)))
   l_verify_bracket_87_1)))
def a_verify_bracket_87 : AFn := ⟨2, b_verify_bracket_87, [.t 4], false, false⟩
theorem a_verify_bracket_87_ok : compF Try.prog Try.f87 [[2, 4], [2, 9], [], [2, 11], [0, 1, 12, 13], [], [14, 15], [14, 23], [], [14, 25], []] false false hv = some a_verify_bracket_87 := by kernel_rfl

/-! (fugleman/verify.table).lead: 51 -/
def c_verify_table_lead_0 : AC :=
 (.seq (.seq (.reg [⟨(some 14), none, .mv (.t 0)⟩, ⟨(some 15), none, .mv (.t 1)⟩, ⟨(some 16), none, .ixs 1 (.t 14) (.t 15)⟩, ⟨none, none, .store 1 (.t 16) (.t 5)⟩]) (.drop [0, 16]))
      (.seq (.seq (.reg [⟨(some 6), none, .mv (.c (.v (.bool true)))⟩]) (.drop []))
       .ret))
theorem g_verify_table_lead_0 {C : CT} {lf : Nat} {ks : List It} {s : St} : type_of% (@Sym.go_as C lf ks s _ _ c_verify_table_lead_0.eq_1) := Sym.go_as c_verify_table_lead_0.eq_1
def c_verify_table_lead_1 : AC :=
 (.seq (.reg [⟨(some 24), none, .mv (.t 7)⟩, ⟨(some 25), none, .mv (.t 7)⟩, ⟨(some 26), none, .nilck (.t 25)⟩, ⟨(some 27), none, .load (some 2) (.t 26)⟩, ⟨(some 28), none, .call (.c (.fn 79 [])) [(.t 27), (.c (.v (.int .i64 0)))]⟩, ⟨(some 29), none, .nilck (.t 24)⟩, ⟨none, none, .store 2 (.t 29) (.t 28)⟩]) (.drop [8, 29]))
theorem g_verify_table_lead_1 {C : CT} {lf : Nat} {ks : List It} {s : St} : type_of% (@Sym.go_as C lf ks s _ _ c_verify_table_lead_1.eq_1) := Sym.go_as c_verify_table_lead_1.eq_1
theorem gs_verify_table_lead : type_of% (And.intro (@g_verify_table_lead_0) (@g_verify_table_lead_1)) := (And.intro (@g_verify_table_lead_0) (@g_verify_table_lead_1))
def b_verify_table_lead : AC :=
 (.seq (.seq (.reg [⟨(some 5), none, .box (.t 2)⟩, ⟨(some 6), none, .mv (.c (.v (.bool false)))⟩]) (.drop [6, 6]))
 (.seq (.seq (.reg [⟨(some 8), none, .mv (.t 0)⟩, ⟨(some 9), none, .mv (.t 1)⟩, ⟨(some 10), none, .ixs 1 (.t 8) (.t 9)⟩, ⟨(some 11), none, .load none (.t 10)⟩, ⟨(some 7), none, .mv (.t 11)⟩]) (.drop [8, 11]))
  (.seq (.seq (.seq (.reg [⟨(some 12), none, .mv (.t 7)⟩, ⟨(some 13), none, .eqp false (.t 12) (.c (.v (.pointer none)))⟩]) (.drop [8, 12]))
    (.cond (.t 13) c_verify_table_lead_0
     .skip))
   (.seq (.seq (.seq (.regq [⟨(some 17), none, .mv (.t 7)⟩, ⟨(some 18), none, .nilck (.t 17)⟩, ⟨(some 19), none, .fad 0 (.t 18)⟩, ⟨(some 20), none, .load none (.t 19)⟩, ⟨(some 21), none, .fad 0 (.t 5)⟩, ⟨(some 22), none, .load none (.t 21)⟩, ⟨(some 23), none, .bin .neq (.t 20) (.t 22)⟩]) (.drop [8, 22]))
     (.cond (.t 23) c_verify_table_lead_1
      .skip))
    (.seq (.seq (.regq [⟨(some 30), none, .mv (.t 7)⟩, ⟨(some 31), none, .nilck (.t 30)⟩, ⟨(some 32), none, .fad 1 (.t 31)⟩, ⟨(some 33), none, .load none (.t 32)⟩, ⟨(some 34), none, .fad 1 (.t 5)⟩, ⟨(some 35), none, .load none (.t 34)⟩, ⟨(some 36), none, .call (.c (.fn 87 [])) [(.t 33), (.t 35)]⟩, ⟨(some 6), none, .mv (.t 36)⟩]) (.drop [7, 36]))
     .ret)))))
def a_verify_table_lead : AFn := ⟨3, b_verify_table_lead, [.t 6], false, true⟩
theorem a_verify_table_lead_ok : compF Try.prog Try.f51 [[6, 6], [8, 11], [8, 12], [0, 16], [], [8, 22], [8, 29], [7, 36]] false true hv = some a_verify_table_lead := by kernel_rfl

/-! fugleman/verify.all: 31 -/
def l_verify_all_1 : AC :=
 (.seq (.seq (.seq (.reg [⟨(some 93), none, .mv (.t 5)⟩, ⟨(some 94), none, .mv (.t 0)⟩, ⟨(some 95), none, .len (.t 94)⟩, ⟨(some 96), none, .ixs 1 (.t 93) (.t 95)⟩, ⟨(some 97), none, .load none (.t 96)⟩, ⟨(some 10), none, .mv (.t 97)⟩]) (.drop [11, 97]))
  (.seq (.seq (.reg [⟨(some 98), none, .mv (.t 10)⟩, ⟨(some 99), none, .eqp true (.t 98) (.c (.v (.pointer none)))⟩, ⟨(some 100), none, .mv (.t 99)⟩, ⟨(some 101), (some (100, true)), .mv (.t 10)⟩, ⟨(some 102), (some (100, true)), .nilck (.t 101)⟩, ⟨(some 103), (some (100, true)), .fad 1 (.t 102)⟩, ⟨(some 104), (some (100, true)), .load none (.t 103)⟩, ⟨(some 105), (some (100, true)), .len (.t 104)⟩, ⟨(some 106), (some (100, true)), .bin .gtr (.t 105) (.c (.v (.int .i64 0)))⟩, ⟨(some 107), none, .pick (.t 100) (.t 106) (.c (.v (.bool false)))⟩]) (.drop [6, 106]))
   (.cond (.t 107) (.seq (.seq (.reg [⟨(some 108), none, .mv (.t 0)⟩, ⟨(some 109), none, .len (.t 108)⟩, ⟨(some 2), none, .mv (.c (.v (.slice none 0 0)))⟩, ⟨(some 3), none, .mv (.c (.v (.int .i64 3)))⟩, ⟨(some 4), none, .mv (.t 109)⟩]) (.drop [5, 109]))
     .ret)
    .skip)))
 (.seq (.seq (.reg [⟨(some 110), none, .mv (.t 5)⟩, ⟨(some 2), none, .mv (.t 110)⟩, ⟨(some 3), none, .mv (.c (.v (.int .i64 0)))⟩, ⟨(some 4), none, .mv (.c (.v (.int .i64 0)))⟩]) (.drop [5, 110]))
  .ret))
def l_verify_all_0 : AC :=
 (.seq (.seq (.reg [⟨(some 25), none, .bin .lss (.t 24) (.t 23)⟩]) (.drop []))
 (.seq (.cond (.t 25) .skip
   (.exit 0))
  (.seq (.block 1 (.seq (.seq (.reg [⟨(some 26), none, .mv (.t 24)⟩, ⟨(some 27), none, .ixs 5 (.t 22) (.t 24)⟩, ⟨(some 28), none, .load (some 5) (.t 27)⟩, ⟨(some 7), none, .alloc [(.v (.int .i64 0)), (.v (.int .i64 0)), (.v (.int .i64 0)), (.v (.int .i64 0)), (.v (.int .i64 0))]⟩, ⟨(some 6), none, .mv (.t 26)⟩, ⟨none, none, .store 5 (.t 7) (.t 28)⟩]) (.drop [25, 28]))
     (.seq (.seq (.seq (.reg [⟨(some 29), none, .load (some 5) (.t 7)⟩, ⟨(some 30), none, .call (.c (.fn 47 [])) [(.t 29)]⟩, ⟨(some 31), none, .un .not (.t 30)⟩]) (.drop [25, 30]))
       (.cond (.t 31) (.seq (.seq (.reg [⟨(some 32), none, .mv (.t 6)⟩, ⟨(some 2), none, .mv (.c (.v (.slice none 0 0)))⟩, ⟨(some 3), none, .mv (.c (.v (.int .i64 3)))⟩, ⟨(some 4), none, .mv (.t 32)⟩]) (.drop [5, 32]))
         .ret)
        .skip))
      (.seq (.seq (.seq (.reg [⟨(some 33), none, .mv (.t 5)⟩, ⟨(some 34), none, .mv (.t 6)⟩, ⟨(some 35), none, .ixs 1 (.t 33) (.t 34)⟩, ⟨(some 36), none, .load none (.t 35)⟩, ⟨(some 37), none, .eqp false (.t 36) (.c (.v (.pointer none)))⟩]) (.drop [25, 36]))
        (.cond (.t 37) (.exit 1)
         .skip))
       (.seq (.seq (.seq (.reg [⟨(some 38), none, .load (some 5) (.t 7)⟩, ⟨(some 39), none, .call (.c (.fn 48 [])) [(.t 38)]⟩, ⟨(some 40), none, .mv (.t 39)⟩, ⟨(some 41), (some (40, true)), .fad 3 (.t 7)⟩, ⟨(some 42), (some (40, true)), .load none (.t 41)⟩, ⟨(some 43), (some (40, true)), .mv (.t 6)⟩, ⟨(some 44), (some (40, true)), .bin .leq (.t 42) (.t 43)⟩, ⟨(some 45), (some (40, true)), .mv (.t 44)⟩, ⟨(some 46), (some (45, false)), .fad 3 (.t 7)⟩, ⟨(some 47), (some (45, false)), .load none (.t 46)⟩, ⟨(some 48), (some (45, false)), .mv (.t 0)⟩, ⟨(some 49), (some (45, false)), .len (.t 48)⟩, ⟨(some 50), (some (45, false)), .bin .gtr (.t 47) (.t 49)⟩, ⟨(some 51), (some (40, true)), .pick (.t 45) (.c (.v (.bool true))) (.t 50)⟩, ⟨(some 52), none, .pick (.t 40) (.t 51) (.c (.v (.bool false)))⟩]) (.drop [25, 51]))
         (.cond (.t 52) (.seq (.seq (.reg [⟨(some 53), none, .mv (.t 6)⟩, ⟨(some 2), none, .mv (.c (.v (.slice none 0 0)))⟩, ⟨(some 3), none, .mv (.c (.v (.int .i64 7)))⟩, ⟨(some 4), none, .mv (.t 53)⟩]) (.drop [5, 53]))
           .ret)
          .skip))
        (.seq (.seq (.regx (.op .o ⟨(some 55), none, .mv (.t 5)⟩
            (.op .o ⟨(some 56), none, .mv (.t 6)⟩
             (.op .o ⟨(some 57), none, .ixs 1 (.t 55) (.t 56)⟩
              (.op .o ⟨(some 58), none, .load none (.t 57)⟩
               (.op .o ⟨(some 59), none, .nilck (.t 58)⟩
                (.op .o ⟨(some 60), none, .load (some 2) (.t 59)⟩
                 (.op .o ⟨(some 61), none, .load (some 5) (.t 7)⟩
                  (.alt (.op .m ⟨(some 62), none, .call (.c (.fn 49 [])) [(.t 60), (.t 61)]⟩
                    (.op .o ⟨(some 54), none, .mv (.t 62)⟩
                     (.op .o ⟨(some 63), none, .ext 0 (.t 54)⟩
                      (.op .o ⟨(some 64), none, .ext 1 (.t 54)⟩
                       (.op .o ⟨(some 8), none, .alloc [(.v (.int .i64 0)), (.v (.slice none 0 0))]⟩
                        (.op .o ⟨none, none, .store 2 (.t 8) (.t 63)⟩
                         (.op .o ⟨(some 9), none, .mv (.t 64)⟩
                          .nil)))))))
                   (.op .o ⟨(some 8), none, .alloc [(.v (.int .i64 0)), (.v (.slice none 0 0))]⟩
                    (.op .m ⟨(some 62), none, .call (.c (.fn 49 [])) [(.t 60), (.t 61)]⟩
                     (.op .o ⟨(some 54), none, .mv (.t 62)⟩
                      (.op .o ⟨(some 63), none, .ext 0 (.t 54)⟩
                       (.op .o ⟨(some 64), none, .ext 1 (.t 54)⟩
                        (.op .o ⟨none, none, .store 2 (.t 8) (.t 63)⟩
                         (.op .o ⟨(some 9), none, .mv (.t 64)⟩
                          .nil)))))))))))))))) (.drop [25, 64]))
         (.seq (.seq (.seq (.reg [⟨(some 65), none, .mv (.t 9)⟩, ⟨(some 66), none, .bin .neq (.t 65) (.c (.v (.int .i64 0)))⟩]) (.drop [25, 65]))
           (.cond (.t 66) (.seq (.seq (.reg [⟨(some 67), none, .mv (.t 9)⟩, ⟨(some 68), none, .mv (.t 6)⟩, ⟨(some 2), none, .mv (.c (.v (.slice none 0 0)))⟩, ⟨(some 3), none, .mv (.t 67)⟩, ⟨(some 4), none, .mv (.t 68)⟩]) (.drop [5, 68]))
             .ret)
            .skip))
          (.seq (.seq (.reg [⟨(some 69), none, .load (some 5) (.t 7)⟩, ⟨(some 70), none, .call (.c (.fn 50 [])) [(.t 69)]⟩, ⟨(some 71), none, .mv (.t 70)⟩, ⟨(some 72), (some (71, true)), .mv (.t 5)⟩, ⟨(some 73), (some (71, true)), .mv (.t 6)⟩, ⟨(some 74), (some (71, true)), .bin .add (.t 73) (.c (.v (.int .i64 1)))⟩, ⟨(some 75), (some (71, true)), .load (some 2) (.t 8)⟩, ⟨(some 76), (some (71, true)), .call (.c (.fn 51 [])) [(.t 72), (.t 74), (.t 75)]⟩, ⟨(some 77), (some (71, true)), .un .not (.t 76)⟩, ⟨(some 78), none, .pick (.t 71) (.t 77) (.c (.v (.bool false)))⟩, ⟨(some 79), none, .mv (.t 78)⟩, ⟨(some 80), (some (79, false)), .load (some 5) (.t 7)⟩, ⟨(some 81), (some (79, false)), .call (.c (.fn 48 [])) [(.t 80)]⟩, ⟨(some 82), (some (79, false)), .mv (.t 81)⟩, ⟨(some 83), (some (82, true)), .mv (.t 5)⟩, ⟨(some 84), (some (82, true)), .fad 3 (.t 7)⟩, ⟨(some 85), (some (82, true)), .load none (.t 84)⟩, ⟨(some 86), (some (82, true)), .load (some 2) (.t 8)⟩, ⟨(some 87), (some (82, true)), .call (.c (.fn 51 [])) [(.t 83), (.t 85), (.t 86)]⟩, ⟨(some 88), (some (82, true)), .un .not (.t 87)⟩, ⟨(some 89), (some (79, false)), .pick (.t 82) (.t 88) (.c (.v (.bool false)))⟩, ⟨(some 90), none, .pick (.t 79) (.c (.v (.bool true))) (.t 89)⟩]) (.drop [25, 89]))
           (.cond (.t 90) (.seq (.seq (.reg [⟨(some 91), none, .mv (.t 6)⟩, ⟨(some 2), none, .mv (.c (.v (.slice none 0 0)))⟩, ⟨(some 3), none, .mv (.c (.v (.int .i64 7)))⟩, ⟨(some 4), none, .mv (.t 91)⟩]) (.drop [5, 91]))
             .ret)
            .skip)))))))))
   (.seq (.reg [⟨(some 92), none, .bin .add (.t 24) (.c (.v (.int .i64 1)))⟩, ⟨(some 24), none, .mv (.t 92)⟩]) (.drop [25, 92])))))
def b_verify_all : AC :=
 (.seq (.seq (.reg [⟨(some 2), none, .mv (.c (.v (.slice none 0 0)))⟩, ⟨(some 3), none, .mv (.c (.v (.int .i64 0)))⟩, ⟨(some 4), none, .mv (.c (.v (.int .i64 0)))⟩]) (.drop [1, 4]))
 (.seq (.seq (.seq (.reg [⟨(some 11), none, .mv (.t 0)⟩, ⟨(some 12), none, .len (.t 11)⟩, ⟨(some 13), none, .bin .gtr (.t 12) (.c (.v (.int .i64 200)))⟩]) (.drop [1, 12]))
   (.cond (.t 13) (.seq (.seq (.reg [⟨(some 2), none, .mv (.c (.v (.slice none 0 0)))⟩, ⟨(some 3), none, .mv (.c (.v (.int .i64 2)))⟩, ⟨(some 4), none, .mv (.c (.v (.int .i64 200)))⟩]) (.drop []))
     .ret)
    .skip))
  (.seq (.seq (.reg [⟨(some 14), none, .mv (.t 0)⟩, ⟨(some 15), none, .len (.t 14)⟩, ⟨(some 16), none, .bin .add (.t 15) (.c (.v (.int .i64 1)))⟩, ⟨(some 17), none, .mks 1 8 [(.v (.pointer none))] (.t 16) (.t 16)⟩, ⟨(some 5), none, .mv (.t 17)⟩]) (.drop [6, 17]))
   (.seq (.seq (.reg [⟨(some 18), none, .mv (.t 5)⟩, ⟨(some 19), none, .build [(.v (.int .i64 0)), (.v (.slice none 0 0))] []⟩, ⟨(some 20), none, .box (.t 19)⟩, ⟨(some 21), none, .ixs 1 (.t 18) (.c (.v (.int .i64 0)))⟩, ⟨none, none, .store 1 (.t 21) (.t 20)⟩]) (.drop [6, 21]))
    (.seq (.seq (.seq (.reg [⟨(some 22), none, .mv (.t 0)⟩, ⟨(some 23), none, .len (.t 22)⟩, ⟨(some 24), none, .mv (.c (.v (.int .i64 0)))⟩]) (.drop []))
      (.block 0 (.loop [0, 5, 22, 23, 24] l_verify_all_0)))
     l_verify_all_1)))))
def a_verify_all : AFn := ⟨1, b_verify_all, [.t 2, .t 3, .t 4], false, false⟩
theorem a_verify_all_ok : compF Try.prog Try.f31 [[1, 4], [1, 12], [], [6, 17], [6, 21], [], [0, 5, 22, 23, 24], [], [25, 28], [25, 30], [5, 32], [25, 36], [25, 51], [5, 53], [25, 64], [25, 65], [5, 68], [25, 89], [5, 91], [25, 92], [11, 97], [6, 106], [5, 109], [5, 110]] false false hv = some a_verify_all := by kernel_rfl

/-! fugleman/verify.Check: 21 -/
def b_verify_Check : AC :=
 (.seq (.seq (.reg [⟨(some 2), none, .mv (.c (.v (.int .i64 0)))⟩, ⟨(some 3), none, .mv (.c (.v (.int .i64 0)))⟩]) (.drop [1, 3]))
 (.seq (.seq (.reg [⟨(some 8), none, .mv (.t 0)⟩, ⟨(some 9), none, .call (.c (.fn 31 [])) [(.t 8)]⟩, ⟨(some 7), none, .mv (.t 9)⟩, ⟨(some 10), none, .ext 0 (.t 7)⟩, ⟨(some 11), none, .ext 1 (.t 7)⟩, ⟨(some 12), none, .ext 2 (.t 7)⟩, ⟨(some 4), none, .mv (.t 10)⟩, ⟨(some 5), none, .mv (.t 11)⟩, ⟨(some 6), none, .mv (.t 12)⟩]) (.drop [0, 4, 7, 12]))
  (.seq (.seq (.reg [⟨(some 13), none, .mv (.t 5)⟩, ⟨(some 14), none, .mv (.t 6)⟩, ⟨(some 2), none, .mv (.t 13)⟩, ⟨(some 3), none, .mv (.t 14)⟩]) (.drop [4, 14]))
   .ret)))
def a_verify_Check : AFn := ⟨1, b_verify_Check, [.t 2, .t 3], false, false⟩
theorem a_verify_Check_ok : compF Try.prog Try.f21 [[1, 3], [0, 4, 7, 12], [4, 14]] false false hv = some a_verify_Check := by kernel_rfl

/-! fugleman/vm.Load: 10 -/
def b_vm_Load : AC :=
 (.seq (.seq (.reg [⟨(some 2), none, .mv (.c (.v (.pointer none)))⟩, ⟨(some 3), none, .mv (.c (.v (.int .i64 0)))⟩, ⟨(some 4), none, .mv (.c (.v (.int .i64 0)))⟩]) (.drop [1, 4]))
 (.seq (.seq (.seq (.reg [⟨(some 8), none, .mv (.t 0)⟩, ⟨(some 9), none, .call (.c (.fn 21 [])) [(.t 8)]⟩, ⟨(some 7), none, .mv (.t 9)⟩, ⟨(some 10), none, .ext 0 (.t 7)⟩, ⟨(some 11), none, .ext 1 (.t 7)⟩, ⟨(some 5), none, .mv (.t 10)⟩, ⟨(some 6), none, .mv (.t 11)⟩]) (.drop [7, 11]))
   (.seq (.seq (.reg [⟨(some 12), none, .mv (.t 5)⟩, ⟨(some 13), none, .bin .neq (.t 12) (.c (.v (.int .i64 0)))⟩]) (.drop [7, 12]))
    (.cond (.t 13) (.seq (.seq (.reg [⟨(some 14), none, .mv (.t 5)⟩, ⟨(some 15), none, .mv (.t 6)⟩, ⟨(some 2), none, .mv (.c (.v (.pointer none)))⟩, ⟨(some 3), none, .mv (.t 14)⟩, ⟨(some 4), none, .mv (.t 15)⟩]) (.drop [5, 15]))
      .ret)
     .skip)))
  (.seq (.seq (.reg [⟨(some 16), none, .mv (.t 0)⟩, ⟨(some 17), none, .call (.c (.fn 22 [])) [(.t 16)]⟩, ⟨(some 18), none, .build [(.v (.slice none 0 0))] [(0, 1, (.t 17))]⟩, ⟨(some 19), none, .box (.t 18)⟩, ⟨(some 2), none, .mv (.t 19)⟩, ⟨(some 3), none, .mv (.c (.v (.int .i64 0)))⟩, ⟨(some 4), none, .mv (.c (.v (.int .i64 0)))⟩]) (.drop [5, 19]))
   .ret)))
def a_vm_Load : AFn := ⟨1, b_vm_Load, [.t 2, .t 3, .t 4], false, false⟩
theorem a_vm_Load_ok : compF Try.prog Try.f10 [[1, 4], [7, 11], [7, 12], [5, 15], [5, 19]] false false hv = some a_vm_Load := by kernel_rfl

/-! fugleman/vm.area: 26 -/
def b_vm_area : AC :=
 (.seq (.seq (.reg [⟨(some 2), none, .mv (.c (.v (.string ⟨#[]⟩)))⟩]) (.drop [1, 2]))
 (.seq (.seq (.seq (.reg [⟨(some 3), none, .mv (.t 0)⟩, ⟨(some 4), none, .lens (.t 3)⟩, ⟨(some 5), none, .bin .geq (.t 4) (.c (.v (.int .i64 64)))⟩]) (.drop [1, 4]))
   (.cond (.t 5) (.seq (.seq (.reg [⟨(some 6), none, .mv (.t 0)⟩, ⟨(some 7), none, .slstr (.t 6) none (some (.c (.v (.int .i64 64))))⟩, ⟨(some 2), none, .mv (.t 7)⟩]) (.drop [3, 7]))
     .ret)
    .skip))
  (.seq (.seq (.reg [⟨(some 8), none, .mv (.t 0)⟩, ⟨(some 9), none, .mv (.t 0)⟩, ⟨(some 10), none, .lens (.t 9)⟩, ⟨(some 11), none, .bin .sub (.c (.v (.int .i64 64))) (.t 10)⟩, ⟨(some 12), none, .call (.c (.fn 40 [])) [(.c (.v (.string ⟨#[0]⟩))), (.t 11)]⟩, ⟨(some 13), none, .bin .add (.t 8) (.t 12)⟩, ⟨(some 2), none, .mv (.t 13)⟩]) (.drop [3, 13]))
   .ret)))
def a_vm_area : AFn := ⟨1, b_vm_area, [.t 2], false, false⟩
theorem a_vm_area_ok : compF Try.prog Try.f26 [[1, 2], [1, 4], [3, 7], [3, 13]] false false hv = some a_vm_area := by kernel_rfl

/-! fugleman/vm.Fit: 14 -/
def b_vm_Fit : AC :=
 (.seq (.seq (.reg [⟨(some 1), none, .box (.t 0)⟩, ⟨(some 2), none, .alloc [(.v (.string ⟨#[]⟩)), (.v (.string ⟨#[]⟩)), (.v (.string ⟨#[]⟩)), (.v (.string ⟨#[]⟩))]⟩]) (.drop []))
 (.seq (.seq (.regm [(.o, ⟨(some 3), none, .fad 0 (.t 1)⟩), (.o, ⟨(some 4), none, .load none (.t 3)⟩), (.o, ⟨(some 6), none, .fad 1 (.t 1)⟩), (.o, ⟨(some 7), none, .load none (.t 6)⟩), (.o, ⟨(some 9), none, .fad 2 (.t 1)⟩), (.o, ⟨(some 10), none, .load none (.t 9)⟩), (.o, ⟨(some 12), none, .fad 3 (.t 1)⟩), (.o, ⟨(some 13), none, .load none (.t 12)⟩), (.m, ⟨(some 5), none, .call (.c (.fn 26 [])) [(.t 4)]⟩), (.m, ⟨(some 8), none, .call (.c (.fn 26 [])) [(.t 7)]⟩), (.m, ⟨(some 11), none, .call (.c (.fn 26 [])) [(.t 10)]⟩), (.m, ⟨(some 14), none, .call (.c (.fn 26 [])) [(.t 13)]⟩), (.o, ⟨(some 15), none, .build [(.v (.string ⟨#[]⟩)), (.v (.string ⟨#[]⟩)), (.v (.string ⟨#[]⟩)), (.v (.string ⟨#[]⟩))] [(0, 1, (.t 5)), (1, 1, (.t 8)), (2, 1, (.t 11)), (3, 1, (.t 14))]⟩), (.o, ⟨none, none, .store 4 (.t 2) (.t 15)⟩)]) (.drop [3, 15]))
  .ret))
def a_vm_Fit : AFn := ⟨1, b_vm_Fit, [.cell 2 (some 4)], false, false⟩
theorem a_vm_Fit_ok : compF Try.prog Try.f14 [[], [3, 15]] false false hv = some a_vm_Fit := by kernel_rfl

/-! (fugleman/vm.value).is: 52 -/
def b_vm_value_is : AC :=
 (.seq (.seq (.reg [⟨(some 1), none, .box (.t 0)⟩, ⟨(some 2), none, .mv (.c (.v (.bool false)))⟩]) (.drop [2, 2]))
 (.seq (.seq (.reg [⟨(some 3), none, .fad 1 (.t 1)⟩, ⟨(some 4), none, .load none (.t 3)⟩, ⟨(some 5), none, .bin .eql (.t 4) (.c (.v (.int .i64 1)))⟩, ⟨(some 2), none, .mv (.t 5)⟩]) (.drop [3, 5]))
  .ret))
def a_vm_value_is : AFn := ⟨1, b_vm_value_is, [.t 2], false, false⟩
theorem a_vm_value_is_ok : compF Try.prog Try.f52 [[2, 2], [3, 5]] false false hv = some a_vm_value_is := by kernel_rfl

/-! (*fugleman/vm.run).leaves: 32 -/
def c_vm_run_leaves_0 : AC :=
 (.seq (.seq (.reg [⟨(some 12), none, .mv (.t 0)⟩, ⟨(some 13), none, .nilck (.t 12)⟩, ⟨(some 14), none, .fad 5 (.t 13)⟩, ⟨(some 15), none, .load (some 2) (.t 14)⟩, ⟨(some 16), none, .call (.c (.fn 52 [])) [(.t 15)]⟩, ⟨(some 4), none, .mv (.t 16)⟩]) (.drop [5, 16]))
         .ret)
def c_vm_run_leaves_1 : AC :=
 (.seq (.seq (.seq (.reg [⟨(some 10), none, .bin .eql (.t 5) (.c (.v (.int .i64 26)))⟩, ⟨(some 9), none, .mv (.t 10)⟩]) (.drop [10, 10]))
        (.cond (.t 9) .skip
         (.seq (.reg [⟨(some 11), none, .bin .eql (.t 5) (.c (.v (.int .i64 29)))⟩, ⟨(some 9), none, .mv (.t 11)⟩]) (.drop [10, 11]))))
       (.cond (.t 9) c_vm_run_leaves_0
        .skip))
def b_vm_run_leaves : AC :=
 (.seq (.seq (.reg [⟨(some 4), none, .mv (.c (.v (.bool false)))⟩]) (.drop [2, 4]))
 (.seq (.seq (.seq (.reg [⟨(some 5), none, .mv (.t 1)⟩]) (.drop []))
   (.block 0 (.seq (.seq (.seq (.reg [⟨(some 7), none, .bin .eql (.t 5) (.c (.v (.int .i64 25)))⟩, ⟨(some 6), none, .mv (.t 7)⟩]) (.drop [7, 7]))
      (.cond (.t 6) .skip
       (.seq (.reg [⟨(some 8), none, .bin .eql (.t 5) (.c (.v (.int .i64 28)))⟩, ⟨(some 6), none, .mv (.t 8)⟩]) (.drop [7, 8]))))
     (.cond (.t 6) (.seq (.seq (.reg [⟨(some 4), none, .mv (.c (.v (.bool true)))⟩]) (.drop []))
       .ret)
      c_vm_run_leaves_1))))
  (.seq (.seq (.reg [⟨(some 17), none, .mv (.t 0)⟩, ⟨(some 18), none, .nilck (.t 17)⟩, ⟨(some 19), none, .fad 5 (.t 18)⟩, ⟨(some 20), none, .load (some 2) (.t 19)⟩, ⟨(some 21), none, .call (.c (.fn 52 [])) [(.t 20)]⟩, ⟨(some 22), none, .un .not (.t 21)⟩, ⟨(some 4), none, .mv (.t 22)⟩]) (.drop [5, 22]))
   .ret)))
def a_vm_run_leaves : AFn := ⟨2, b_vm_run_leaves, [.t 4], false, false⟩
theorem a_vm_run_leaves_ok : compF Try.prog Try.f32 [[2, 4], [], [7, 7], [7, 8], [], [10, 10], [10, 11], [5, 16], [5, 22]] false false hv = some a_vm_run_leaves := by kernel_rfl

/-! fugleman/iec.there: 102 -/
def b_iec_there : AC :=
 (.seq (.seq (.reg [⟨(some 6), none, .mv (.c (.v (.bool false)))⟩]) (.drop [3, 6]))
 (.seq (.seq (.reg [⟨(some 8), none, .mv (.t 2)⟩, ⟨(some 9), none, .call (.c (.fn 76 [])) [(.t 8)]⟩, ⟨(some 7), none, .mv (.t 9)⟩]) (.drop [8, 9]))
  (.seq (.seq (.reg [⟨(some 10), none, .mv (.t 7)⟩, ⟨(some 11), none, .bin .gtr (.t 10) (.c (.v (.int .i64 0)))⟩, ⟨(some 12), none, .mv (.t 11)⟩, ⟨(some 13), (some (12, true)), .mv (.t 1)⟩, ⟨(some 14), (some (12, true)), .bin .geq (.t 13) (.c (.v (.int .i64 0)))⟩, ⟨(some 15), none, .pick (.t 12) (.t 14) (.c (.v (.bool false)))⟩, ⟨(some 16), none, .mv (.t 15)⟩, ⟨(some 17), (some (16, true)), .mv (.t 1)⟩, ⟨(some 18), (some (16, true)), .mv (.t 0)⟩, ⟨(some 19), (some (16, true)), .bin .leq (.t 17) (.t 18)⟩, ⟨(some 20), none, .pick (.t 16) (.t 19) (.c (.v (.bool false)))⟩, ⟨(some 21), none, .mv (.t 20)⟩, ⟨(some 22), (some (21, true)), .mv (.t 7)⟩, ⟨(some 23), (some (21, true)), .mv (.t 0)⟩, ⟨(some 24), (some (21, true)), .mv (.t 1)⟩, ⟨(some 25), (some (21, true)), .bin .sub (.t 23) (.t 24)⟩, ⟨(some 26), (some (21, true)), .bin .leq (.t 22) (.t 25)⟩, ⟨(some 27), none, .pick (.t 21) (.t 26) (.c (.v (.bool false)))⟩, ⟨(some 6), none, .mv (.t 27)⟩]) (.drop [7, 27]))
   .ret)))
def a_iec_there : AFn := ⟨3, b_iec_there, [.t 6], false, false⟩
theorem a_iec_there_ok : compF Try.prog Try.f102 [[3, 6], [8, 9], [7, 27]] false false hv = some a_iec_there := by kernel_rfl

/-! fugleman/iec.Get: 101 -/
def l_iec_Get_1 : AC :=
 (.seq (.seq (.reg [⟨(some 36), none, .mv (.t 2)⟩, ⟨(some 37), none, .mv (.t 8)⟩, ⟨(some 38), none, .call (.c (.fn 56 [])) [(.t 36), (.t 37)]⟩, ⟨(some 6), none, .mv (.t 38)⟩, ⟨(some 7), none, .mv (.c (.v (.bool true)))⟩]) (.drop [8, 38]))
 .ret)
def l_iec_Get_0 : AC :=
 (.seq (.seq (.reg [⟨(some 27), none, .bin .lss (.t 26) (.t 25)⟩]) (.drop []))
 (.seq (.cond (.t 27) .skip
   (.exit 0))
  (.seq (.block 1 (.seq (.seq (.reg [⟨(some 28), none, .ixs 1 (.t 24) (.t 26)⟩, ⟨(some 29), none, .load none (.t 28)⟩, ⟨(some 10), none, .mv (.t 29)⟩]) (.drop [27, 29]))
     (.seq (.reg [⟨(some 30), none, .mv (.t 8)⟩, ⟨(some 31), none, .bin .shl (.t 30) (.c (.v (.int .u64 8)))⟩, ⟨(some 32), none, .mv (.t 10)⟩, ⟨(some 33), none, .cvi .i64 (.t 32)⟩, ⟨(some 34), none, .bin .or (.t 31) (.t 33)⟩, ⟨(some 8), none, .mv (.t 34)⟩]) (.drop [27, 34]))))
   (.seq (.reg [⟨(some 35), none, .bin .add (.t 26) (.c (.v (.int .i64 1)))⟩, ⟨(some 26), none, .mv (.t 35)⟩]) (.drop [27, 35])))))
def b_iec_Get : AC :=
 (.seq (.seq (.reg [⟨(some 6), none, .mv (.c (.v (.int .i64 0)))⟩, ⟨(some 7), none, .mv (.c (.v (.bool false)))⟩]) (.drop [3, 7]))
 (.seq (.seq (.seq (.reg [⟨(some 11), none, .mv (.t 0)⟩, ⟨(some 12), none, .lens (.t 11)⟩, ⟨(some 13), none, .mv (.t 1)⟩, ⟨(some 14), none, .mv (.t 2)⟩, ⟨(some 15), none, .call (.c (.fn 102 [])) [(.t 12), (.t 13), (.t 14)]⟩, ⟨(some 16), none, .un .not (.t 15)⟩]) (.drop [3, 15]))
   (.cond (.t 16) (.seq (.seq (.reg [⟨(some 6), none, .mv (.c (.v (.int .i64 0)))⟩, ⟨(some 7), none, .mv (.c (.v (.bool false)))⟩]) (.drop []))
     .ret)
    .skip))
  (.seq (.seq (.reg [⟨(some 8), none, .mv (.c (.v (.int .i64 0)))⟩]) (.drop []))
   (.seq (.seq (.seq (.reg [⟨(some 17), none, .mv (.t 0)⟩, ⟨(some 18), none, .mv (.t 1)⟩, ⟨(some 19), none, .mv (.t 1)⟩, ⟨(some 20), none, .mv (.t 2)⟩, ⟨(some 21), none, .call (.c (.fn 76 [])) [(.t 20)]⟩, ⟨(some 22), none, .bin .add (.t 19) (.t 21)⟩, ⟨(some 23), none, .slstr (.t 17) (some (.t 18)) (some (.t 22))⟩, ⟨(some 24), none, .cvsb (.t 23)⟩, ⟨(some 25), none, .len (.t 24)⟩, ⟨(some 26), none, .mv (.c (.v (.int .i64 0)))⟩]) (.drop [9, 23]))
     (.block 0 (.loop [2, 8, 24, 25, 26] l_iec_Get_0)))
    l_iec_Get_1))))
def a_iec_Get : AFn := ⟨3, b_iec_Get, [.t 6, .t 7], false, false⟩
theorem a_iec_Get_ok : compF Try.prog Try.f101 [[3, 7], [3, 15], [], [], [9, 23], [2, 8, 24, 25, 26], [], [27, 29], [27, 34], [27, 35], [8, 38]] false false hv = some a_iec_Get := by kernel_rfl

/-! (*fugleman/vm.run).get: 88 -/
def b_vm_run_get : AC :=
 (.seq (.seq (.reg [⟨(some 8), none, .mv (.c (.v (.int .i64 0)))⟩]) (.drop [4, 8]))
 (.seq (.seq (.reg [⟨(some 12), none, .mv (.t 0)⟩, ⟨(some 13), none, .mv (.t 1)⟩, ⟨(some 14), none, .nilck (.t 12)⟩, ⟨(some 15), none, .fad 0 (.t 14)⟩, ⟨(some 16), none, .ixa 5 1 (.t 15) (.t 13)⟩, ⟨(some 17), none, .load none (.t 16)⟩, ⟨(some 18), none, .cvbs (.t 17)⟩, ⟨(some 19), none, .mv (.t 2)⟩, ⟨(some 20), none, .mv (.t 3)⟩, ⟨(some 21), none, .call (.c (.fn 101 [])) [(.t 18), (.t 19), (.t 20)]⟩, ⟨(some 11), none, .mv (.t 21)⟩, ⟨(some 22), none, .ext 0 (.t 11)⟩, ⟨(some 23), none, .ext 1 (.t 11)⟩, ⟨(some 9), none, .mv (.t 22)⟩, ⟨(some 10), none, .mv (.t 23)⟩]) (.drop [10, 23]))
  (.seq (.seq (.reg [⟨(some 24), none, .mv (.t 9)⟩, ⟨(some 8), none, .mv (.t 24)⟩]) (.drop [9, 24]))
   .ret)))
def a_vm_run_get : AFn := ⟨4, b_vm_run_get, [.t 8], false, false⟩
theorem a_vm_run_get_ok : compF Try.prog Try.f88 [[4, 8], [10, 23], [9, 24]] false false hv = some a_vm_run_get := by kernel_rfl

/-! (*fugleman/vm.run).operand: 53 -/
def b_vm_run_operand : AC :=
 (.seq (.seq (.reg [⟨(some 3), none, .box (.t 1)⟩, ⟨(some 4), none, .mv (.c (.v (.int .i64 0)))⟩]) (.drop [4, 4]))
 (.seq (.seq (.seq (.reg [⟨(some 5), none, .fad 2 (.t 3)⟩, ⟨(some 6), none, .load none (.t 5)⟩, ⟨(some 7), none, .bin .eql (.t 6) (.c (.v (.int .i64 0)))⟩]) (.drop [4, 6]))
   (.cond (.t 7) (.seq (.seq (.reg [⟨(some 8), none, .fad 4 (.t 3)⟩, ⟨(some 9), none, .load none (.t 8)⟩, ⟨(some 4), none, .mv (.t 9)⟩]) (.drop [5, 9]))
     .ret)
    .skip))
  (.seq (.seq (.reg [⟨(some 10), none, .mv (.t 0)⟩, ⟨(some 11), none, .fad 2 (.t 3)⟩, ⟨(some 12), none, .load none (.t 11)⟩, ⟨(some 13), none, .fad 3 (.t 3)⟩, ⟨(some 14), none, .load none (.t 13)⟩, ⟨(some 15), none, .fad 1 (.t 3)⟩, ⟨(some 16), none, .load none (.t 15)⟩, ⟨(some 17), none, .call (.c (.fn 88 [])) [(.t 10), (.t 12), (.t 14), (.t 16)]⟩, ⟨(some 4), none, .mv (.t 17)⟩]) (.drop [5, 17]))
   .ret)))
def a_vm_run_operand : AFn := ⟨2, b_vm_run_operand, [.t 4], false, false⟩
theorem a_vm_run_operand_ok : compF Try.prog Try.f53 [[4, 4], [4, 6], [5, 9], [5, 17]] false false hv = some a_vm_run_operand := by kernel_rfl

/-! fugleman/iec.Not: 54 -/
def c_iec_Not_0 : AC :=
 (.seq (.seq (.reg [⟨(some 16), none, .mv (.t 0)⟩, ⟨(some 17), none, .bin .eql (.t 16) (.c (.v (.int .i64 1)))⟩, ⟨(some 15), none, .mv (.t 17)⟩]) (.drop [16, 17]))
      (.cond (.t 15) (.seq (.seq (.reg [⟨(some 18), none, .mv (.t 1)⟩, ⟨(some 19), none, .bin .sub (.c (.v (.int .i64 1))) (.t 18)⟩, ⟨(some 4), none, .mv (.t 19)⟩]) (.drop [5, 19]))
        .ret)
       .skip))
def b_iec_Not : AC :=
 (.seq (.seq (.reg [⟨(some 4), none, .mv (.c (.v (.int .i64 0)))⟩]) (.drop [2, 4]))
 (.seq (.block 0 (.seq (.seq (.reg [⟨(some 6), none, .mv (.t 0)⟩, ⟨(some 7), none, .call (.c (.fn 86 [])) [(.c (.v (.int .i64 13))), (.t 6)]⟩, ⟨(some 8), none, .un .not (.t 7)⟩, ⟨(some 9), none, .mv (.t 8)⟩, ⟨(some 10), (some (9, false)), .mv (.t 0)⟩, ⟨(some 11), (some (9, false)), .mv (.t 1)⟩, ⟨(some 12), (some (9, false)), .call (.c (.fn 74 [])) [(.t 10), (.t 11)]⟩, ⟨(some 13), (some (9, false)), .un .not (.t 12)⟩, ⟨(some 14), none, .pick (.t 9) (.c (.v (.bool true))) (.t 13)⟩, ⟨(some 5), none, .mv (.t 14)⟩]) (.drop [6, 14]))
    (.cond (.t 5) (.seq (.seq (.reg [⟨(some 4), none, .mv (.c (.v (.int .i64 0)))⟩]) (.drop []))
      .ret)
     c_iec_Not_0)))
  (.seq (.seq (.reg [⟨(some 20), none, .mv (.t 0)⟩, ⟨(some 21), none, .mv (.t 1)⟩, ⟨(some 22), none, .un .xor (.t 21)⟩, ⟨(some 23), none, .call (.c (.fn 56 [])) [(.t 20), (.t 22)]⟩, ⟨(some 4), none, .mv (.t 23)⟩]) (.drop [5, 23]))
   .ret)))
def a_iec_Not : AFn := ⟨2, b_iec_Not, [.t 4], false, false⟩
theorem a_iec_Not_ok : compF Try.prog Try.f54 [[2, 4], [6, 14], [], [16, 17], [5, 19], [5, 23]] false false hv = some a_iec_Not := by kernel_rfl

/-! fugleman/iec.Put: 89 -/
def l_iec_Put_1 : AC :=
 (.seq (.seq (.reg [⟨(some 8), none, .mv (.c (.v (.bool true)))⟩]) (.drop []))
 .ret)
def l_iec_Put_0 : AC :=
 (.seq (.seq (.seq (.reg [⟨(some 22), none, .mv (.t 9)⟩, ⟨(some 23), none, .bin .geq (.t 22) (.c (.v (.int .i64 0)))⟩]) (.drop [10, 22]))
  (.cond (.t 23) .skip
   (.exit 0)))
 (.seq (.block 1 (.seq (.seq (.reg [⟨(some 26), none, .mv (.t 0)⟩, ⟨(some 27), none, .mv (.t 1)⟩, ⟨(some 28), none, .mv (.t 9)⟩, ⟨(some 29), none, .bin .add (.t 27) (.t 28)⟩, ⟨(some 30), none, .mv (.t 3)⟩, ⟨(some 31), none, .cvi .u8 (.t 30)⟩, ⟨(some 32), none, .ixs 1 (.t 26) (.t 29)⟩, ⟨none, none, .store 1 (.t 32) (.t 31)⟩]) (.drop [10, 32]))
    (.seq (.reg [⟨(some 33), none, .mv (.t 3)⟩, ⟨(some 34), none, .bin .shr (.t 33) (.c (.v (.int .u64 8)))⟩, ⟨(some 3), none, .mv (.t 34)⟩]) (.drop [10, 34]))))
  (.seq (.reg [⟨(some 24), none, .mv (.t 9)⟩, ⟨(some 25), none, .bin .sub (.t 24) (.c (.v (.int .i64 1)))⟩, ⟨(some 9), none, .mv (.t 25)⟩]) (.drop [10, 25]))))
def b_iec_Put : AC :=
 (.seq (.seq (.reg [⟨(some 8), none, .mv (.c (.v (.bool false)))⟩]) (.drop [4, 8]))
 (.seq (.seq (.seq (.reg [⟨(some 10), none, .mv (.t 0)⟩, ⟨(some 11), none, .len (.t 10)⟩, ⟨(some 12), none, .mv (.t 1)⟩, ⟨(some 13), none, .mv (.t 2)⟩, ⟨(some 14), none, .call (.c (.fn 102 [])) [(.t 11), (.t 12), (.t 13)]⟩, ⟨(some 15), none, .un .not (.t 14)⟩]) (.drop [4, 14]))
   (.cond (.t 15) (.seq (.seq (.reg [⟨(some 8), none, .mv (.c (.v (.bool false)))⟩]) (.drop []))
     .ret)
    .skip))
  (.seq (.seq (.reg [⟨(some 16), none, .mv (.t 2)⟩, ⟨(some 17), none, .mv (.t 3)⟩, ⟨(some 18), none, .call (.c (.fn 56 [])) [(.t 16), (.t 17)]⟩, ⟨(some 3), none, .mv (.t 18)⟩]) (.drop [4, 18]))
   (.seq (.seq (.seq (.reg [⟨(some 19), none, .mv (.t 2)⟩, ⟨(some 20), none, .call (.c (.fn 76 [])) [(.t 19)]⟩, ⟨(some 21), none, .bin .sub (.t 20) (.c (.v (.int .i64 1)))⟩, ⟨(some 9), none, .mv (.t 21)⟩]) (.drop [10, 21]))
     (.block 0 (.loop [0, 1, 3, 9] l_iec_Put_0)))
    l_iec_Put_1))))
def a_iec_Put : AFn := ⟨4, b_iec_Put, [.t 8], false, true⟩
theorem a_iec_Put_ok : compF Try.prog Try.f89 [[4, 8], [4, 14], [], [4, 18], [10, 21], [0, 1, 3, 9], [10, 22], [10, 32], [10, 34], [10, 25], []] false true hv = some a_iec_Put := by kernel_rfl

/-! (*fugleman/vm.run).put: 55 -/
def b_vm_run_put : AC :=
 (.seq (.reg [⟨(some 10), none, .mv (.t 0)⟩, ⟨(some 11), none, .mv (.t 1)⟩, ⟨(some 12), none, .nilck (.t 10)⟩, ⟨(some 13), none, .fad 0 (.t 12)⟩, ⟨(some 14), none, .ixa 5 1 (.t 13) (.t 11)⟩, ⟨(some 15), none, .load none (.t 14)⟩, ⟨(some 16), none, .mv (.t 2)⟩, ⟨(some 17), none, .mv (.t 3)⟩, ⟨(some 18), none, .mv (.t 4)⟩, ⟨(some 19), none, .call (.c (.fn 89 [])) [(.t 15), (.t 16), (.t 17), (.t 18)]⟩]) (.drop [0, 19]))
def a_vm_run_put : AFn := ⟨5, b_vm_run_put, [], false, true⟩
theorem a_vm_run_put_ok : compF Try.prog Try.f55 [[0, 19]] false true hv = some a_vm_run_put := by kernel_rfl

/-! fugleman/iec.quotient: 107 -/
def b_iec_quotient : AC :=
 (.seq (.seq (.reg [⟨(some 4), none, .mv (.c (.v (.int .i64 0)))⟩, ⟨(some 5), none, .mv (.c (.v (.int .i64 0)))⟩]) (.drop [2, 5]))
 (.seq (.seq (.seq (.reg [⟨(some 6), none, .mv (.t 1)⟩, ⟨(some 7), none, .bin .eql (.t 6) (.c (.v (.int .i64 0)))⟩]) (.drop [2, 6]))
   (.cond (.t 7) (.seq (.seq (.reg [⟨(some 4), none, .mv (.c (.v (.int .i64 0)))⟩, ⟨(some 5), none, .mv (.c (.v (.int .i64 0)))⟩]) (.drop []))
     .ret)
    .skip))
  (.seq (.seq (.regq [⟨(some 8), none, .mv (.t 0)⟩, ⟨(some 9), none, .mv (.t 1)⟩, ⟨(some 10), none, .bin .quo (.t 8) (.t 9)⟩, ⟨(some 11), none, .mv (.t 0)⟩, ⟨(some 12), none, .mv (.t 1)⟩, ⟨(some 13), none, .bin .rem (.t 11) (.t 12)⟩, ⟨(some 4), none, .mv (.t 10)⟩, ⟨(some 5), none, .mv (.t 13)⟩]) (.drop [6, 13]))
   .ret)))
def a_iec_quotient : AFn := ⟨2, b_iec_quotient, [.t 4, .t 5], false, false⟩
theorem a_iec_quotient_ok : compF Try.prog Try.f107 [[2, 5], [2, 6], [], [6, 13]] false false hv = some a_iec_quotient := by kernel_rfl

/-! fugleman/iec.yes: 108 -/
def b_iec_yes : AC :=
 (.seq (.seq (.reg [⟨(some 2), none, .mv (.c (.v (.int .i64 0)))⟩]) (.drop [1, 2]))
 (.seq (.seq (.seq (.reg [⟨(some 3), none, .mv (.t 0)⟩]) (.drop []))
   (.cond (.t 3) (.seq (.seq (.reg [⟨(some 2), none, .mv (.c (.v (.int .i64 1)))⟩]) (.drop []))
     .ret)
    .skip))
  (.seq (.seq (.reg [⟨(some 2), none, .mv (.c (.v (.int .i64 0)))⟩]) (.drop []))
   .ret)))
def a_iec_yes : AFn := ⟨1, b_iec_yes, [.t 2], false, false⟩
theorem a_iec_yes_ok : compF Try.prog Try.f108 [[1, 2], [], [], []] false false hv = some a_iec_yes := by kernel_rfl

/-! fugleman/iec.raw: 104 -/
def c_iec_raw_0 : AC :=
 (.seq (.seq (.reg [⟨(some 54), none, .mv (.t 1)⟩, ⟨(some 55), none, .mv (.t 2)⟩, ⟨(some 56), none, .bin .gtr (.t 54) (.t 55)⟩, ⟨(some 57), none, .call (.c (.fn 108 [])) [(.t 56)]⟩, ⟨(some 6), none, .mv (.t 57)⟩]) (.drop [7, 57]))
                        .ret)
def c_iec_raw_1 : AC :=
 (.seq (.seq (.reg [⟨(some 60), none, .mv (.t 1)⟩, ⟨(some 61), none, .mv (.t 2)⟩, ⟨(some 62), none, .bin .geq (.t 60) (.t 61)⟩, ⟨(some 63), none, .call (.c (.fn 108 [])) [(.t 62)]⟩, ⟨(some 6), none, .mv (.t 63)⟩]) (.drop [7, 63]))
                          .ret)
def c_iec_raw_2 : AC :=
 (.seq (.seq (.reg [⟨(some 66), none, .mv (.t 1)⟩, ⟨(some 67), none, .mv (.t 2)⟩, ⟨(some 68), none, .bin .eql (.t 66) (.t 67)⟩, ⟨(some 69), none, .call (.c (.fn 108 [])) [(.t 68)]⟩, ⟨(some 6), none, .mv (.t 69)⟩]) (.drop [7, 69]))
                            .ret)
def c_iec_raw_3 : AC :=
 (.seq (.seq (.reg [⟨(some 72), none, .mv (.t 1)⟩, ⟨(some 73), none, .mv (.t 2)⟩, ⟨(some 74), none, .bin .neq (.t 72) (.t 73)⟩, ⟨(some 75), none, .call (.c (.fn 108 [])) [(.t 74)]⟩, ⟨(some 6), none, .mv (.t 75)⟩]) (.drop [7, 75]))
                              .ret)
def c_iec_raw_4 : AC :=
 (.seq (.seq (.reg [⟨(some 78), none, .mv (.t 1)⟩, ⟨(some 79), none, .mv (.t 2)⟩, ⟨(some 80), none, .bin .leq (.t 78) (.t 79)⟩, ⟨(some 81), none, .call (.c (.fn 108 [])) [(.t 80)]⟩, ⟨(some 6), none, .mv (.t 81)⟩]) (.drop [7, 81]))
                                .ret)
def c_iec_raw_5 : AC :=
 (.seq (.seq (.reg [⟨(some 71), none, .bin .eql (.t 15) (.c (.v (.int .i64 22)))⟩, ⟨(some 70), none, .mv (.t 71)⟩]) (.drop [71, 71]))
                            (.cond (.t 70) c_iec_raw_3
                             (.seq (.seq (.reg [⟨(some 77), none, .bin .eql (.t 15) (.c (.v (.int .i64 23)))⟩, ⟨(some 76), none, .mv (.t 77)⟩]) (.drop [77, 77]))
                              (.cond (.t 76) c_iec_raw_4
                               .skip))))
def c_iec_raw_6 : AC :=
 (.seq (.seq (.reg [⟨(some 59), none, .bin .eql (.t 15) (.c (.v (.int .i64 20)))⟩, ⟨(some 58), none, .mv (.t 59)⟩]) (.drop [59, 59]))
                        (.cond (.t 58) c_iec_raw_1
                         (.seq (.seq (.reg [⟨(some 65), none, .bin .eql (.t 15) (.c (.v (.int .i64 21)))⟩, ⟨(some 64), none, .mv (.t 65)⟩]) (.drop [65, 65]))
                          (.cond (.t 64) c_iec_raw_2
                           c_iec_raw_5))))
def c_iec_raw_7 : AC :=
 (.seq (.seq (.reg [⟨(some 50), none, .bin .eql (.t 15) (.c (.v (.int .i64 18)))⟩, ⟨(some 49), none, .mv (.t 50)⟩]) (.drop [50, 50]))
                    (.cond (.t 49) (.seq (.seq (.reg [⟨(some 51), none, .mv (.t 8)⟩, ⟨(some 6), none, .mv (.t 51)⟩]) (.drop [7, 51]))
                      .ret)
                     (.seq (.seq (.reg [⟨(some 53), none, .bin .eql (.t 15) (.c (.v (.int .i64 19)))⟩, ⟨(some 52), none, .mv (.t 53)⟩]) (.drop [53, 53]))
                      (.cond (.t 52) c_iec_raw_0
                       c_iec_raw_6))))
def c_iec_raw_8 : AC :=
 (.seq (.seq (.reg [⟨(some 47), none, .bin .eql (.t 15) (.c (.v (.int .i64 17)))⟩, ⟨(some 46), none, .mv (.t 47)⟩]) (.drop [47, 47]))
                  (.cond (.t 46) (.seq (.seq (.reg [⟨(some 48), none, .mv (.t 7)⟩, ⟨(some 6), none, .mv (.t 48)⟩]) (.drop [7, 48]))
                    .ret)
                   c_iec_raw_7))
def c_iec_raw_9 : AC :=
 (.seq (.seq (.reg [⟨(some 42), none, .bin .eql (.t 15) (.c (.v (.int .i64 16)))⟩, ⟨(some 41), none, .mv (.t 42)⟩]) (.drop [42, 42]))
                (.cond (.t 41) (.seq (.seq (.reg [⟨(some 43), none, .mv (.t 1)⟩, ⟨(some 44), none, .mv (.t 2)⟩, ⟨(some 45), none, .bin .mul (.t 43) (.t 44)⟩, ⟨(some 6), none, .mv (.t 45)⟩]) (.drop [7, 45]))
                  .ret)
                 c_iec_raw_8))
def c_iec_raw_10 : AC :=
 (.seq (.seq (.reg [⟨(some 37), none, .bin .eql (.t 15) (.c (.v (.int .i64 15)))⟩, ⟨(some 36), none, .mv (.t 37)⟩]) (.drop [37, 37]))
              (.cond (.t 36) (.seq (.seq (.reg [⟨(some 38), none, .mv (.t 1)⟩, ⟨(some 39), none, .mv (.t 2)⟩, ⟨(some 40), none, .bin .sub (.t 38) (.t 39)⟩, ⟨(some 6), none, .mv (.t 40)⟩]) (.drop [7, 40]))
                .ret)
               c_iec_raw_9))
def c_iec_raw_11 : AC :=
 (.seq (.seq (.reg [⟨(some 32), none, .bin .eql (.t 15) (.c (.v (.int .i64 14)))⟩, ⟨(some 31), none, .mv (.t 32)⟩]) (.drop [32, 32]))
            (.cond (.t 31) (.seq (.seq (.reg [⟨(some 33), none, .mv (.t 1)⟩, ⟨(some 34), none, .mv (.t 2)⟩, ⟨(some 35), none, .bin .add (.t 33) (.t 34)⟩, ⟨(some 6), none, .mv (.t 35)⟩]) (.drop [7, 35]))
              .ret)
             c_iec_raw_10))
def c_iec_raw_12 : AC :=
 (.seq (.seq (.reg [⟨(some 27), none, .bin .eql (.t 15) (.c (.v (.int .i64 9)))⟩, ⟨(some 26), none, .mv (.t 27)⟩]) (.drop [27, 27]))
          (.cond (.t 26) (.seq (.seq (.reg [⟨(some 28), none, .mv (.t 1)⟩, ⟨(some 29), none, .mv (.t 2)⟩, ⟨(some 30), none, .bin .xor (.t 28) (.t 29)⟩, ⟨(some 6), none, .mv (.t 30)⟩]) (.drop [7, 30]))
            .ret)
           c_iec_raw_11))
def c_iec_raw_13 : AC :=
 (.seq (.seq (.reg [⟨(some 22), none, .bin .eql (.t 15) (.c (.v (.int .i64 8)))⟩, ⟨(some 21), none, .mv (.t 22)⟩]) (.drop [22, 22]))
        (.cond (.t 21) (.seq (.seq (.reg [⟨(some 23), none, .mv (.t 1)⟩, ⟨(some 24), none, .mv (.t 2)⟩, ⟨(some 25), none, .bin .or (.t 23) (.t 24)⟩, ⟨(some 6), none, .mv (.t 25)⟩]) (.drop [7, 25]))
          .ret)
         c_iec_raw_12))
def b_iec_raw : AC :=
 (.seq (.seq (.reg [⟨(some 6), none, .mv (.c (.v (.int .i64 0)))⟩]) (.drop [3, 6]))
 (.seq (.seq (.reg [⟨(some 10), none, .mv (.t 1)⟩, ⟨(some 11), none, .mv (.t 2)⟩, ⟨(some 12), none, .call (.c (.fn 107 [])) [(.t 10), (.t 11)]⟩, ⟨(some 9), none, .mv (.t 12)⟩, ⟨(some 13), none, .ext 0 (.t 9)⟩, ⟨(some 14), none, .ext 1 (.t 9)⟩, ⟨(some 7), none, .mv (.t 13)⟩, ⟨(some 8), none, .mv (.t 14)⟩]) (.drop [9, 14]))
  (.seq (.seq (.seq (.reg [⟨(some 15), none, .mv (.t 0)⟩]) (.drop []))
    (.block 0 (.seq (.seq (.reg [⟨(some 17), none, .bin .eql (.t 15) (.c (.v (.int .i64 7)))⟩, ⟨(some 16), none, .mv (.t 17)⟩]) (.drop [17, 17]))
      (.cond (.t 16) (.seq (.seq (.reg [⟨(some 18), none, .mv (.t 1)⟩, ⟨(some 19), none, .mv (.t 2)⟩, ⟨(some 20), none, .bin .and (.t 18) (.t 19)⟩, ⟨(some 6), none, .mv (.t 20)⟩]) (.drop [7, 20]))
        .ret)
       c_iec_raw_13))))
   (.seq (.seq (.reg [⟨(some 82), none, .mv (.t 1)⟩, ⟨(some 83), none, .mv (.t 2)⟩, ⟨(some 84), none, .bin .lss (.t 82) (.t 83)⟩, ⟨(some 85), none, .call (.c (.fn 108 [])) [(.t 84)]⟩, ⟨(some 6), none, .mv (.t 85)⟩]) (.drop [7, 85]))
    .ret))))
def a_iec_raw : AFn := ⟨3, b_iec_raw, [.t 6], false, false⟩
theorem a_iec_raw_ok : compF Try.prog Try.f104 [[3, 6], [9, 14], [], [17, 17], [7, 20], [22, 22], [7, 25], [27, 27], [7, 30], [32, 32], [7, 35], [37, 37], [7, 40], [42, 42], [7, 45], [47, 47], [7, 48], [50, 50], [7, 51], [53, 53], [7, 57], [59, 59], [7, 63], [65, 65], [7, 69], [71, 71], [7, 75], [77, 77], [7, 81], [7, 85]] false false hv = some a_iec_raw := by kernel_rfl

/-! fugleman/iec.Do: 91 -/
def c_iec_Do_0 : AC :=
 (.seq (.reg [⟨(some 38), none, .mv (.t 0)⟩, ⟨(some 39), none, .bin .sub (.t 38) (.c (.v (.int .i64 10)))⟩, ⟨(some 40), none, .bin .add (.t 39) (.c (.v (.int .i64 7)))⟩, ⟨(some 41), none, .mv (.t 1)⟩, ⟨(some 42), none, .mv (.t 3)⟩, ⟨(some 43), none, .call (.c (.fn 54 [])) [(.t 41), (.t 42)]⟩, ⟨(some 0), none, .mv (.t 40)⟩, ⟨(some 3), none, .mv (.t 43)⟩]) (.drop [4, 43]))
def c_iec_Do_1 : AC :=
 (.seq (.seq (.reg [⟨(some 32), none, .mv (.t 0)⟩, ⟨(some 33), none, .bin .geq (.t 32) (.c (.v (.int .i64 10)))⟩, ⟨(some 34), none, .mv (.t 33)⟩, ⟨(some 35), (some (34, true)), .mv (.t 0)⟩, ⟨(some 36), (some (34, true)), .bin .leq (.t 35) (.c (.v (.int .i64 12)))⟩, ⟨(some 37), none, .pick (.t 34) (.t 36) (.c (.v (.bool false)))⟩, ⟨(some 31), none, .mv (.t 37)⟩]) (.drop [32, 37]))
        (.cond (.t 31) c_iec_Do_0
         .skip))
def c_iec_Do_2 : AC :=
 (.seq (.seq (.reg [⟨(some 21), none, .mv (.t 1)⟩, ⟨(some 22), none, .mv (.t 2)⟩, ⟨(some 23), none, .call (.c (.fn 74 [])) [(.t 21), (.t 22)]⟩, ⟨(some 24), none, .un .not (.t 23)⟩, ⟨(some 25), none, .mv (.t 24)⟩, ⟨(some 26), (some (25, false)), .mv (.t 1)⟩, ⟨(some 27), (some (25, false)), .mv (.t 3)⟩, ⟨(some 28), (some (25, false)), .call (.c (.fn 74 [])) [(.t 26), (.t 27)]⟩, ⟨(some 29), (some (25, false)), .un .not (.t 28)⟩, ⟨(some 30), none, .pick (.t 25) (.c (.v (.bool true))) (.t 29)⟩, ⟨(some 20), none, .mv (.t 30)⟩]) (.drop [21, 30]))
      (.cond (.t 20) (.seq (.seq (.reg [⟨(some 8), none, .mv (.c (.v (.int .i64 0)))⟩, ⟨(some 9), none, .mv (.c (.v (.int .i64 1)))⟩]) (.drop []))
        .ret)
       c_iec_Do_1))
def b_iec_Do : AC :=
 (.seq (.seq (.reg [⟨(some 8), none, .mv (.c (.v (.int .i64 0)))⟩, ⟨(some 9), none, .mv (.c (.v (.int .i64 0)))⟩]) (.drop [4, 9]))
 (.seq (.block 0 (.seq (.seq (.reg [⟨(some 12), none, .mv (.t 0)⟩, ⟨(some 13), none, .bin .eql (.t 12) (.c (.v (.int .i64 13)))⟩, ⟨(some 14), none, .mv (.t 13)⟩, ⟨(some 15), (some (14, false)), .mv (.t 0)⟩, ⟨(some 16), (some (14, false)), .mv (.t 1)⟩, ⟨(some 17), (some (14, false)), .call (.c (.fn 86 [])) [(.t 15), (.t 16)]⟩, ⟨(some 18), (some (14, false)), .un .not (.t 17)⟩, ⟨(some 19), none, .pick (.t 14) (.c (.v (.bool true))) (.t 18)⟩, ⟨(some 11), none, .mv (.t 19)⟩]) (.drop [12, 19]))
    (.cond (.t 11) (.seq (.seq (.reg [⟨(some 8), none, .mv (.c (.v (.int .i64 0)))⟩, ⟨(some 9), none, .mv (.c (.v (.int .i64 6)))⟩]) (.drop []))
      .ret)
     c_iec_Do_2)))
  (.seq (.seq (.reg [⟨(some 44), none, .mv (.t 0)⟩, ⟨(some 45), none, .mv (.t 2)⟩, ⟨(some 46), none, .mv (.t 3)⟩, ⟨(some 47), none, .call (.c (.fn 104 [])) [(.t 44), (.t 45), (.t 46)]⟩, ⟨(some 10), none, .mv (.t 47)⟩]) (.drop [11, 47]))
   (.seq (.seq (.seq (.reg [⟨(some 48), none, .mv (.t 0)⟩, ⟨(some 49), none, .bin .lss (.t 48) (.c (.v (.int .i64 19)))⟩]) (.drop [11, 48]))
     (.cond (.t 49) (.seq (.reg [⟨(some 50), none, .mv (.t 1)⟩, ⟨(some 51), none, .mv (.t 10)⟩, ⟨(some 52), none, .call (.c (.fn 56 [])) [(.t 50), (.t 51)]⟩, ⟨(some 10), none, .mv (.t 52)⟩]) (.drop [11, 52]))
      .skip))
    (.seq (.seq (.reg [⟨(some 53), none, .mv (.t 10)⟩, ⟨(some 8), none, .mv (.t 53)⟩, ⟨(some 9), none, .mv (.c (.v (.int .i64 0)))⟩]) (.drop [10, 53]))
     .ret)))))
def a_iec_Do : AFn := ⟨4, b_iec_Do, [.t 8, .t 9], false, false⟩
theorem a_iec_Do_ok : compF Try.prog Try.f91 [[4, 9], [12, 19], [], [21, 30], [], [32, 37], [4, 43], [11, 47], [11, 48], [11, 52], [10, 53]] false false hv = some a_iec_Do := by kernel_rfl

/-! (*fugleman/vm.run).do: 57 -/
def c_vm_run_do_0 : AC :=
 (.seq (.reg [⟨(some 20), none, .mv (.t 0)⟩, ⟨(some 21), none, .nilck (.t 20)⟩, ⟨(some 22), none, .fad 8 (.t 21)⟩, ⟨(some 23), none, .fad 1 (.t 22)⟩, ⟨(some 24), none, .load none (.t 23)⟩, ⟨(some 25), none, .bin .add (.t 24) (.c (.v (.int .i64 1)))⟩, ⟨(some 26), none, .nilck (.t 20)⟩, ⟨(some 27), none, .fad 8 (.t 26)⟩, ⟨(some 28), none, .fad 1 (.t 27)⟩, ⟨none, none, .store 1 (.t 28) (.t 25)⟩]) (.drop [7, 28]))
def b_vm_run_do : AC :=
 (.seq (.seq (.reg [⟨(some 6), none, .box (.t 2)⟩]) (.drop []))
 (.seq (.seq (.seq (.reg [⟨(some 10), none, .mv (.t 3)⟩, ⟨(some 11), none, .bin .eql (.t 10) (.c (.v (.int .i64 0)))⟩, ⟨(some 12), none, .mv (.t 11)⟩, ⟨(some 13), (some (12, true)), .mv (.t 1)⟩, ⟨(some 14), (some (12, true)), .bin .eql (.t 13) (.c (.v (.int .i64 17)))⟩, ⟨(some 15), (some (12, true)), .mv (.t 14)⟩, ⟨(some 16), (some (15, false)), .mv (.t 1)⟩, ⟨(some 17), (some (15, false)), .bin .eql (.t 16) (.c (.v (.int .i64 18)))⟩, ⟨(some 18), (some (12, true)), .pick (.t 15) (.c (.v (.bool true))) (.t 17)⟩, ⟨(some 19), none, .pick (.t 12) (.t 18) (.c (.v (.bool false)))⟩]) (.drop [7, 18]))
   (.cond (.t 19) c_vm_run_do_0
    .skip))
  (.seq (.seq (.reg [⟨(some 30), none, .mv (.t 1)⟩, ⟨(some 31), none, .fad 0 (.t 6)⟩, ⟨(some 32), none, .load none (.t 31)⟩, ⟨(some 33), none, .fad 1 (.t 6)⟩, ⟨(some 34), none, .load none (.t 33)⟩, ⟨(some 35), none, .mv (.t 3)⟩, ⟨(some 36), none, .call (.c (.fn 91 [])) [(.t 30), (.t 32), (.t 34), (.t 35)]⟩, ⟨(some 29), none, .mv (.t 36)⟩, ⟨(some 37), none, .ext 0 (.t 29)⟩, ⟨(some 38), none, .ext 1 (.t 29)⟩, ⟨(some 8), none, .mv (.t 37)⟩, ⟨(some 9), none, .mv (.t 38)⟩]) (.drop [9, 38]))
   (.seq (.seq (.reg [⟨(some 39), none, .mv (.t 0)⟩, ⟨(some 40), none, .fad 0 (.t 6)⟩, ⟨(some 41), none, .load none (.t 40)⟩, ⟨(some 42), none, .mv (.t 8)⟩, ⟨(some 43), none, .build [(.v (.int .i64 0)), (.v (.int .i64 0))] [(0, 1, (.t 41)), (1, 1, (.t 42))]⟩, ⟨(some 44), none, .nilck (.t 39)⟩, ⟨(some 45), none, .fad 5 (.t 44)⟩, ⟨none, none, .store 2 (.t 45) (.t 43)⟩]) (.drop [2, 45]))
    (.seq (.seq (.reg [⟨(some 46), none, .mv (.t 1)⟩, ⟨(some 47), none, .bin .geq (.t 46) (.c (.v (.int .i64 19)))⟩]) (.drop [1, 46]))
     (.cond (.t 47) (.seq (.reg [⟨(some 48), none, .mv (.t 0)⟩, ⟨(some 49), none, .nilck (.t 48)⟩, ⟨(some 50), none, .fad 5 (.t 49)⟩, ⟨(some 51), none, .fad 0 (.t 50)⟩, ⟨none, none, .store 1 (.t 51) (.c (.v (.int .i64 1)))⟩]) (.drop [0, 51]))
      .skip))))))
def a_vm_run_do : AFn := ⟨4, b_vm_run_do, [], false, true⟩
theorem a_vm_run_do_ok : compF Try.prog Try.f57 [[], [7, 18], [7, 28], [9, 38], [2, 45], [1, 46], [0, 51]] false true hv = some a_vm_run_do := by kernel_rfl

/-! fugleman/vm.truth: 60 -/
def b_vm_truth : AC :=
 (.seq (.seq (.reg [⟨(some 2), none, .alloc [(.v (.int .i64 0)), (.v (.int .i64 0))]⟩]) (.drop []))
 (.seq (.seq (.seq (.reg [⟨(some 3), none, .mv (.t 0)⟩]) (.drop []))
   (.cond (.t 3) (.seq (.seq (.reg [⟨(some 4), none, .build [(.v (.int .i64 0)), (.v (.int .i64 0))] [(0, 1, (.c (.v (.int .i64 1)))), (1, 1, (.c (.v (.int .i64 1))))]⟩, ⟨none, none, .store 2 (.t 2) (.t 4)⟩]) (.drop [3, 4]))
     .ret)
    .skip))
  (.seq (.seq (.reg [⟨(some 5), none, .build [(.v (.int .i64 0)), (.v (.int .i64 0))] [(0, 1, (.c (.v (.int .i64 1)))), (1, 1, (.c (.v (.int .i64 0))))]⟩, ⟨none, none, .store 2 (.t 2) (.t 5)⟩]) (.drop [3, 5]))
   .ret)))
def a_vm_truth : AFn := ⟨1, b_vm_truth, [.cell 2 (some 2)], false, false⟩
theorem a_vm_truth_ok : compF Try.prog Try.f60 [[], [], [3, 4], [3, 5]] false false hv = some a_vm_truth := by kernel_rfl

end Go.Proofs.Ythkjiclplecljaa.Tab
