/- The statement BusFullSaid: for every input the law returns true and its arguments read behind the call as before. -/
import Derived.Test.YthmmgpdniijkeaaRows
import Derived.Test.YthmmgpdniijkeaaSaidBusFull
import Derived.Test.YthmmgpdniijkeaaArgs
import Derived.WalkKit
import Derived.ProofKit
import Derived.OpenShut
import Derived.ShutString
import Derived.ChangeOld
import Derived.Below
import Derived.SizedLaws
import Derived.Carry
namespace Go.Proofs.Ythmmgpdniijkeaa.busFull
open Go.ChangeMaps (open_string shut_string)
open Go.ChangeShapes Go.WideShapes Go.ChangeAt Go.RowKit Go.Proofs.Ythmmgpdniijkeaa.Args Go.Proofs.Ythmmgpdniijkeaa.Tab
set_option linter.unusedVariables false
set_option linter.unusedSimpArgs false
theorem own : ownKnob Try.prog.godebug = none := by kernel_rfl
theorem laidOut : laidOutB Try.prog = true := by kernel_rfl
set_option maxRecDepth 100000 in
theorem lifted (os : Os) (started : os.Started) (H : Type) (enc : TypeId × Value → H) :
    ReturnsInHanded {} Try.checked os 3 .any (Rows.busFullSpec.pre6 enc Try.prog Try.f3 Rows.busFullRow.domain false) (Rows.busFullSpec.post enc Try.prog Try.f3 false true false false) := by
  refine returnsInHanded_of_change_sized (C := Try.checked) own started (by kernel_rfl) Try.func3
    (ChangeSpec.witness6 (enc := enc) (C := Try.checked) false ⟨#[], #[.int .u8 0, .string ByteArray.empty, .int .i64 0], []⟩ 8 (by kernel_rfl) (by kernel_rfl) (by kernel_rfl) (by kernel_rfl)) ?_
  intro W base args ds gs before hval0 hW hcnd hsz0 _
  have hsz : (DataW.weightsEach Try.prog (Try.f3.params.toList ++ Rows.busFullSpec.plain.varTypes Try.prog) (ds ++ gs)).all (· ≤ reachBytes) = true := hsz0
  have hval : ∀ (j : Nat) t v, Try.f3.params[j]? = some t → args[j]? = some v → Value.okWide Try.prog W .any base t v := hval0
  have hW' := hW
  obtain ⟨p, q, hA0, hV, rfl, hfz, hnd⟩ := hW
  have hA : DataW.TrodAll enc Try.prog W 0 (fun _ => true) true Try.f3.params.toList args.toList ds p := hA0
  rw [Try.params3] at hA hval hsz
  obtain ⟨v0, vs0, d0, ds0, p0, q0, hargs, rfl, rfl, h0, r0⟩ := trodAll_cons hA
  obtain ⟨v1, vs1, d1, ds1, p1, q1, rfl, rfl, rfl, h1, r1⟩ := trodAll_cons r0
  obtain ⟨v2, vs2, d2, ds2, p2, q2, rfl, rfl, rfl, h2, r2⟩ := trodAll_cons r1
  obtain ⟨rfl, rfl, rfl⟩ := trodAll_nil r2
  obtain rfl : args = #[v0, v1, v2] := by cases args; simp_all
  obtain ⟨rfl, rfl⟩ := trodVars_none hV
  obtain ⟨a0, rfl, rfl, rfl, z0⟩ := open_int Try.underlying5 (hval 0 5 v0 rfl rfl) h0
  have q_0 := Sym.rng_u8 z0
  have yv0 := @Sym.VR.v (Sym.ImOf W) [] (.int .u8 a0) rfl
  obtain ⟨a1, rfl, rfl, rfl, y1⟩ := open_string Try.underlying9 (hval 1 9 v1 rfl rfl) h1
  have q_1 : a1.size ≤ 140737488351232 := by
    have z := sized_string hsz (j := 1) (t := 9) rfl rfl
    rw [Array.length_toList] at z
    exact z
  have yv1 := @Sym.VR.v (Sym.ImOf W) [] (.string a1) rfl
  obtain ⟨a2, rfl, rfl, rfl, z2⟩ := open_int Try.underlying3 (hval 2 3 v2 rfl rfl) h2
  have q_2 := Sym.rng_i64 z2
  have yv2 := @Sym.VR.v (Sym.ImOf W) [] (.int .i64 a2) rfl
  clear hA0 hval0 hsz0 hsz
  obtain ⟨ob, d, hk⟩ := Said.BusFull a0 a1 a2 q_0 q_1 q_2
  refine (Sym.law_calls Tab.calls hk (vals := [.int .u8 a0, .string a1, .int .i64 a2]) ⟨yv0, yv1, yv2, trivial⟩).mono ?_
  rintro e W' ⟨he, bel⟩
  subst he
  exact ⟨_, rfl, _, _, _, [], _, [], hW', trodAll_mk1 (shut_bool Try.underlying4 _), (trodAll_cons_mk (shut_int Try.underlying5 z0) (trodAll_cons_mk (shut_string Try.underlying9 y1) (trodAll_cons_mk (shut_int Try.underlying3 z2) trodAll_mk0))), rfl, bel.frame _, fun h => by cases h⟩
theorem over : Rows.busFullRow.holds Try.pinned (OpenSpec.ofChange Rows.busFullSpec) :=
  OpenClaim.holds_of_wide 3 Try.f3 rfl rfl rfl rfl rfl rfl rfl ⟨rfl, rfl, rfl, rfl, rfl⟩ rfl rfl rfl rfl rfl (by kernel_rfl) Try.func3 (by kernel_rfl)
    (of_decide_eq_true (by kernel_rfl)) (by unfold Func.isWrapper; first | (rw [if_pos (by decide +kernel)]; kernel_rfl) | (rw [if_neg (by decide +kernel)]; exact ⟨rfl, rfl⟩))
    (fun os started H enc _ => lifted os started H enc)
theorem proved : Rows.BusFullSaid := over
#print axioms proved
end Go.Proofs.Ythmmgpdniijkeaa.busFull
namespace Go.Proofs.Ythmmgpdniijkeaa
/-- The row, under a short name, for the claim. -/
theorem busFull_holds : Rows.BusFullSaid := busFull.proved
end Go.Proofs.Ythmmgpdniijkeaa
