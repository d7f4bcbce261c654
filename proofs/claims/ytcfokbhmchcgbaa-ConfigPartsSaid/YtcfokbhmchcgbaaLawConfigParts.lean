/- The statement ConfigPartsSaid: for every input the law returns true and its arguments read behind the call as before. -/
import Derived.Test.YtcfokbhmchcgbaaRows
import Derived.WalkKit
import Derived.ProofKit
import Derived.OpenShut
import Derived.ShutString
import Derived.ChangeOld
import Derived.Below
import Derived.SizedLaws
import Derived.Carry
import Derived.Test.YtcfokbhmchcgbaaMg28c758ef
import Derived.Test.YtcfokbhmchcgbaaMgc48481c2
namespace Go.Proofs.Ytcfokbhmchcgbaa.configParts
open Go.ChangeMaps (open_string shut_string)
open Go.ChangeShapes Go.WideShapes Go.ChangeAt Go.RowKit Go.Proofs.Ytcfokbhmchcgbaa.Args Go.Proofs.Ytcfokbhmchcgbaa.Tab
set_option linter.unusedVariables false
set_option linter.unusedSimpArgs false
theorem own : ownKnob Try.prog.godebug = none := by kernel_rfl
theorem laidOut : laidOutB Try.prog = true := by kernel_rfl
set_option maxRecDepth 100000 in
theorem lifted (os : Os) (started : os.Started) (H : Type) (enc : TypeId × Value → H) :
    ReturnsInHanded {} Try.checked os 4 .any (Rows.configPartsSpec.pre6 enc Try.prog Try.f4 Rows.configPartsRow.domain false) (Rows.configPartsSpec.post enc Try.prog Try.f4 false true false false) := by
  refine returnsInHanded_of_change_sized (C := Try.checked) own started (by kernel_rfl) Try.func4
    (ChangeSpec.witness6 (enc := enc) (C := Try.checked) false ⟨#[], #[.agg #[.int .i64 0, .int .i64 0, .int .i64 0, .int .i64 0, .int .i64 0, .int .i64 0, .slice none 0 0, .slice none 0 0], .int .u8 0, .int .u8 0], []⟩ 8 (by kernel_rfl) (by kernel_rfl) (by kernel_rfl) (by kernel_rfl)) ?_
  intro W base args ds gs before hval0 hW hcnd hsz0 _
  have hsz : (DataW.weightsEach Try.prog (Try.f4.params.toList ++ Rows.configPartsSpec.plain.varTypes Try.prog) (ds ++ gs)).all (· ≤ reachBytes) = true := hsz0
  have hval : ∀ (j : Nat) t v, Try.f4.params[j]? = some t → args[j]? = some v → Value.okWide Try.prog W .any base t v := hval0
  have hW' := hW
  obtain ⟨p, q, hA0, hV, rfl, hfz, hnd⟩ := hW
  have hA : DataW.TrodAll enc Try.prog W 0 (fun _ => true) true Try.f4.params.toList args.toList ds p := hA0
  rw [Try.params4] at hA hval hsz
  obtain ⟨v0, vs0, d0, ds0, p0, q0, hargs, rfl, rfl, h0, r0⟩ := trodAll_cons hA
  obtain ⟨v1, vs1, d1, ds1, p1, q1, rfl, rfl, rfl, h1, r1⟩ := trodAll_cons r0
  obtain ⟨v2, vs2, d2, ds2, p2, q2, rfl, rfl, rfl, h2, r2⟩ := trodAll_cons r1
  obtain ⟨rfl, rfl, rfl⟩ := trodAll_nil r2
  obtain rfl : args = #[v0, v1, v2] := by cases args; simp_all
  obtain ⟨rfl, rfl⟩ := trodVars_none hV
  obtain ⟨A0, rfl⟩ := Sym.agg_of Try.underlying25 (hval 0 25 v0 rfl rfl)
  have lt0 : ∀ x ∈ p0, x.block < W.heap.size := by obtain ⟨m, hm⟩ := h0; exact DataW.trod_lt m _ _ _ hm
  obtain ⟨a0, x0, q_0⟩ := Sym.arg_rd Args.rConfigParts0 h0 hsz (j := 0) rfl rfl
  have y0 := Sym.VC.agg (cs := A0) (by simpa [Value.cells] using x0)
  obtain ⟨a1, rfl, rfl, rfl, z1⟩ := open_int Try.underlying5 (hval 1 5 v1 rfl rfl) h1
  have q_1 := Sym.rng_u8 z1
  have yv1 := @Sym.VR.v (Sym.ImOf W) [] (.int .u8 a1) rfl
  obtain ⟨a2, rfl, rfl, rfl, z2⟩ := open_int Try.underlying5 (hval 2 5 v2 rfl rfl) h2
  have q_2 := Sym.rng_u8 z2
  have yv2 := @Sym.VR.v (Sym.ImOf W) [] (.int .u8 a2) rfl
  clear hA0 hval0 hsz0 hsz
  obtain ⟨ob, d, hk⟩ := Said.ConfigParts a0 a1 a2 q_0 q_1 q_2
  refine (Sym.law_calls Tab.calls hk (vals := [.agg A0, .int .u8 a1, .int .u8 a2]) ⟨y0, yv1, yv2, trivial⟩).mono ?_
  rintro e W' ⟨he, bel⟩
  subst he
  exact ⟨_, rfl, _, _, _, [], _, [], hW', trodAll_mk1 (shut_bool Try.underlying4 _), (trodAll_cons_mk (Below.trod laidOut (by kernel_rfl) (of_decide_eq_true (by kernel_rfl)) h0 bel lt0) (trodAll_cons_mk (shut_int Try.underlying5 z1) (trodAll_cons_mk (shut_int Try.underlying5 z2) trodAll_mk0))), rfl, bel.frame _, fun h => by cases h⟩
theorem over : Rows.configPartsRow.holds Try.pinned (OpenSpec.ofChange Rows.configPartsSpec) :=
  OpenClaim.holds_of_wide 4 Try.f4 rfl rfl rfl rfl rfl rfl rfl ⟨rfl, rfl, rfl, rfl, rfl⟩ rfl rfl rfl rfl rfl (by kernel_rfl) Try.func4 (by kernel_rfl)
    (of_decide_eq_true (by kernel_rfl)) (by unfold Func.isWrapper; first | (rw [if_pos (by decide +kernel)]; kernel_rfl) | (rw [if_neg (by decide +kernel)]; exact ⟨rfl, rfl⟩))
    (fun os started H enc _ => lifted os started H enc)
theorem proved : Rows.ConfigPartsSaid := over
#print axioms proved
end Go.Proofs.Ytcfokbhmchcgbaa.configParts
namespace Go.Proofs.Ytcfokbhmchcgbaa
/-- The row, under a short name, for the claim. -/
theorem configParts_holds : Rows.ConfigPartsSaid := configParts.proved
end Go.Proofs.Ytcfokbhmchcgbaa
