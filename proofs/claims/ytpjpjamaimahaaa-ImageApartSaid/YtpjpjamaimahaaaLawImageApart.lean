/- The statement ImageApartSaid: for every input the law returns true and its arguments read behind the call as before. -/
import Derived.Test.YtpjpjamaimahaaaRows
import Derived.Test.YtpjpjamaimahaaaPImageApartx5
import Derived.Test.YtpjpjamaimahaaaPureImageApart
import Derived.Test.YtpjpjamaimahaaaOpens
import Derived.WalkKit
import Derived.ProofKit
import Derived.OpenShut
import Derived.ShutString
import Derived.ChangeOld
import Derived.Below
import Derived.SizedLaws
import Derived.Carry
namespace Go.Proofs.Ytpjpjamaimahaaa.imageApart
open Go.ChangeShapes Go.WideShapes Go.ChangeAt Go.RowKit Go.Proofs.Ytpjpjamaimahaaa.Opens Go.Proofs.Ytpjpjamaimahaaa.PImageApart Go.Proofs.YtpjpjamaimahaaaW.PrintWords Go.Proofs.YtpjpjamaimahaaaW.PrintLast Go.Proofs.YtpjpjamaimahaaaW.PrintMore
open Go.ChangeMaps (open_string shut_string)
set_option linter.unusedVariables false
set_option linter.unusedSimpArgs false
theorem own : ownKnob Try.prog.godebug = none := by kernel_rfl
theorem laidOut : laidOutB Try.prog = true := by kernel_rfl
theorem reads1 : Opens Try.prog 22 (Kd.slice 32 k32) (fun l1 => (l1.length ≤ 140737488351232 ∧ ∀ (i : Nat) x, l1[i]? = some x → ((Lit.int .i64 x.f0).wf = true ∧ (Lit.int .i64 x.f1).wf = true))) := (opens_slice Try.underlying22 (opens_struct Try.underlying32 rfl (fun x : S32 => (x.f0, x.f1)) (fun v => ⟨v.1, v.2⟩) (fun v => rfl) (opensF_cons 3 0 (opens_int Try.underlying3) (by kernel_rfl) (opensF_one 3 1 (opens_int Try.underlying3) (by kernel_rfl))) (by kernel_rfl)) (by kernel_rfl) (by kernel_rfl)).imp fun _ h => h
theorem reads2 : Opens Try.prog 27 (Kd.slice 34 k34) (fun l2 => (l2.length ≤ 140737488351232 ∧ ∀ (i : Nat) x, l2[i]? = some x → ((Lit.int .i64 x.f0).wf = true ∧ (Lit.int .i64 x.f1).wf = true ∧ (Lit.int .i64 x.f2).wf = true ∧ True))) := (opens_slice Try.underlying27 (opens_struct Try.underlying34 rfl (fun x : S34 => (x.f0, x.f1, x.f2, x.f3)) (fun v => ⟨v.1, v.2.1, v.2.2.1, v.2.2.2⟩) (fun v => rfl) (opensF_cons 3 0 (opens_int Try.underlying3) (by kernel_rfl) (opensF_cons 3 1 (opens_int Try.underlying3) (by kernel_rfl) (opensF_cons 3 2 (opens_int Try.underlying3) (by kernel_rfl) (opensF_one 4 3 (opens_bool Try.underlying4) (by kernel_rfl))))) (by kernel_rfl)) (by kernel_rfl) (by kernel_rfl)).imp fun _ h => h
set_option maxRecDepth 100000 in
theorem lifted (os : Os) (started : os.Started) (H : Type) (enc : TypeId × Value → H) :
    ReturnsInHanded {} Try.checked os 4 .any (Rows.imageApartSpec.pre6 enc Try.prog Try.f4 Rows.imageApartRow.domain false) (Rows.imageApartSpec.post enc Try.prog Try.f4 false true false false) := by
  refine returnsInHanded_of_change_sized (C := Try.checked) own started (by kernel_rfl) Try.func4
    (ChangeSpec.witness6 (enc := enc) (C := Try.checked) false ⟨#[], #[.int .i64 0, .slice none 0 0, .slice none 0 0], []⟩ 8 (by kernel_rfl) (by kernel_rfl) (by kernel_rfl) (by kernel_rfl)) ?_
  intro W base args ds gs before hval0 hW hcnd hsz0 _
  have hsz : (DataW.weightsEach Try.prog (Try.f4.params.toList ++ Rows.imageApartSpec.plain.varTypes Try.prog) (ds ++ gs)).all (· ≤ reachBytes) = true := hsz0
  have hval : ∀ (j : Nat) t v, Try.f4.params[j]? = some t → args[j]? = some v → Value.okWide Try.prog W .any base t v := hval0
  have hW' := hW
  obtain ⟨p, q, hA0, hV, rfl, hfz, hnd⟩ := hW
  have hA : DataW.TrodAll enc Try.prog W 0 (fun _ => true) true Try.f4.params.toList args.toList ds p := hA0
  rw [Try.params4] at hA hval hsz
  obtain ⟨v0, vs0, d0, ds0, p0, q0, hargs, rfl, rfl, h0, r0⟩ := trodAll_cons hA
  obtain ⟨v1, vs1, d1, ds1, p1, q1, rfl, rfl, rfl, h1, r1⟩ := trodAll_cons r0
  obtain ⟨v2, vs2, d2, ds2, p2, q2, rfl, rfl, rfl, h2, r2⟩ := trodAll_cons r1
  obtain ⟨rfl, rfl, rfl⟩ := trodAll_nil r2
  obtain rfl : args = #[v0, v1, v2] := by cases args; simp_all
  obtain ⟨rfl, rfl⟩ := trodVars_none hV
  obtain ⟨a0, rfl, rfl, rfl, q_0⟩ := open_int Try.underlying3 (hval 0 3 v0 rfl rfl) h0
  obtain ⟨A1, n1, c1, rfl⟩ := okWide_slice Try.underlying22 (hval 1 22 v1 rfl rfl)
  have lt1 : ∀ x ∈ p1, x.block < W.heap.size := by obtain ⟨m, hm⟩ := h1; exact DataW.trod_lt m _ _ _ hm
  obtain ⟨l1, rfl, hc1, hr1, q_1⟩ := arg_slice reads1 h1 hsz (j := 1) rfl rfl
  obtain ⟨A2, n2, c2, rfl⟩ := okWide_slice Try.underlying27 (hval 2 27 v2 rfl rfl)
  have lt2 : ∀ x ∈ p2, x.block < W.heap.size := by obtain ⟨m, hm⟩ := h2; exact DataW.trod_lt m _ _ _ hm
  obtain ⟨l2, rfl, hc2, hr2, q_2⟩ := arg_slice reads2 h2 hsz (j := 2) rfl rfl
  clear hA0 hval0 hsz0 hsz
  obtain ⟨k, hk⟩ := Pure.ImageApart a0 l1 l2 q_0 q_1 q_2
  refine (fuglemanlaw19_ImageApart.calls k a0 A1 c1 l1 A2 c2 l2 true W hr1 hc1 hr2 hc2 hk).mono ?_
  rintro e W' ⟨he, bel0⟩
  have bel : Below W.heap.size W W' := bel0
  subst he
  exact ⟨_, rfl, _, _, _, [], _, [], hW', trodAll_mk1 (shut_bool Try.underlying4 _), (trodAll_cons_mk (shut_int Try.underlying3 q_0) (trodAll_cons_mk (Below.trod laidOut (by kernel_rfl) (of_decide_eq_true (by kernel_rfl)) h1 bel lt1) (trodAll_cons_mk (Below.trod laidOut (by kernel_rfl) (of_decide_eq_true (by kernel_rfl)) h2 bel lt2) trodAll_mk0))), rfl, bel.frame _, fun h => by cases h⟩
theorem over : Rows.imageApartRow.holds Try.pinned (OpenSpec.ofChange Rows.imageApartSpec) :=
  OpenClaim.holds_of_wide 4 Try.f4 rfl rfl rfl rfl rfl rfl rfl ⟨rfl, rfl, rfl, rfl, rfl⟩ rfl rfl rfl rfl rfl (by kernel_rfl) Try.func4 (by kernel_rfl)
    (of_decide_eq_true (by kernel_rfl)) (by unfold Func.isWrapper; first | (rw [if_pos (by decide +kernel)]; kernel_rfl) | (rw [if_neg (by decide +kernel)]; exact ⟨rfl, rfl⟩))
    (fun os started H enc _ => lifted os started H enc)
theorem proved : Rows.ImageApartSaid := over
#print axioms proved
end Go.Proofs.Ytpjpjamaimahaaa.imageApart
namespace Go.Proofs.Ytpjpjamaimahaaa
/-- The row, under a short name, for the claim. -/
theorem imageApart_holds : Rows.ImageApartSaid := imageApart.proved
end Go.Proofs.Ytpjpjamaimahaaa
