/- The statement RetainEndsSaid: for every input the law returns true and its arguments read behind the call as before. -/
import Derived.Test.YthdiljjbcaleoaaDoorRows
import Derived.WalkKit
import Derived.ProofKit
import Derived.OpenShut
import Derived.ShutString
import Derived.ChangeOld
import Derived.Below
import Derived.SizedLaws
import Derived.Carry
import Derived.LaidMore
import Derived.Lay
import Derived.SevenTiedAt
import Derived.Stop.Joined
import Derived.Test.YthdiljjbcaleoaaDoorTie
import Derived.Test.YthdiljjbcaleoaaDoorCards
import Derived.Test.YthdiljjbcaleoaaDoorMgeac542b9
namespace Go.Proofs.YthdiljjbcaleoaaDoor.retainEnds
open Go.ChangeMaps (open_string shut_string)
open Go.ChangeShapes Go.WideShapes Go.ChangeAt Go.RowKit Go.Proofs.YthdiljjbcaleoaaDoor.Args Go.Proofs.YthdiljjbcaleoaaDoor.Tab
set_option linter.unusedVariables false
set_option linter.unusedSimpArgs false
theorem own : ownKnob Tryd.prog.godebug = none := by kernel_rfl
theorem laidOut : laidOutB Tryd.prog = true := by kernel_rfl
set_option maxRecDepth 100000 in
theorem lifted (os : Os) (started : os.Started) (H : Type) (enc : TypeId × Value → H) :
    ReturnsInHanded {} Tryd.checked os 3 .any (fun w args => (Rows.retainEndsSpec.pre enc Tryd.prog Tryd.f3 Rows.retainEndsRow.domain false w args ∧ laidMetH Tryd.prog Rows.retainEndsRow.laid w) ∧ sizedMet enc Tryd.prog Tryd.f3 (OpenSpec.ofChange Rows.retainEndsSpec) false w args) (Rows.retainEndsSpec.post enc Tryd.prog Tryd.f3 false true false false) := by
  refine returnsInHanded_of_change_and (C := Tryd.checked) (X := fun w _ => laidMetH Tryd.prog Rows.retainEndsRow.laid w) (fun _ _ _ hh h => h.of_heap hh) own started (by kernel_rfl) Tryd.func3
    (ChangeSpec.witness_shaped (enc := enc) (C := Tryd.checked) (os := os) (X := fun w _ => laidMetH Tryd.prog Rows.retainEndsRow.laid w) false (World.laidAll Tryd.prog os Rows.retainEndsRow.laid) #[.agg #[.int .u32 0, .int .u16 0, .string ByteArray.empty], .int .u8 0] 8 (World.laidAll_os _ _ _)
      (World.shaped_of_ZipB (by kernel_rfl) (by kernel_rfl)) (by kernel_rfl) (by kernel_rfl) (by kernel_rfl)
      (by rw [MakeChecks.laidMetH_plain _ _ _ (by kernel_rfl)]; exact laidMet_laidAll _ (by kernel_rfl) (by kernel_rfl))) ?_
  intro W base args ds gs before hval0 hW hcnd hsz0 hlaid _
  have hsz : (DataW.weightsEach Tryd.prog (Tryd.f3.params.toList ++ Rows.retainEndsSpec.plain.varTypes Tryd.prog) (ds ++ gs)).all (· ≤ reachBytes) = true := hsz0
  have hval : ∀ (j : Nat) t v, Tryd.f3.params[j]? = some t → args[j]? = some v → Value.okWide Tryd.prog W .any base t v := hval0
  have hW' := hW
  obtain ⟨p, q, hA0, hV, rfl, hfz, hnd⟩ := hW
  have hA : DataW.TrodAll enc Tryd.prog W 0 (fun _ => true) true Tryd.f3.params.toList args.toList ds p := hA0
  rw [Tryd.params3] at hA hval hsz
  obtain ⟨v0, vs0, d0, ds0, p0, q0, hargs, rfl, rfl, h0, r0⟩ := trodAll_cons hA
  obtain ⟨v1, vs1, d1, ds1, p1, q1, rfl, rfl, rfl, h1, r1⟩ := trodAll_cons r0
  obtain ⟨rfl, rfl, rfl⟩ := trodAll_nil r1
  obtain rfl : args = #[v0, v1] := by cases args; simp_all
  obtain ⟨rfl, rfl⟩ := trodVars_none hV
  obtain ⟨A0, rfl⟩ := Sym.agg_of Tryd.underlying25 (hval 0 25 v0 rfl rfl)
  have lt0 : ∀ x ∈ p0, x.block < W.heap.size := by obtain ⟨m, hm⟩ := h0; exact DataW.trod_lt m _ _ _ hm
  obtain ⟨a0, x0, q_0⟩ := Sym.arg_rd Args.rRetainEnds0 h0 hsz (j := 0) rfl rfl
  have y0 := Sym.VC.agg (cs := A0) (by simpa [Value.cells] using x0)
  obtain ⟨a1, rfl, rfl, rfl, z1⟩ := open_int Tryd.underlying5 (hval 1 5 v1 rfl rfl) h1
  have q_1 := Sym.rng_u8 z1
  have yv1 := @Sym.VR.v (Sym.ImOf W) [] (.int .u8 a1) rfl
  clear hA0 hval0 hsz0 hsz
  obtain ⟨ob, d, hk⟩ := Said.RetainEnds a0 a1 q_0 q_1
  refine (Sym.law_calls Tab.calls hk (vals := [.agg A0, .int .u8 a1]) ⟨y0, yv1, trivial⟩).mono ?_
  rintro e W' ⟨he, bel⟩
  subst he
  exact ⟨_, rfl, _, _, _, [], _, [], hW', trodAll_mk1 (shut_bool Tryd.underlying4 _), (trodAll_cons_mk (Below.trod laidOut (by kernel_rfl) (of_decide_eq_true (by kernel_rfl)) h0 bel lt0) (trodAll_cons_mk (shut_int Tryd.underlying5 z1) trodAll_mk0)), rfl, bel.frame _, fun h => by cases h⟩
theorem over : Rows.retainEndsRow.holds Tryd.pinned (OpenSpec.ofChange Rows.retainEndsSpec) :=
  OpenClaim.holds_of_wide 3 Tryd.f3 rfl rfl rfl rfl rfl rfl rfl ⟨rfl, rfl, rfl, rfl, rfl⟩ rfl rfl rfl rfl rfl (by kernel_rfl) Tryd.func3 (by kernel_rfl)
    (of_decide_eq_true (by kernel_rfl)) (by unfold Func.isWrapper; first | (rw [if_pos (by decide +kernel)]; kernel_rfl) | (rw [if_neg (by decide +kernel)]; exact ⟨rfl, rfl⟩))
    (fun os started H enc _ => lifted os started H enc)
theorem cardOf : Rows.RetainEndsCardSaid :=
  Claim7.holds_tied_plain_at .later [] [.data, .pinned] true (true, "efb4fd21950b87b5c632e58887979e2ae62bac05073b7a850aaa65bf54bac0de") false
    over (fun _ h => by cases h) (by kernel_rfl) (fun _ h => by cases h) retainEnds_row_tie rfl ⟨rfl, rfl⟩ (by kernel_rfl) rfl
    (fun f fn hf hfn => by
      obtain rfl : f = 3 := Option.some.inj ((show Tryd.prog.funcNamed "fugleman/fuglemanlaw07.RetainEnds" = some 3 by kernel_rfl).symm.trans hf) |>.symm
      obtain rfl : fn = Tryd.f3 := (Option.some.inj (Tryd.func3.symm.trans hfn)).symm
      exact ⟨by kernel_rfl, fun j t ht => by
        rw [Tryd.params3] at ht
        have hm := List.mem_of_getElem? (Array.getElem?_toList.trans ht)
        simp only [List.mem_cons, List.mem_nil_iff, or_false] at hm
        rcases hm with rfl | rfl
        · exact (show Tryd.prog.wantsStandIn 25 = false by kernel_rfl)
        · exact (show Tryd.prog.wantsStandIn 5 = false by kernel_rfl)⟩)
    (by kernel_rfl)
theorem proved : Rows.RetainEndsCardSaid := cardOf
#print axioms proved
end Go.Proofs.YthdiljjbcaleoaaDoor.retainEnds
namespace Go.Proofs.YthdiljjbcaleoaaDoor
/-- The row, under a short name, for the claim. -/
theorem retainEnds_holds : Rows.RetainEndsCardSaid := retainEnds.proved
end Go.Proofs.YthdiljjbcaleoaaDoor
