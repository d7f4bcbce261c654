/- Operations, regions. -/
import Derived.Test.YtkaigdfklihlcaaSymM
namespace Go.Proofs.Ytkaigdfklihlcaa.Sym
open Go
set_option linter.unusedVariables false
set_option linter.unusedSimpArgs false

theorem fnAt {Im : Imm} {ρ : List Loc} {g : Nat} {caps : List AV} {x : Value} (h : VR Im ρ (.fn g caps) x) : ∃ arr, x = .func (.func g) #[] arr ∧ VRs Im ρ caps arr.toList := by
  cases h with
  | fn arr f hl h1 h2 => exact ⟨arr, rfl, VRs.of_get (by simpa using hl) fun i a hi => ⟨f i, by rw [Array.getElem?_toList]; exact h1 i a hi, h2 i a hi⟩⟩
theorem sub_stale {Ω : List Obj} {ord : List Nat} : ∀ o ∈ sub Ω ord false, o.fresh = false := fun o ho => by
  unfold sub at ho
  obtain ⟨k, _, rfl⟩ := List.mem_map.1 ho
  simp
/-- A call with its own objects alone. -/
theorem call_ok {P : Program} {C : CT} (hC : CallsOK P C) {Im : Imm} {ρ : List Loc} {Ω : List Obj} {w : World} (hR : Rel Im ρ Ω w) {g : Nat} {as : List AV} {us : List Value} (hus : VRs Im ρ as us) (hok : as.all okv = true) {ord : List Nat} (hreach : reach Ω 400 (dedup (as.flatMap refs) []) [] = some ord) {r : Res} (hr : C g (dedup (as.flatMap refs) []).length (as.map (ren (pos ord))) (sub Ω ord false) = some r) :
    Closed Ω ord ∧ (dedup (as.flatMap refs) []).length ≤ ord.length ∧ FnOK P g ∧ Calls P g us.toArray w fun e w' => ∃ x Im' ρ', e = .returned x ∧ Back (dedup (as.flatMap refs) []).length Im (subρ ρ ord) (sub Ω ord false) w r Im' ρ' x w' := by
  obtain ⟨hcl, hin, rr, hrr⟩ := reach_all hreach
  have hn : (dedup (as.flatMap refs) []).length ≤ ord.length := by rw [hrr, List.length_append]; omega
  have hm : Map ρ (subρ ρ ord) (pos ord) (as.flatMap refs) := sub_map (Ω := Ω) _ hin
  obtain ⟨h1, h2⟩ := hC g _ _ _ r hr Im (subρ ρ ord) w us (sub_rel hR hcl false) sub_stale (by simpa [sub] using hn) (hus.ren hok hm)
  exact ⟨hcl, hn, h1, h2⟩

theorem comp_call {P : Program} {o : Oper} {f : AX} {xs : List AX} (hc : compOp P o = some (.call f xs)) : ∃ c, o.op = .call c := by
  cases ho : o.op
  case call c => exact ⟨c, rfl⟩
  all_goals (exfalso; simp only [compOp, ho] at hc; repeat' (first | (cases hc; done) | (split at hc) | (rw [Option.bind_eq_some_iff] at hc; obtain ⟨_, _, hc⟩ := hc) | (rw [Option.map_eq_some_iff] at hc; obtain ⟨_, _, hc⟩ := hc)))
/-- One operation. -/
theorem op_wp {P : Program} {C : CT} (hC : CallsOK P C) {o : Oper} {ao : AO} (hc : compOp P o = some ao) {Im : Imm} {ρ : List Loc} {Ω : List Obj} {w : World} (hR : Rel Im ρ Ω w) {e : Env} {act : Act} (hE : EnvOK Im ρ e act) {a : AV} {Ω' : List Obj} {d : Nat} (h : aop C e Ω ao = some (a, Ω', d)) {next : Act → World → Prop} {Q : Exit → Act → World → Prop}
    (hn : ∀ y Im' ρ' w', VR Im' ρ' a y → Ev1 Im ρ Ω w Im' ρ' Ω' w' d → next (act.put o.dst y) w') : o.wp P act w next Q := by
  have plain : (∀ f xs, ao ≠ .call f xs) → o.wp P act w next Q := fun hno => by
    have h' : (match aq e Ω ao with
      | some a => some (a, Ω, 0)
      | none => (ae e Ω ao).map fun (a, Ω', d) => (a, Ω', lev d)) = some (a, Ω', d) := by
      cases ao <;> first | exact absurd rfl (hno _ _) | exact h
    split at h'
    · rename_i b hb
      cases h'
      obtain ⟨y, hy, hrun⟩ := aq_ok hc hR hE hb
      have := hrun w (SameK.refl _ _ _ w)
      unfold Oper.wp
      rw [this]
      exact hn y Im ρ w hy (Ev1.refl hR)
    · rw [Option.map_eq_some_iff] at h'
      obtain ⟨⟨b, Ω1, dd⟩, hae, h'⟩ := h'
      simp only [Option.some.injEq, Prod.mk.injEq] at h'
      obtain ⟨rfl, rfl, rfl⟩ := h'
      obtain ⟨n, y, w', ρ', hrun, hny, hy, hst, _⟩ := ae_ok hc hR hE hae
      have hst' : Step Im ρ Ω w Im ρ' Ω1 w' (decide (lev dd = 2)) := by cases dd <;> exact hst
      have hev : Ev1 Im ρ Ω w Im ρ' Ω1 w' (lev dd) := ⟨hst', fun _ h _ => h, fun h0 => by cases dd <;> simp [lev] at h0, by cases dd <;> simp [lev]⟩
      have hres := hn y Im ρ' w' hy hev
      unfold Oper.wp
      rw [hrun]
      rcases hny with rfl | ⟨rfl, rfl⟩
      · exact hres
      · exact hres
  by_cases hcall : ∃ f xs, ao = .call f xs
  · obtain ⟨fx, xs, rfl⟩ := hcall
    obtain ⟨c, ho⟩ := comp_call hc
    · simp only [compOp, ho, Option.bind_eq_some_iff] at hc
      obtain ⟨xs', hxs, hc⟩ := hc
      split at hc
      · rename_i f hcal
        simp only [Option.bind_eq_some_iff] at hc
        obtain ⟨fx', hf, hc⟩ := hc
        cases hc
        simp only [aop, Option.bind_eq_some_iff] at h
        obtain ⟨fv, hfv, as, has, h⟩ := h
        unfold aCall at h
        split at h
        · rename_i g caps
          split at h
          · rename_i hok
            simp only [Option.bind_eq_some_iff] at h
            obtain ⟨ord, hord, r, hr, h⟩ := h
            obtain ⟨arr, harr, hcaps⟩ := fnAt (ev_ok hE hf hfv)
            have hargs := evs_ok hE _ _ _ hxs has
            obtain ⟨hcl, hnl, hfn, hcalls⟩ := call_ok hC hR (hargs.append hcaps) hok hord hr
            have hrun := call_run ho hcal harr hfn w
            rw [Array.toList_map] at hrun
            unfold Oper.wp
            rw [hrun]
            refine hcalls.mono ?_
            rintro en w' ⟨x, Im', ρ', rfl, hb⟩
            obtain ⟨ρ2, hv, hst, hstill, hlvl⟩ := finish_ok hR hcl hnl hb h
            exact hn x Im' ρ2 w' hv ⟨hst, fun b hb' hlt => hb.imn b hb' hlt, hstill, hlvl⟩
          · cases h
        · cases h
      · cases hc
      · rename_i b hcal
        split at hc
        · simp only [Option.bind_eq_some_iff] at hc
          obtain ⟨d', _, hc⟩ := hc
          split at hc <;> cases hc
        · cases hc
        · cases hc
        · simp only [Option.bind_eq_some_iff] at hc
          obtain ⟨d', _, hc⟩ := hc
          split at hc
          · simp only [Option.bind_eq_some_iff] at hc
            obtain ⟨_, _, _, _, _, _, hc⟩ := hc
            split at hc <;> cases hc
          · cases hc
        · simp only [Option.bind_eq_some_iff] at hc
          obtain ⟨d', _, hc⟩ := hc
          split at hc
          · simp only [Option.bind_eq_some_iff] at hc
            obtain ⟨_, _, hc⟩ := hc
            cases hc
          · cases hc
        · simp only [Option.bind_eq_some_iff] at hc
          obtain ⟨d', _, hc⟩ := hc
          split at hc
          · simp only [Option.bind_eq_some_iff] at hc
            obtain ⟨_, _, _, _, hc⟩ := hc
            split at hc <;> cases hc
          · cases hc
        · cases hc
  · exact plain fun f xs e => hcall ⟨f, xs, e⟩
end Go.Proofs.Ytkaigdfklihlcaa.Sym
