/- Regions: in the order of the text, and in any order. -/
import Derived.Test.YtkaigdfklihlcaaSymN
namespace Go.Proofs.Ytkaigdfklihlcaa.Sym
open Go
set_option linter.unusedVariables false
set_option linter.unusedSimpArgs false

/-- Where a call stands: since when, how many temporaries, where the roots lie. -/
structure Base where
  Im0 : Imm
  ρ0 : List Loc
  Ω0 : List Obj
  w0 : World
  N : Nat
  RL : List Loc
structure Now (B : Base) (s : St) (Im : Imm) (ρ : List Loc) (act : Act) (w : World) : Prop where
  acc : Acc B.Im0 B.ρ0 B.Ω0 B.w0 Im ρ s.ob w s.d
  env : EnvOK Im ρ s.env act
  size : act.tmps.size = B.N
  defers : act.defers = []
  rt : ∀ (i : Nat) l, B.RL[i]? = some l → ∃ k, s.rt[i]? = some k ∧ ρ[k]? = some l
  rtl : s.rt.length = B.RL.length
  rtn : s.rt.Nodup

theorem wants_ok {ops : Array Oper} {o : Oper} {g : Option (Nat × Bool)} (hg : compG ops o.guard = some g) {Im : Imm} {ρ : List Loc} {e : Env} {act : Act} (hE : EnvOK Im ρ e act) {b : Bool} (h : wants e g = some b) : Region.wanted o (yielded ops act.tmps) = b := by
  unfold Region.wanted
  cases hgd : o.guard with
  | none =>
    rw [hgd] at hg
    cases hg
    cases h
    rfl
  | some p =>
    obtain ⟨j, want⟩ := p
    rw [hgd] at hg
    simp only [compG, Option.map_eq_some_iff] at hg
    obtain ⟨d, hd, rfl⟩ := hg
    simp only [wants] at h
    split at h
    · rename_i c hc
      cases h
      have hv := (hE.val d _ hc).inv_v
      have hlt := hE.lt d _ hc
      rw [Array.getD_eq_getD_getElem?, Array.getElem?_eq_getElem hlt] at hv
      simp only [Option.getD_some] at hv
      have : yielded ops act.tmps j = some c := by
        unfold yielded
        rw [hd, Option.bind_some, Array.getElem?_eq_getElem hlt, hv]
      simp only [this]
      cases c <;> cases want <;> rfl
    · rename_i hc
      cases h
      have hv := hE.val d _ hc
      have hlt := hE.lt d _ hc
      rw [Array.getD_eq_getD_getElem?, Array.getElem?_eq_getElem hlt] at hv
      simp only [Option.getD_some] at hv
      have hu : act.tmps[d] = undef := by generalize act.tmps[d] = x at hv; cases hv; rfl
      have : yielded ops act.tmps j = none := by
        unfold yielded
        rw [hd, Option.bind_some, Array.getElem?_eq_getElem hlt, hu]
        rfl
      simp only [this]
      rfl
    · cases h
theorem Now.put {B : Base} {s : St} {Im : Imm} {ρ : List Loc} {act : Act} {w : World} (h : Now B s Im ρ act w) {dst : Option Nat} (hd : dst.all (fun d => decide (d < B.N)) = true) {a : AV} {y : Value} {Im' : Imm} {ρ' : List Loc} {Ω' : List Obj} {w' : World} {d : Nat} (hy : VR Im' ρ' a y) (hev : Ev1 Im ρ s.ob w Im' ρ' Ω' w' d) :
    Now B { s with env := put s.env dst a, ob := Ω', d := max s.d d } Im' ρ' (act.put dst y) w' := by
  obtain ⟨h1, h2, h3⟩ := h.env.next hev.step.im hev.step.rho h.size hd hy
  exact ⟨h.acc.next hev, h1, h2, h3.trans h.defers, fun i l hl => by obtain ⟨k, e1, e2⟩ := h.rt i l hl; exact ⟨k, e1, hev.step.rho _ _ e2⟩, h.rtl, h.rtn⟩
theorem Now.skip {B : Base} {s : St} {Im : Imm} {ρ : List Loc} {act : Act} {w : World} (h : Now B s Im ρ act w) {dst : Option Nat} (hd : dst.all (fun d => decide (d < B.N)) = true) : Now B { s with env := Sym.put s.env dst .dead } Im ρ (act.put dst undef) w := by
  obtain ⟨h1, h2, h3⟩ := h.env.next (ImLe.refl _) (RhoLe.refl _) h.size hd .dead
  exact ⟨h.acc, h1, h2, h3.trans h.defers, h.rt, h.rtl, h.rtn⟩
theorem aops_wp {P : Program} {C : CT} (hC : CallsOK P C) {ops : Array Oper} {B : Base} {Q : Exit → Act → World → Prop} : ∀ (l : List Oper) (os : List AOper) (s s' : St) (Im : Imm) (ρ : List Loc) (act : Act) (w : World), compOps P B.N ops l = some os → aops C os s = some s' → Now B s Im ρ act w →
    (∀ Im' ρ' act' w', Now B s' Im' ρ' act' w' → Q .normal act' w') → wpList P ops Q l act w
  | [], os, s, s', Im, ρ, act, w, hc, h, hN, hQ => by cases hc; cases h; exact hQ _ _ _ _ hN
  | o :: l, os, s, s', Im, ρ, act, w, hc, h, hN, hQ => by
    simp only [compOps, Option.bind_eq_some_iff] at hc
    obtain ⟨ao, hao, g, hg, os', hos, hc⟩ := hc
    split at hc
    case isFalse => cases hc
    rename_i hd
    cases hc
    simp only [aops, Option.bind_eq_some_iff] at h
    obtain ⟨b, hb, h⟩ := h
    have hw := wants_ok hg hN.env hb
    rw [wpList]
    cases b with
    | true =>
      simp only [if_true, Option.bind_eq_some_iff] at h
      obtain ⟨⟨a, Ω, d⟩, ha, h⟩ := h
      rw [if_pos hw]
      exact .inl (op_wp hC hao hN.acc.rel hN.env ha fun y Im' ρ' w' hy hev => aops_wp hC l os' _ s' Im' ρ' _ w' hos h (hN.put hd hy hev) hQ)
    | false =>
      simp only [Bool.false_eq_true, if_false] at h
      rw [if_neg (by rw [hw]; simp)]
      exact aops_wp hC l os' _ s' Im ρ _ w hos h (hN.skip hd) hQ

/-! ### values that tell all of themselves -/
def dv0 : AV → Value
  | .v x => x
  | _ => undef
def dv1 : AV → Value
  | .agg cs => .agg (cs.map dv0).toArray
  | a => dv0 a
def dv : AV → Value
  | .tup cs => .tuple (cs.map dv1).toArray
  | a => dv1 a
theorem det0_val {Im : Imm} {ρ : List Loc} {a : AV} {x : Value} (h : det0 a = true) (hx : VR Im ρ a x) : x = dv0 a := by
  cases hx <;> first | rfl | simp [det0] at h
theorem arr_eq {cs : List AV} {arr : Array Value} {f : Nat → Value} {g : AV → Value} (hl : cs.length = arr.size) (h1 : ∀ (i : Nat) a, cs[i]? = some a → arr[i]? = some (f i)) (h2 : ∀ (i : Nat) a, cs[i]? = some a → f i = g a) : arr = (cs.map g).toArray := by
  apply Array.ext_getElem?
  intro i
  have e1 : (cs.map g).toArray[i]? = (cs.map g)[i]? := List.getElem?_toArray
  rw [e1, List.getElem?_map]
  cases hc : cs[i]? with
  | some a => rw [h1 i a hc, h2 i a hc]; rfl
  | none =>
    have := List.getElem?_eq_none_iff.1 hc
    rw [Array.getElem?_eq_none (by omega)]
    rfl
def det1 : AV → Bool
  | .agg ds => ds.all det0
  | a => det0 a
theorem det1_val {Im : Imm} {ρ : List Loc} {a : AV} {x : Value} (h : det1 a = true) (hx : VR Im ρ a x) : x = dv1 a := by
  by_cases ha : ∃ cs, a = .agg cs
  · obtain ⟨cs, rfl⟩ := ha
    cases hx with
    | agg arr f hl h1 h2 => exact congrArg Value.agg (arr_eq hl h1 fun i a hi => det0_val (List.all_eq_true.1 h a (List.mem_of_getElem? hi)) (h2 i a hi))
  · have e1 : det1 a = det0 a := by cases a <;> first | rfl | exact absurd ⟨_, rfl⟩ ha
    have e2 : dv1 a = dv0 a := by cases a <;> first | rfl | exact absurd ⟨_, rfl⟩ ha
    rw [e2]
    exact det0_val (e1 ▸ h) hx
theorem det_val {Im : Imm} {ρ : List Loc} {a : AV} {x : Value} (h : det a = true) (hx : VR Im ρ a x) : x = dv a := by
  by_cases ha : ∃ cs, a = .tup cs
  · obtain ⟨cs, rfl⟩ := ha
    cases hx with
    | tup arr f hl h1 h2 => exact congrArg Value.tuple (arr_eq hl h1 fun i a hi => det1_val (by
        have := List.all_eq_true.1 h a (List.mem_of_getElem? hi)
        cases a <;> exact this) (h2 i a hi))
  · have e1 : det a = det1 a := by cases a <;> first | rfl | exact absurd ⟨_, rfl⟩ ha
    have e2 : dv a = dv1 a := by cases a <;> first | rfl | exact absurd ⟨_, rfl⟩ ha
    rw [e2]
    exact det1_val (e1 ▸ h) hx
theorem det0_flat {Im Im' : Imm} {ρ ρ' : List Loc} {a : AV} {x : Value} (h : det0 a = true) (hx : VR Im ρ a x) : VR Im' ρ' a x := by
  cases hx <;> first | (exact .v ‹_›) | simp [det0] at h
theorem det1_flat {Im Im' : Imm} {ρ ρ' : List Loc} {a : AV} {x : Value} (h : det1 a = true) (hx : VR Im ρ a x) : VR Im' ρ' a x := by
  by_cases ha : ∃ cs, a = .agg cs
  · obtain ⟨cs, rfl⟩ := ha
    cases hx with
    | agg arr f hl h1 h2 => exact .agg arr f hl h1 fun i a hi => det0_flat (List.all_eq_true.1 h a (List.mem_of_getElem? hi)) (h2 i a hi)
  · have e1 : det1 a = det0 a := by cases a <;> first | rfl | exact absurd ⟨_, rfl⟩ ha
    exact det0_flat (e1 ▸ h) hx
theorem det_flat {Im Im' : Imm} {ρ ρ' : List Loc} {a : AV} {x : Value} (h : det a = true) (hx : VR Im ρ a x) : VR Im' ρ' a x := by
  by_cases ha : ∃ cs, a = .tup cs
  · obtain ⟨cs, rfl⟩ := ha
    cases hx with
    | tup arr f hl h1 h2 => exact .tup arr f hl h1 fun i a hi => det1_flat (by
        have := List.all_eq_true.1 h a (List.mem_of_getElem? hi)
        cases a <;> exact this) (h2 i a hi)
  · have e1 : det a = det1 a := by cases a <;> first | rfl | exact absurd ⟨_, rfl⟩ ha
    exact det1_flat (e1 ▸ h) hx

/-! ### in any order -/
/-- What a quiet operation yields: the same value in each world that has but grown. -/
theorem aopQ_okK {P : Program} {C : CT} (hC : CallsOK P C) {o : Oper} {ao : AO} (hc : compOp P o = some ao) {Im : Imm} {ρ : List Loc} {Ω : List Obj} {w : World} (hR : Rel Im ρ Ω w) {e : Env} {act : Act} (hE : EnvOK Im ρ e act) {m : Nat} (hm : m ≤ 1) {a : AV} (h : aopQ C m e Ω ao = some a) :
    ∃ y, VR Im ρ a y ∧ ∀ w1, SameK Im ρ Ω w w1 → (execOp act.eval o).run P w1 = .ok (.value y) w1 ∨
      ∃ g args, (execOp act.eval o).run P w1 = .ok (.enter g args) w1 ∧ Calls P g args w1 fun e w2 => e = .returned y ∧ Fr w1 w2 (fun _ => False) ∧ (m = 0 → w2 = w1) := by
  by_cases hcall : ∃ f xs, ao = .call f xs
  · obtain ⟨fx, xs, rfl⟩ := hcall
    obtain ⟨c, ho⟩ := comp_call hc
    simp only [compOp, ho, Option.bind_eq_some_iff] at hc
    obtain ⟨xs', hxs, hc⟩ := hc
    split at hc
    case h_2 => cases hc
    case h_3 =>
      exfalso
      repeat' (first | (cases hc; done) | (split at hc) | (rw [Option.bind_eq_some_iff] at hc; obtain ⟨_, _, hc⟩ := hc))
    rename_i f hcal
    simp only [Option.bind_eq_some_iff] at hc
    obtain ⟨fx', hf, hc⟩ := hc
    cases hc
    simp only [aopQ, Option.bind_eq_some_iff] at h
    obtain ⟨fv, hfv, as, has, h⟩ := h
    unfold aCallQ at h
    split at h
    case h_2 => cases h
    rename_i g caps
    split at h
    case isFalse => cases h
    rename_i hok
    simp only [Option.bind_eq_some_iff] at h
    obtain ⟨ord, hord, r, hr, h⟩ := h
    split at h
    case isFalse => cases h
    rename_i hq
    cases h
    obtain ⟨arr, harr, hcaps⟩ := fnAt (ev_ok hE hf hfv)
    have hargs := evs_ok hE _ _ _ hxs has
    have key : ∀ w1, SameK Im ρ Ω w w1 → (execOp act.eval o).run P w1 = .ok (.enter g (c.args.toList.map act.eval ++ arr.toList).toArray) w1 ∧ Calls P g (c.args.toList.map act.eval ++ arr.toList).toArray w1 fun e w2 => e = .returned (dv r.val) ∧ Fr w1 w2 (fun _ => False) ∧ (m = 0 → w2 = w1) ∧ VR Im ρ r.val (dv r.val) := fun w1 hf1 => by
      have hR1 := hR.sameK hf1
      obtain ⟨hcl, hnl, hfn, hcalls⟩ := call_ok hC hR1 (hargs.append hcaps) hok hord hr
      have hrun := call_run ho hcal harr hfn w1
      rw [Array.toList_map] at hrun
      refine ⟨hrun, hcalls.mono ?_⟩
      rintro en w' ⟨x, Im', ρ', rfl, hb⟩
      have hx := det_val hq.2 hb.val
      subst hx
      exact ⟨rfl, (hb.quiet hR1 (by omega)).2, fun h0 => hb.still (by omega), det_flat hq.2 hb.val⟩
    refine ⟨dv r.val, ?_, fun w1 hf1 => .inr ⟨g, _, (key w1 hf1).1, (key w1 hf1).2.mono fun e w2 h => ⟨h.1, h.2.1, h.2.2.1⟩⟩⟩
    obtain ⟨e', w', fr, hpost, _⟩ := (key w (SameK.refl _ _ _ _)).2 []
    exact hpost.2.2.2
  · have h' : aq e Ω ao = some a := by
      cases ao <;> first | exact absurd ⟨_, _, rfl⟩ hcall | exact h
    obtain ⟨y, hy, hrun⟩ := aq_ok hc hR hE h'
    exact ⟨y, hy, fun w1 hf => .inl (hrun w1 hf)⟩
theorem aopQ_ok {P : Program} {C : CT} (hC : CallsOK P C) {o : Oper} {ao : AO} (hc : compOp P o = some ao) {Im : Imm} {ρ : List Loc} {Ω : List Obj} {w : World} (hR : Rel Im ρ Ω w) {e : Env} {act : Act} (hE : EnvOK Im ρ e act) {m : Nat} (hm : m ≤ 1) {S : Nat → Prop} (hS : ∀ b, S b → Im b = none ∧ ¬ LB ρ Ω b) {a : AV} (h : aopQ C m e Ω ao = some a) :
    ∃ y, VR Im ρ a y ∧ ∀ w1, Fr w w1 S → (execOp act.eval o).run P w1 = .ok (.value y) w1 ∨
      ∃ g args, (execOp act.eval o).run P w1 = .ok (.enter g args) w1 ∧ Calls P g args w1 fun e w2 => e = .returned y ∧ Fr w1 w2 (fun _ => False) ∧ (m = 0 → w2 = w1) := by
  have same : ∀ w1, Fr w w1 S → SameK Im ρ Ω w w1 := fun w1 hf b hb => by
    rcases hb with ⟨arr, hb⟩ | hb
    · exact hf.block b (hR.im_lt hb) (fun h => by have := (hS b h).1; rw [hb] at this; cases this)
    · obtain ⟨k, o, s1, s2, h1, h2, h3⟩ := hb
      exact hf.block b (hR.block_lt h1 h2 h3).1 (fun h => (hS b h).2 ⟨k, o, s1, s2, h1, h2, h3⟩)
  obtain ⟨y, hy, h⟩ := aopQ_okK hC hc hR hE hm h
  exact ⟨y, hy, fun w1 hf => h w1 (same w1 hf)⟩
/-- All quiet. -/
theorem aopsQ_quiet {P : Program} {C : CT} (hC : CallsOK P C) {ops : Array Oper} {N m : Nat} (hm : m ≤ 1) {Im : Imm} {ρ : List Loc} {Ω : List Obj} {w : World} (hR : Rel Im ρ Ω w) {Q : Act → Prop} : ∀ (l : List Oper) (os : List AOper) (e e' : Env) (act : Act), compOps P N ops l = some os → aopsQ C m Ω os e = some e' → EnvOK Im ρ e act → act.tmps.size = N →
    (∀ act', EnvOK Im ρ e' act' → act'.tmps.size = N → act'.defers = act.defers → Q act') → wpQuiet P ops (fun w1 => Fr w w1 (fun _ => False)) Q l act
  | [], os, e, e', act, hc, h, hE, hN, hQ => by cases hc; cases h; exact hQ _ hE hN rfl
  | o :: l, os, e, e', act, hc, h, hE, hN, hQ => by
    simp only [compOps, Option.bind_eq_some_iff] at hc
    obtain ⟨ao, hao, g, hg, os', hos, hc⟩ := hc
    split at hc
    case isFalse => cases hc
    rename_i hd
    cases hc
    simp only [aopsQ, Option.bind_eq_some_iff] at h
    obtain ⟨b, hb, h⟩ := h
    have hw := wants_ok hg hE hb
    rw [wpQuiet]
    cases b with
    | true =>
      simp only [if_true, Option.bind_eq_some_iff] at h
      obtain ⟨a, ha, h⟩ := h
      rw [if_pos hw]
      obtain ⟨y, hy, hrun⟩ := aopQ_ok hC hao hR hE hm (S := fun _ => False) (fun _ h => h.elim) ha
      obtain ⟨h1, h2, h3⟩ := hE.next (ImLe.refl _) (RhoLe.refl _) hN hd hy
      refine ⟨y, fun w1 hf => ?_, aopsQ_quiet hC hm hR l os' _ e' _ hos h h1 h2 fun act' q1 q2 q3 => hQ act' q1 q2 (q3.trans h3)⟩
      unfold Oper.quietAt
      rcases hrun w1 hf with hr | ⟨g', args, hr, hcalls⟩
      · rw [hr]
        exact ⟨rfl, rfl⟩
      · rw [hr]
        exact ⟨rfl, hcalls.mono fun e w2 hp => ⟨hp.1, hf.trans hp.2.1 (fun b hb => hb.elim)⟩⟩
    | false =>
      simp only [Bool.false_eq_true, if_false] at h
      rw [if_neg (by rw [hw]; simp)]
      obtain ⟨h1, h2, h3⟩ := hE.next (ImLe.refl _) (RhoLe.refl _) hN hd .dead
      exact aopsQ_quiet hC hm hR l os' _ e' _ hos h h1 h2 fun act' q1 q2 q3 => hQ act' q1 q2 (q3.trans h3)
/-- All still. -/
theorem aopsQ_still {P : Program} {C : CT} (hC : CallsOK P C) {ops : Array Oper} {N : Nat} {Im : Imm} {ρ : List Loc} {Ω : List Obj} {w : World} (hR : Rel Im ρ Ω w) {Q : Act → Prop} : ∀ (l : List Oper) (os : List AOper) (e e' : Env) (act : Act), compOps P N ops l = some os → aopsQ C 0 Ω os e = some e' → EnvOK Im ρ e act → act.tmps.size = N →
    (∀ act', EnvOK Im ρ e' act' → act'.tmps.size = N → act'.defers = act.defers → Q act') → wpStill P ops w Q l act
  | [], os, e, e', act, hc, h, hE, hN, hQ => by cases hc; cases h; exact hQ _ hE hN rfl
  | o :: l, os, e, e', act, hc, h, hE, hN, hQ => by
    simp only [compOps, Option.bind_eq_some_iff] at hc
    obtain ⟨ao, hao, g, hg, os', hos, hc⟩ := hc
    split at hc
    case isFalse => cases hc
    rename_i hd
    cases hc
    simp only [aopsQ, Option.bind_eq_some_iff] at h
    obtain ⟨b, hb, h⟩ := h
    have hw := wants_ok hg hE hb
    rw [wpStill]
    cases b with
    | true =>
      simp only [if_true, Option.bind_eq_some_iff] at h
      obtain ⟨a, ha, h⟩ := h
      rw [if_pos hw]
      obtain ⟨y, hy, hrun⟩ := aopQ_ok hC hao hR hE (Nat.zero_le 1) (S := fun _ => False) (fun _ h => h.elim) ha
      obtain ⟨h1, h2, h3⟩ := hE.next (ImLe.refl _) (RhoLe.refl _) hN hd hy
      have rest := aopsQ_still hC hR (Q := Q) l os' _ e' _ hos h h1 h2 fun act' q1 q2 q3 => hQ act' q1 q2 (q3.trans h3)
      unfold Oper.still
      rcases hrun w (Fr.refl _ _) with hr | ⟨g', args, hr, hcalls⟩
      · rw [hr]
        exact ⟨rfl, rest⟩
      · rw [hr]
        exact ⟨rfl, y, hcalls.mono fun e w2 hp => ⟨hp.1, hp.2.2 rfl⟩, rest⟩
    | false =>
      simp only [Bool.false_eq_true, if_false] at h
      rw [if_neg (by rw [hw]; simp)]
      obtain ⟨h1, h2, h3⟩ := hE.next (ImLe.refl _) (RhoLe.refl _) hN hd .dead
      exact aopsQ_still hC hR l os' _ e' _ hos h h1 h2 fun act' q1 q2 q3 => hQ act' q1 q2 (q3.trans h3)
end Go.Proofs.Ytkaigdfklihlcaa.Sym
