/- Regions in any order in which what acts comes one behind the other: an order in which they may be taken. -/
import Derived.Test.YtkaigdfklihlcaaSymX
namespace Go.Proofs.Ytkaigdfklihlcaa.Sym
open Go
set_option linter.unusedVariables false
set_option linter.unusedSimpArgs false

section
variable {P : Program} {ops : Array Oper}
/-- It yields a value, in this world. -/
def YldAt (P : Program) (ops : Array Oper) (o : Oper) (v : Value) (a : Act) (w : World) : Prop :=
  (Region.wanted o (yielded ops a.tmps) = true ∧ (execOp a.eval o).run P w = .ok (.value v) w) ∨ (Region.wanted o (yielded ops a.tmps) = false ∧ v = undef) ∨
  (Region.wanted o (yielded ops a.tmps) = true ∧ ∃ g args, (execOp a.eval o).run P w = .ok (.enter g args) w ∧ Calls P g args w fun e w2 => e = .returned v ∧ w2 = w)
theorem YldAt.same {o : Oper} {v : Value} {a a' : Act} {w : World} (hy : YldAt P ops o v a w) (he : execOp a'.eval o = execOp a.eval o) (hw : Region.wanted o (yielded ops a'.tmps) = Region.wanted o (yielded ops a.tmps)) : YldAt P ops o v a' w := by
  unfold YldAt at *
  rw [he, hw]
  exact hy
theorem yields_at {o : Oper} {v : Value} {a : Act} (h : Yields P ops o v a) (w : World) : YldAt P ops o v a w := h.imp (fun h => ⟨h.1, h.2 w⟩) .inl
/-- Everything listed has what it comes behind listed. -/
def Shut (ops : Array Oper) (listed : Array Bool) : Prop := listed.size = ops.size ∧ ∀ (j : Nat) o, ops[j]? = some o → listed.getD j false = true → ∀ e ∈ o.after, Region.binds .any e = true → listed.getD e.on false = true
theorem Shut.set {listed : Array Bool} (h : Shut ops listed) {j : Nat} (hj : j ∈ Region.ready .any ops listed) : Shut ops (listed.setIfInBounds j true) := by
  refine ⟨by simpa using h.1, fun k o ho hk e he hb => ?_⟩
  by_cases hjk : j = k
  · subst hjk
    obtain ⟨_, o', ho', hall⟩ := mem_ready.1 hj
    rw [ho] at ho'
    cases ho'
    exact getD_set_true (hall e he hb)
  · rw [getD_set_ne false hjk] at hk
    exact getD_set_true (h.2 k o ho hk e he hb)
theorem depGo_pre (i : Nat) : ∀ (os : List Oper) (acc : List Bool), ∃ r, depGo i os acc = acc ++ r
  | [], acc => ⟨[], by simp [depGo]⟩
  | o :: os, acc => by
    obtain ⟨r, hr⟩ := depGo_pre i os (acc ++ [o.after.any fun x => Region.binds .any x && (x.on == i || acc.getD x.on false)])
    exact ⟨_, by rw [depGo, hr, List.append_assoc]⟩
theorem getD_app {l r : List Bool} {k : Nat} (h : k < l.length) : (l ++ r).getD k false = l.getD k false := by
  simp only [List.getD_eq_getElem?_getD]
  rw [List.getElem?_append_left h]
theorem depGo_spec (i : Nat) : ∀ (os : List Oper) (acc : List Bool) (e : Nat), acc.length ≤ e → (depGo i os acc).getD e false = true → ∃ o, os[e - acc.length]? = some o ∧ ∃ x ∈ o.after, Region.binds .any x = true ∧ (x.on = i ∨ x.on < e ∧ (depGo i os acc).getD x.on false = true)
  | [], acc, e, he, h => by
    rw [depGo, List.getD_eq_getElem?_getD, List.getElem?_eq_none he] at h
    cases h
  | o :: os, acc, e, he, h => by
    obtain ⟨r, hr⟩ := depGo_pre i os (acc ++ [o.after.any fun x => Region.binds .any x && (x.on == i || acc.getD x.on false)])
    rcases Nat.eq_or_lt_of_le he with rfl | hlt
    · refine ⟨o, by simp, ?_⟩
      rw [depGo, hr, List.append_assoc] at h ⊢
      have h1 : (o.after.any fun x => Region.binds .any x && (x.on == i || acc.getD x.on false)) = true := by
        rw [List.getD_eq_getElem?_getD, List.getElem?_append_right (Nat.le_refl _), Nat.sub_self] at h
        simpa using h
      obtain ⟨x, hx, h2⟩ := Array.any_eq_true'.1 h1
      simp only [Bool.and_eq_true, Bool.or_eq_true, beq_iff_eq] at h2
      refine ⟨x, hx, h2.1, h2.2.imp id fun h3 => ?_⟩
      have hxl : x.on < acc.length := by
        rcases Nat.lt_or_ge x.on acc.length with q | q
        · exact q
        · rw [List.getD_eq_getElem?_getD, List.getElem?_eq_none q] at h3
          cases h3
      exact ⟨hxl, by rw [getD_app hxl]; exact h3⟩
    · rw [depGo] at h ⊢
      obtain ⟨o', ho', h'⟩ := depGo_spec i os _ e (by rw [List.length_append, List.length_singleton]; omega) h
      refine ⟨o', ?_, h'⟩
      rw [List.length_append, List.length_singleton] at ho'
      rw [show e - acc.length = (e - (acc.length + 1)) + 1 by omega, List.getElem?_cons_succ]
      exact ho'
theorem dep_not {i : Nat} {listed : Array Bool} (hS : Shut ops listed) (hi : listed.getD i false = false) : ∀ (e : Nat), (depOf ops i).getD e false = true → ¬ ∃ o, ops[e]? = some o ∧ ∀ x ∈ o.after, Region.binds .any x = true → listed.getD x.on false = true
  | e, h => by
    rintro ⟨o, ho, hall⟩
    obtain ⟨o', ho', x, hx, hb, hor⟩ := depGo_spec i ops.toList [] e (Nat.zero_le _) h
    have : o' = o := by
      simp only [List.length_nil, Nat.sub_zero, Array.getElem?_toList] at ho'
      rw [ho] at ho'
      exact (Option.some.inj ho').symm
    subst this
    have hl := hall x hx hb
    rcases hor with rfl | ⟨hlt, hd⟩
    · rw [hi] at hl
      cases hl
    · have hxs : x.on < ops.size := by
        rw [← hS.1]
        rcases Nat.lt_or_ge x.on listed.size with q | q
        · exact q
        · simp [Array.getElem?_eq_none q] at hl
      obtain ⟨ox, hox⟩ : ∃ ox, ops[x.on]? = some ox := ⟨_, Array.getElem?_eq_getElem hxs⟩
      exact dep_not hS hi x.on hd ⟨ox, hox, fun y hy hb' => hS.2 x.on ox hox hl y hy hb'⟩
termination_by e => e
/-- It yields a value in this world, and in any in which there is more. -/
def YldUp (P : Program) (ops : Array Oper) (o : Oper) (v : Value) (a : Act) (w : World) : Prop := ∀ w1, Same w w1 → w.heap.size ≤ w1.heap.size → YldAt P ops o v a w1
theorem yields_up {o : Oper} {v : Value} {a : Act} (h : Yields P ops o v a) (w : World) : YldUp P ops o v a w := fun w1 _ _ => yields_at h w1
theorem YldUp.same {o : Oper} {v : Value} {a a' : Act} {w : World} (hy : YldUp P ops o v a w) (he : execOp a'.eval o = execOp a.eval o) (hw : Region.wanted o (yielded ops a'.tmps) = Region.wanted o (yielded ops a.tmps)) : YldUp P ops o v a' w := fun w1 h1 h2 => (hy w1 h1 h2).same he hw
theorem YldUp.up {o : Oper} {v : Value} {a : Act} {w w1 : World} (hy : YldUp P ops o v a w) (h1 : Same w w1) (h2 : w.heap.size ≤ w1.heap.size) : YldUp P ops o v a w1 := fun w2 h3 h4 => hy w2 (fun b hb => by rw [h3 b (Nat.lt_of_lt_of_le hb h2), h1 b hb]) (Nat.le_trans h2 h4)
/-- It makes something. -/
def MkAt (P : Program) (ops : Array Oper) (o : Oper) (v : Value) (a : Act) (w w' : World) : Prop :=
  (Region.wanted o (yielded ops a.tmps) = true ∧ (execOp a.eval o).run P w = .ok (.value v) w' ∧ Same w w' ∧ w.heap.size ≤ w'.heap.size) ∨ (Region.wanted o (yielded ops a.tmps) = false ∧ v = undef ∧ w' = w)
theorem MkAt.same {o : Oper} {v : Value} {a a' : Act} {w w' : World} (hy : MkAt P ops o v a w w') (he : execOp a'.eval o = execOp a.eval o) (hw : Region.wanted o (yielded ops a'.tmps) = Region.wanted o (yielded ops a.tmps)) : MkAt P ops o v a' w w' := by
  unfold MkAt at *
  rw [he, hw]
  exact hy
theorem MkAt.more {o : Oper} {v : Value} {a : Act} {w w' : World} (hy : MkAt P ops o v a w w') : Same w w' ∧ w.heap.size ≤ w'.heap.size := by
  rcases hy with ⟨_, _, h⟩ | ⟨_, _, rfl⟩
  · exact h
  · exact ⟨Same.refl _, Nat.le_refl _⟩
theorem MkAt.wpOp {Q : Exit → Act → World → Prop} {K : Act → World → Prop} {i : Nat} {o : Oper} {v : Value} {a : Act} {w w' : World} (hi : ops[i]? = some o) (hy : MkAt P ops o v a w w') (h : K (a.put o.dst v) w') : wpOp P ops Q i K a w := by
  unfold Go.wpOp
  simp only [hi]
  rcases hy with ⟨hw, hr, _⟩ | ⟨hw, rfl, rfl⟩
  · rw [if_pos hw]
    refine .inl ?_
    unfold Oper.wp
    rw [hr]
    exact h
  · rw [if_neg (by rw [hw]; simp)]
    exact h
/-- What holds of all acts that an operation leads to. -/
theorem wpOp_keep {Q : Exit → Act → World → Prop} {R : Act → Prop} {j : Nat} {oj : Oper} (hj : ops[j]? = some oj) {K : Act → World → Prop} {a : Act} {w : World} (hR : ∀ u, R (a.put oj.dst u)) (hRd : ∀ d u, R (({ a with defers := d :: a.defers } : Act).put oj.dst u)) (h : wpOp P ops Q j K a w) : wpOp P ops Q j (fun a' w' => R a' ∧ K a' w') a w := by
  unfold Go.wpOp at *
  simp only [hj] at *
  split
  · rename_i hw
    simp only [hw, if_true] at h
    rcases h with h | h
    case inr => exact .inr h
    refine .inl ?_
    unfold Oper.wp at *
    generalize (execOp a.eval oj).run P w = r at *
    cases r with
    | ok n w' =>
      cases n <;> simp only [Oper.upon] at h ⊢
      case value u => exact ⟨hR u, h⟩
      case skip => exact ⟨hR _, h⟩
      case defer d => exact ⟨hRd d _, h⟩
      case enter f args => exact Calls.mono h fun e w'' he => by cases e <;> first | exact ⟨hR _, he⟩ | exact he
      case row row args => exact Rows.mono h fun u w'' he => ⟨hR u, he⟩
    | halt x w' => cases x <;> exact h
  · rename_i hw
    simp only [hw] at h
    exact ⟨hR _, h⟩
/-- All orders; what does not act stays in the world where it is. -/
def wpM (P : Program) (ops : Array Oper) (E : Nat → Nat) (Q : Exit → Act → World → Prop) : Nat → Array Bool → Act → World → Prop
  | 0, listed, a, w => Region.ready .any ops listed = [] ∧ Q .normal a w
  | fuel + 1, listed, a, w => (Region.ready .any ops listed = [] → Q .normal a w) ∧ ∀ i ∈ Region.ready .any ops listed,
      if E i = 0 then wpOp P ops Q i (wpM P ops E Q fuel (listed.setIfInBounds i true)) a w
      else if E i = 3 then ∃ o, ops[i]? = some o ∧ ∃ v w', MkAt P ops o v a w w' ∧ wpM P ops E Q fuel (listed.setIfInBounds i true) (a.put o.dst v) w'
      else if E i = 4 then wpOp P ops Q i (fun a' w' => (Same w w' ∧ w.heap.size ≤ w'.heap.size) ∧ wpM P ops E Q fuel (listed.setIfInBounds i true) a' w') a w
      else ∃ o, ops[i]? = some o ∧ ∃ v, YldUp P ops o v a w ∧ wpM P ops E Q fuel (listed.setIfInBounds i true) (a.put o.dst v) w
theorem YldAt.wpOp {Q : Exit → Act → World → Prop} {K : Act → World → Prop} {i : Nat} {o : Oper} {v : Value} {a : Act} {w : World} (hi : ops[i]? = some o) (hy : YldAt P ops o v a w) (h : K (a.put o.dst v) w) : wpOp P ops Q i K a w := by
  unfold Go.wpOp
  simp only [hi]
  rcases hy with ⟨hw, hr⟩ | ⟨hw, rfl⟩ | ⟨hw, g, args, hr, hc⟩
  · rw [if_pos hw]
    refine .inl ?_
    unfold Oper.wp
    rw [hr]
    exact h
  · rw [if_neg (by rw [hw]; simp)]
    exact h
  · rw [if_pos hw]
    refine .inl ?_
    unfold Oper.wp
    rw [hr]
    exact hc.mono fun e w'' ⟨he, hw''⟩ => by subst he; subst hw''; exact h
theorem YldUp.at {o : Oper} {v : Value} {a : Act} {w : World} (hy : YldUp P ops o v a w) : YldAt P ops o v a w := hy w (Same.refl w) (Nat.le_refl _)
theorem wpAny_of_M {E : Nat → Nat} {Q : Exit → Act → World → Prop} : ∀ (fuel : Nat) (listed : Array Bool) (a : Act) (w : World), wpM P ops E Q fuel listed a w → wpAny P .any ops Q fuel listed a w
  | 0, listed, a, w, h => h
  | fuel + 1, listed, a, w, h => by
    refine ⟨h.1, fun i hi => ?_⟩
    have h2 := h.2 i hi
    split at h2
    · exact wpOp_mono (fun a' w' h' => wpAny_of_M fuel _ a' w' h') h2
    · split at h2
      · obtain ⟨o, ho, v, w', hy, hk⟩ := h2
        exact hy.wpOp ho (wpAny_of_M fuel _ _ _ hk)
      · split at h2
        · exact wpOp_mono (fun a' w' h' => wpAny_of_M fuel _ a' w' h'.2) h2
        · obtain ⟨o, ho, v, hy, hk⟩ := h2
          exact hy.at.wpOp ho (wpAny_of_M fuel _ _ _ hk)
theorem M_first {E : Nat → Nat} {Q : Exit → Act → World → Prop} (hQ0 : ∀ c a w, ¬ Q (.panic c) a w) {i : Nat} {oi : Oper} {v : Value} (hi : ops[i]? = some oi) (hsel : ∀ (j : Nat) (o : Oper) cs b, ops[j]? = some o → o.op ≠ .select cs b) (hE : E i ≠ 0 ∧ E i ≠ 3 ∧ E i ≠ 4) :
    ∀ (fuel : Nat) (listed : Array Bool) (a : Act) (w : World), Shut ops listed →
      (∀ j oj, ops[j]? = some oj → j ≠ i → listed.getD j true = false → (∀ e ∈ oj.after, Region.binds .any e = true → e.on ≠ i) → oi.apart ops oj = true) →
      i ∈ Region.ready .any ops listed → YldUp P ops oi v a w →
      ((∀ e, E e = 0 → e < ops.size → listed.getD e true = false → (depOf ops i).getD e false = true) ∨ Yields P ops oi v a) →
      wpM P ops E Q fuel (listed.setIfInBounds i true) (a.put oi.dst v) w → wpM P ops E Q (fuel + 1) listed a w := by
  intro fuel
  induction fuel with
  | zero =>
    intro listed a w hS _ hr hy _ H
    refine ⟨fun h => (by rw [h] at hr; cases hr), fun j hj => ?_⟩
    by_cases hji : j = i
    · subst hji
      rw [if_neg hE.1, if_neg hE.2.1, if_neg hE.2.2]
      exact ⟨oi, hi, v, hy, H⟩
    · have := ready_mono hj hji
      rw [H.1] at this
      cases this
  | succ fuel ih =>
    intro listed a w hS hfree hr hy hor H
    refine ⟨fun h => (by rw [h] at hr; cases hr), fun j hj => ?_⟩
    by_cases hji : j = i
    · subst hji
      rw [if_neg hE.1, if_neg hE.2.1, if_neg hE.2.2]
      exact ⟨oi, hi, v, hy, H⟩
    · have h1 := H.2 j (ready_mono hj hji)
      obtain ⟨hjun, oj, hoj, hall⟩ := mem_ready.1 hj
      have hiu : listed.getD i false = false := getD_both (mem_ready.1 hr).1
      have hnot : ∀ e ∈ oj.after, Region.binds .any e = true → e.on ≠ i := fun e he hb heq => by
        have h1 := hall e he hb
        rw [heq, hiu] at h1
        cases h1
      have hap := hfree j oj hoj hji hjun hnot
      obtain ⟨q1, q2, q3⟩ := Oper.apart_spec hap
      have hfree' : ∀ k ok, ops[k]? = some ok → k ≠ i → (listed.setIfInBounds j true).getD k true = false →
          (∀ e ∈ ok.after, Region.binds .any e = true → e.on ≠ i) → oi.apart ops ok = true := fun k ok hk hki hun hno => by
        refine hfree k ok hk hki ?_ hno
        by_cases hjk : j = k
        · subst hjk; exact hjun
        · rw [getD_set_ne true hjk] at hun; exact hun
      have hS' := hS.set hj
      have hdep' : (∀ e, E e = 0 → e < ops.size → listed.getD e true = false → (depOf ops i).getD e false = true) → (∀ e, E e = 0 → e < ops.size → (listed.setIfInBounds j true).getD e true = false → (depOf ops i).getD e false = true) := fun hd e he hlt hun => by
        refine hd e he hlt ?_
        by_cases hje : j = e
        · subst hje; exact hjun
        · rw [getD_set_ne true hje] at hun; exact hun
      have ej := fun u => execOp_put oi (fun cs b => hsel i oi cs b hi) a oj.dst u q3
      have wj := fun u => wanted_put (ops := ops) oi a oj.dst u q3
      by_cases hEj : E j = 0
      · rw [if_pos hEj] at h1 ⊢
        rcases hor with hd | hY
        · exact absurd ⟨oj, hoj, hall⟩ (dep_not hS hiu j (hd j hEj (Array.getElem?_eq_some_iff.1 hoj).1 hjun))
        · have h2 := wpOp_put hoj hap (fun cs b => hsel i oi cs b hi) (fun cs b => hsel j oj cs b hoj) (fun c a w h => absurd h (hQ0 _ _ _)) hY h1
          refine wpOp_mono (fun a' w' h3 => ih (listed.setIfInBounds j true) a' w' hS' hfree' (ready_mono hr (Ne.symm hji)) (yields_up h3.1 w') (.inr h3.1) ?_) h2
          rw [Array.setIfInBounds_comm _ _ hji]
          exact h3.2
      · rw [if_neg hEj] at h1 ⊢
        by_cases hE3 : E j = 3
        · rw [if_pos hE3] at h1 ⊢
          obtain ⟨o', ho', u, w', hu, hK⟩ := h1
          rw [hoj] at ho'
          cases ho'
          obtain ⟨m1, m2⟩ := hu.more
          refine ⟨oj, hoj, u, w', hu.same (execOp_put oj (fun cs b => hsel j oj cs b hoj) a oi.dst v q1).symm (wanted_put oj a oi.dst v q1).symm, ?_⟩
          refine ih (listed.setIfInBounds j true) _ w' hS' hfree' (ready_mono hr (Ne.symm hji)) ((hy.up m1 m2).same (ej u) (wj u)) (hor.imp hdep' fun hY => hY.of_same (ej u) (wj u)) ?_
          rw [Array.setIfInBounds_comm _ _ hji, ← Act.put_comm a v u q2]
          exact hK
        · rw [if_neg hE3] at h1 ⊢
          by_cases hE4 : E j = 4
          · rw [if_pos hE4] at h1 ⊢
            have hY : Yields P ops { oi with op := .move (.const v), guard := none } v a := .inl ⟨rfl, fun w => rfl⟩
            have hap' : Oper.apart ops { oi with op := .move (.const v), guard := none } oj = true := by
              have e : ∀ d, oj.dst = some d → d ∉ Oper.looksAt ops { oi with op := .move (.const v), guard := none } := fun d _ => by simp [Oper.looksAt, Op.operands]
              unfold Oper.apart
              cases hdi : oi.dst <;> cases hdj : oj.dst <;> simp_all [Oper.looksAt, Op.operands]
            have h2 := wpOp_put hoj hap' (fun cs b => by simp) (fun cs b => hsel j oj cs b hoj) (fun c a w h => absurd h (hQ0 _ _ _)) hY h1
            have h3 := wpOp_keep (R := fun a' => execOp a'.eval oi = execOp a.eval oi ∧ Region.wanted oi (yielded ops a'.tmps) = Region.wanted oi (yielded ops a.tmps)) hoj (fun u => ⟨ej u, wj u⟩) (fun d u => (by
              have e1 := ej u
              have e2 := wj u
              cases hdj : oj.dst <;> rw [hdj] at e1 e2 <;> exact ⟨e1, e2⟩)) h2
            refine wpOp_mono (fun a' w' h4 => ?_) h3
            obtain ⟨⟨r1, r2⟩, _, ⟨m1, m2⟩, hK⟩ := h4
            refine ⟨⟨m1, m2⟩, ih (listed.setIfInBounds j true) a' w' hS' hfree' (ready_mono hr (Ne.symm hji)) ((hy.up m1 m2).same r1 r2) (hor.imp hdep' fun hY => hY.of_same r1 r2) ?_⟩
            rw [Array.setIfInBounds_comm _ _ hji]
            exact hK
          rw [if_neg hE4] at h1 ⊢
          obtain ⟨o', ho', u, hu, hK⟩ := h1
          rw [hoj] at ho'
          cases ho'
          refine ⟨oj, hoj, u, hu.same (execOp_put oj (fun cs b => hsel j oj cs b hoj) a oi.dst v q1).symm (wanted_put oj a oi.dst v q1).symm, ?_⟩
          refine ih (listed.setIfInBounds j true) _ w hS' hfree' (ready_mono hr (Ne.symm hji)) (hy.same (ej u) (wj u)) (hor.imp hdep' fun hY => hY.of_same (ej u) (wj u)) ?_
          rw [Array.setIfInBounds_comm _ _ hji, ← Act.put_comm a v u q2]
          exact hK
def wpSq (P : Program) (ops : Array Oper) (cls : List Nat) (Q : Exit → Act → World → Prop) : List Nat → Act → World → Prop
  | [], a, w => Q .normal a w
  | i :: l, a, w => if cls.getD i 0 = 0 then wpOp P ops Q i (wpSq P ops cls Q l) a w
      else if cls.getD i 0 = 3 then ∃ o, ops[i]? = some o ∧ ∃ v w', MkAt P ops o v a w w' ∧ wpSq P ops cls Q l (a.put o.dst v) w'
      else if cls.getD i 0 = 4 then wpOp P ops Q i (fun a' w' => (Same w w' ∧ w.heap.size ≤ w'.heap.size) ∧ wpSq P ops cls Q l a' w') a w
      else ∃ o, ops[i]? = some o ∧ ∃ v, YldUp P ops o v a w ∧ (cls.getD i 0 = 2 → Yields P ops o v a) ∧ wpSq P ops cls Q l (a.put o.dst v) w
theorem M_of_sq {cls : List Nat} {Q : Exit → Act → World → Prop} (hQ0 : ∀ c a w, ¬ Q (.panic c) a w) (hs : Region.noSelect ops = true) : ∀ (f : Nat) (listed : Array Bool) (π : List Nat) (a : Act) (w : World), Shut ops listed → permGo ops cls f listed = some π → wpSq P ops cls Q π a w → wpM P ops (fun i => cls.getD i 0) Q f listed a w
  | 0, listed, π, a, w, hS, h, hw => by
    rw [permGo] at h
    split at h
    · rename_i he
      cases h
      exact ⟨by simpa using he, hw⟩
    · cases h
  | f + 1, listed, π, a, w, hS, h, hw => by
    rw [permGo] at h
    split at h
    · rename_i i hi
      rw [Option.map_eq_some_iff] at h
      obtain ⟨π', hπ, rfl⟩ := h
      have hm := List.mem_of_find?_eq_some hi
      have hok := List.find?_some hi
      simp only [okFirst, Bool.and_eq_true, Bool.or_eq_true, decide_eq_true_eq, List.all_eq_true, List.mem_range] at hok
      obtain ⟨⟨hc, hf⟩, hd⟩ := hok
      rw [wpSq, if_neg (by omega), if_neg (by omega), if_neg (by omega)] at hw
      obtain ⟨o, ho, v, hy, hY, hk⟩ := hw
      refine M_first hQ0 ho (Region.noSelect_spec hs) (show cls.getD i 0 ≠ 0 ∧ cls.getD i 0 ≠ 3 ∧ cls.getD i 0 ≠ 4 by omega) f listed a w hS (Region.free_spec ho hf) hm hy ?_ (M_of_sq hQ0 hs f _ π' _ w (hS.set hm) hπ hk)
      rcases hd with hd | hd
      · exact .inr (hY hd)
      · refine .inl fun e he hlt hun => ?_
        rcases hd e hlt with (h1 | h1) | h1
        · omega
        · rw [hun] at h1; cases h1
        · exact h1
    · split at h
      · rename_i k hk
        rw [Option.map_eq_some_iff] at h
        obtain ⟨π', hπ, rfl⟩ := h
        have hm : k ∈ Region.ready .any ops listed := by rw [hk]; simp
        refine ⟨fun h0 => (by rw [hk] at h0; cases h0), fun j hj => ?_⟩
        rw [hk] at hj
        obtain rfl : j = k := by simpa using hj
        rw [wpSq] at hw
        split at hw
        · rename_i hc
          rw [if_pos hc]
          exact wpOp_mono (fun a' w' h' => M_of_sq hQ0 hs f _ π' a' w' (hS.set hm) hπ h') hw
        · rename_i hc
          rw [if_neg hc]
          split at hw
          · rename_i hc3
            rw [if_pos hc3]
            obtain ⟨o, ho, v, w', hy, hk'⟩ := hw
            exact ⟨o, ho, v, w', hy, M_of_sq hQ0 hs f _ π' _ w' (hS.set hm) hπ hk'⟩
          · rename_i hc3
            rw [if_neg hc3]
            split at hw
            · rename_i hc4
              rw [if_pos hc4]
              exact wpOp_mono (fun a' w' h' => ⟨h'.1, M_of_sq hQ0 hs f _ π' a' w' (hS.set hm) hπ h'.2⟩) hw
            · rename_i hc4
              rw [if_neg hc4]
              obtain ⟨o, ho, v, hy, hY, hk'⟩ := hw
              exact ⟨o, ho, v, hy, M_of_sq hQ0 hs f _ π' _ w (hS.set hm) hπ hk'⟩
      · cases h
theorem wp_region_M {cls : List Nat} {π : List Nat} {id : Nat} {Q : Exit → Act → World → Prop} {a : Act} {w : World} (hm : P.follows .mixedOrders = true) (hs : Region.noSelect ops = true) (hπ : permGo ops cls ops.size (Array.replicate ops.size false) = some π)
    (h : wpSq P ops cls (fun ex a w => ex = .normal ∧ Q .normal a w) π a { w with drawn := w.drawn + 1 }) : (Code.region id ops true).wp P Q a w := by
  have h1 : (Code.region id ops true).wp P (fun ex a w => ex = .normal ∧ Q .normal a w) a w := wp_region_any hm (wpAny_of_M _ _ _ _ (M_of_sq (fun c a w h => (by cases h.1)) hs _ _ _ _ _ ⟨by simp, fun j o ho hl => (by rw [getD_replicate_false] at hl; cases hl)⟩ hπ h))
  exact Code.wp_mono (fun e a w he => by obtain ⟨rfl, h⟩ := he; exact h) h1
end
end Go.Proofs.Ytkaigdfklihlcaa.Sym
