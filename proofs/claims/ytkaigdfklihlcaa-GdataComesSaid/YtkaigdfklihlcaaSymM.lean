/- Regions, code, functions: what the abstract machine says the program does. -/
import Derived.Test.YtkaigdfklihlcaaSymL
namespace Go.Proofs.Ytkaigdfklihlcaa.Sym
open Go
set_option linter.unusedVariables false
set_option linter.unusedSimpArgs false

/-- What is known since a call began. -/
structure Acc (Im0 : Imm) (ρ0 : List Loc) (Ω0 : List Obj) (w0 : World) (Im : Imm) (ρ : List Loc) (Ω : List Obj) (w : World) (d : Nat) : Prop where
  rel : Rel Im ρ Ω w
  im : ImLe Im0 Im
  imn : ∀ b, Im0 b = none → b < w0.heap.size → Im b = none
  fr : Fr w0 w (fun b => d = 2 ∧ LBd ρ0 Ω0 true b)
  still : d = 0 → w = w0
  lvl : d ≤ 2
  new : ∀ b, LBd ρ Ω true b → LBd ρ0 Ω0 true b ∨ w0.heap.size ≤ b
  fresh : ∀ b, LBd ρ Ω false b → w0.heap.size ≤ b
/-- One more event. -/
structure Ev1 (Im : Imm) (ρ : List Loc) (Ω : List Obj) (w : World) (Im' : Imm) (ρ' : List Loc) (Ω' : List Obj) (w' : World) (d : Nat) : Prop where
  step : Step Im ρ Ω w Im' ρ' Ω' w' (decide (d = 2))
  imn : ∀ b, Im b = none → b < w.heap.size → Im' b = none
  still : d = 0 → w' = w
  lvl : d ≤ 2
theorem Acc.next {Im0 Im Im' : Imm} {ρ0 ρ ρ' : List Loc} {Ω0 Ω Ω' : List Obj} {w0 w w' : World} {d d' : Nat} (h : Acc Im0 ρ0 Ω0 w0 Im ρ Ω w d) (e : Ev1 Im ρ Ω w Im' ρ' Ω' w' d') : Acc Im0 ρ0 Ω0 w0 Im' ρ' Ω' w' (max d d') := by
  have h1 := h.lvl
  have h2 := e.lvl
  refine ⟨e.step.rel, h.im.trans e.step.im, fun b hb hlt => e.imn b (h.imn b hb hlt) (Nat.lt_of_lt_of_le hlt h.fr.size), ?_, fun hd => ?_, by omega, fun b hb => ?_, fun b hb => ?_⟩
  · refine Fr.trans (h.fr.imp fun b hb => ⟨by omega, hb.2⟩) e.step.fr (fun b hb => ?_)
    by_cases hd : d' = 2
    · rw [decide_eq_true hd] at hb
      rcases h.new b hb with hb | hb
      · exact .inl ⟨by omega, hb⟩
      · exact .inr hb
    · rw [decide_eq_false hd] at hb
      exact .inr (h.fresh b hb)
  · rw [e.still (by omega), h.still (by omega)]
  · rcases e.step.new true b hb with hb | hb
    · exact h.new b hb
    · exact .inr (Nat.le_trans h.fr.size hb)
  · rcases e.step.new false b hb with hb | hb
    · exact h.fresh b hb
    · exact Nat.le_trans h.fr.size hb
theorem Acc.up {Im0 Im : Imm} {ρ0 ρ : List Loc} {Ω0 Ω : List Obj} {w0 w : World} {d : Nat} (h : Acc Im0 ρ0 Ω0 w0 Im ρ Ω w d) {w' : World} (hh : w'.heap = w.heap) (h1 : w'.os = w.os) (h2 : w'.tape = w.tape) (h3 : w'.output = w.output) : Acc Im0 ρ0 Ω0 w0 Im ρ Ω w' (max d 1) := by
  have hl := h.lvl
  exact ⟨h.rel.same (fun b _ => by rw [hh]), h.im, h.imn, ⟨h1.trans h.fr.os, h2.trans h.fr.tape, h3.trans h.fr.output, by rw [hh]; exact h.fr.size, fun b hb hn => by rw [hh]; exact h.fr.block b hb (fun hs => hn ⟨by omega, hs.2⟩)⟩, fun hd => by omega, by omega, h.new, h.fresh⟩
theorem Ev1.refl {Im : Imm} {ρ : List Loc} {Ω : List Obj} {w : World} (h : Rel Im ρ Ω w) : Ev1 Im ρ Ω w Im ρ Ω w 0 := ⟨Step.refl h _, fun _ h _ => h, fun _ => rfl, by omega⟩
theorem EnvOK.next {Im Im' : Imm} {ρ ρ' : List Loc} {e : Env} {act : Act} (h : EnvOK Im ρ e act) (hI : ImLe Im Im') (hρ : RhoLe ρ ρ') {dst : Option Nat} {N : Nat} (hN : act.tmps.size = N) (hd : dst.all (fun d => decide (d < N)) = true) {a : AV} {y : Value} (hy : VR Im' ρ' a y) : EnvOK Im' ρ' (put e dst a) (act.put dst y) ∧ (act.put dst y).tmps.size = N ∧ (act.put dst y).defers = act.defers := by
  cases dst with
  | none => exact ⟨⟨fun i b hb => (h.val i b hb).mono hI _ hρ, h.lt⟩, hN, rfl⟩
  | some d =>
    have hlt : d < act.tmps.size := by rw [hN]; simpa using hd
    refine ⟨⟨fun i b hb => ?_, fun i b hb => ?_⟩, by simpa [Act.put] using hN, rfl⟩
    · simp only [put, get] at hb
      split at hb
      · rename_i e
        subst e
        cases hb
        simp only [Act.put]
        rw [Array.getD_eq_getD_getElem?, Array.getElem?_setIfInBounds, if_pos rfl, if_pos hlt]
        exact hy
      · rename_i e
        simp only [Act.put]
        rw [Array.getD_eq_getD_getElem?, Array.getElem?_setIfInBounds, if_neg (fun e' => e e'.symm), ← Array.getD_eq_getD_getElem?]
        exact (h.val i b hb).mono hI _ hρ
    · simp only [Act.put, Array.size_setIfInBounds]
      simp only [put, get] at hb
      split at hb
      · rename_i e; subst e; exact hlt
      · exact h.lt i b hb

def FnOK (P : Program) (f : Nat) : Prop := ∃ fn, P.funcs[f]? = some fn ∧ (fn.name == "runtime.NumGoroutine") = false ∧ fn.body.isNone = false
theorem run_callFunc {P : Program} {f : Nat} (h : FnOK P f) (args : Array Value) (w : World) : (callFunc f args).run P w = .ok (.enter f args) w := by
  obtain ⟨fn, h1, h2, h3⟩ := h
  have h2' : ¬ fn.name = "runtime.NumGoroutine" := by simpa using h2
  have h3' : ¬ fn.body = none := by intro h; rw [h] at h3; simp at h3
  simp [callFunc, h1, h2', h3']
theorem VRs.append {Im : Imm} {ρ : List Loc} : ∀ {as bs : List AV} {us vs : List Value}, VRs Im ρ as us → VRs Im ρ bs vs → VRs Im ρ (as ++ bs) (us ++ vs)
  | [], bs, [], vs, _, h => h
  | a :: as, bs, u :: us, vs, h, h' => ⟨h.1, VRs.append h.2 h'⟩
  | [], bs, u :: us, vs, h, _ => h.elim
  | a :: as, bs, [], vs, h, _ => h.elim
theorem VRs.of_get {Im : Imm} {ρ : List Loc} : ∀ {as : List AV} {us : List Value}, as.length = us.length → (∀ (i : Nat) a, as[i]? = some a → ∃ u, us[i]? = some u ∧ VR Im ρ a u) → VRs Im ρ as us
  | [], [], _, _ => trivial
  | a :: as, u :: us, hl, h => by
    obtain ⟨u', h1, h2⟩ := h 0 a rfl
    cases h1
    exact ⟨h2, VRs.of_get (by simpa using hl) fun i b hb => h (i + 1) b (by simpa using hb)⟩
  | [], u :: us, hl, _ => by simp at hl
  | a :: as, [], hl, _ => by simp at hl
theorem VRs.ren {Im : Imm} {ρ ρ' : List Loc} {g : Nat → Nat} : ∀ {as : List AV} {us : List Value}, VRs Im ρ as us → as.all okv = true → Map ρ ρ' g (as.flatMap refs) → VRs Im ρ' (as.map (Sym.ren g)) us
  | [], [], _, _, _ => trivial
  | a :: as, u :: us, h, hk, hm => by
    rw [List.all_cons, Bool.and_eq_true] at hk
    exact ⟨h.1.ren hk.1 (hm.mono fun k hk => by simp [List.flatMap_cons, hk]), VRs.ren h.2 hk.2 (hm.mono fun k hk => by simp only [List.flatMap_cons, List.mem_append]; exact .inr hk)⟩
  | [], u :: us, h, _, _ => h.elim
  | a :: as, [], h, _, _ => h.elim
/-- The operation of a call of a function value. -/
theorem call_run {P : Program} {o : Oper} {c : Call} (ho : o.op = .call c) {fx : Operand} (hcal : c.callee = .value fx) {act : Act} {g : Nat} {arr : Array Value} (hf : act.eval fx = .func (.func g) #[] arr) (hfn : FnOK P g) (w : World) : (execOp act.eval o).run P w = .ok (.enter g ((c.args.map act.eval).toList ++ arr.toList).toArray) w := by
  have : ((c.args.map act.eval).toList ++ arr.toList).toArray = c.args.map act.eval ++ arr := by simp
  rw [this]
  simp only [execOp, ho, resolve, hcal, hf, Deferred.ofValue, pure_bind, invoke, Array.empty_append]
  exact run_callFunc hfn _ w
end Go.Proofs.Ytkaigdfklihlcaa.Sym
