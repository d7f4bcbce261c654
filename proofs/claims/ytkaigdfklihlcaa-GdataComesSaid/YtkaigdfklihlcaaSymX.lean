/- Regions in any order in which one operation writes to what the others do not look at. -/
import Derived.Test.YtkaigdfklihlcaaSymO
namespace Go.Proofs.Ytkaigdfklihlcaa.Sym
open Go
set_option linter.unusedVariables false
set_option linter.unusedSimpArgs false

section
variable {P : Program} {ops : Array Oper} {md : Region.Mode} {C : Bool → World → Prop} {n : Nat}
/-- What an operation yields: the one with the number n leads from the worlds of the first kind to those of the second; all others stay where they are, and yield the same. -/
def YI (P : Program) (ops : Array Oper) (C : Bool → World → Prop) (n i : Nat) (o : Oper) (v : Value) (a : Act) : Prop :=
  (Region.wanted o (yielded ops a.tmps) = true ∧ (i = n → ∀ w, C false w → ∃ w', (execOp a.eval o).run P w = .ok .skip w' ∧ v = undef ∧ C true w') ∧ (i ≠ n → ∀ ph w, C ph w → o.quietAt P a (C ph) w v)) ∨
  (i ≠ n ∧ Region.wanted o (yielded ops a.tmps) = false ∧ v = undef)
def yOp (P : Program) (ops : Array Oper) (C : Bool → World → Prop) (n i : Nat) (K : Act → Prop) (a : Act) : Prop :=
  ∃ o, ops[i]? = some o ∧ ∃ v, YI P ops C n i o v a ∧ K (a.put o.dst v)
theorem yOp_mono {i : Nat} {a : Act} {K K' : Act → Prop} (h : ∀ a, K a → K' a) (hh : yOp P ops C n i K a) : yOp P ops C n i K' a := by
  obtain ⟨o, ho, v, h1, h2⟩ := hh
  exact ⟨o, ho, v, h1, h _ h2⟩
def wpAnyX (P : Program) (md : Region.Mode) (ops : Array Oper) (C : Bool → World → Prop) (n : Nat) (Q : Act → Prop) : Nat → Array Bool → Act → Prop
  | 0, listed, a => Region.ready md ops listed = [] ∧ listed.getD n false = true ∧ Q a
  | fuel + 1, listed, a => (Region.ready md ops listed = [] → listed.getD n false = true ∧ Q a) ∧ ∀ i ∈ Region.ready md ops listed, yOp P ops C n i (wpAnyX P md ops C n Q fuel (listed.setIfInBounds i true)) a
theorem YI.same {i : Nat} {o : Oper} {v : Value} {a a' : Act} (hy : YI P ops C n i o v a) (he : execOp a'.eval o = execOp a.eval o) (hw : Region.wanted o (yielded ops a'.tmps) = Region.wanted o (yielded ops a.tmps)) : YI P ops C n i o v a' := by
  unfold YI Oper.quietAt at *
  rw [he, hw]
  exact hy
theorem yOp_put {i j : Nat} {oi oj : Oper} {v : Value} (hj : ops[j]? = some oj) (hap : oi.apart ops oj = true) (hsi : ∀ cs b, oi.op ≠ .select cs b) (hsj : ∀ cs b, oj.op ≠ .select cs b) {K : Act → Prop} {a : Act}
    (hy : YI P ops C n i oi v a) (h : yOp P ops C n j K (a.put oi.dst v)) : yOp P ops C n j (fun a' => YI P ops C n i oi v a' ∧ K (a'.put oi.dst v)) a := by
  obtain ⟨h1, h2, h3⟩ := Oper.apart_spec hap
  obtain ⟨o', ho', u, hu, hK⟩ := h
  rw [hj] at ho'
  cases ho'
  refine ⟨oj, hj, u, hu.same (execOp_put oj hsj a oi.dst v h1).symm (wanted_put oj a oi.dst v h1).symm, hy.same (execOp_put oi hsi a oj.dst u h3) (wanted_put oi a oj.dst u h3), ?_⟩
  rw [← Act.put_comm a v u h2]
  exact hK
theorem wpAnyX_first {Q : Act → Prop} {i : Nat} {oi : Oper} {v : Value} (hi : ops[i]? = some oi) (hsel : ∀ (j : Nat) (o : Oper) cs b, ops[j]? = some o → o.op ≠ .select cs b) :
    ∀ (fuel : Nat) (listed : Array Bool) (a : Act),
      (∀ j oj, ops[j]? = some oj → j ≠ i → listed.getD j true = false → (∀ e ∈ oj.after, Region.binds md e = true → e.on ≠ i) → oi.apart ops oj = true) →
      i ∈ Region.ready md ops listed → YI P ops C n i oi v a →
      wpAnyX P md ops C n Q fuel (listed.setIfInBounds i true) (a.put oi.dst v) → wpAnyX P md ops C n Q (fuel + 1) listed a := by
  intro fuel
  induction fuel with
  | zero =>
    intro listed a _ hr hy H
    refine ⟨fun h => (by rw [h] at hr; cases hr), fun j hj => ?_⟩
    by_cases hji : j = i
    · subst hji; exact ⟨oi, hi, v, hy, H⟩
    · have := ready_mono hj hji
      rw [H.1] at this
      cases this
  | succ fuel ih =>
    intro listed a hfree hr hy H
    refine ⟨fun h => (by rw [h] at hr; cases hr), fun j hj => ?_⟩
    by_cases hji : j = i
    · subst hji; exact ⟨oi, hi, v, hy, H⟩
    · have h1 := H.2 j (ready_mono hj hji)
      obtain ⟨hjun, oj, hoj, hall⟩ := mem_ready.1 hj
      have hnot : ∀ e ∈ oj.after, Region.binds md e = true → e.on ≠ i := fun e he hb heq => by
        have h1 := hall e he hb
        have h0 := (mem_ready.1 hr).1
        rw [heq] at h1
        rcases Nat.lt_or_ge i listed.size with h' | h'
        · simp [h'] at h0 h1; rw [h0] at h1; cases h1
        · simp [Array.getElem?_eq_none h'] at h1
      have h2 := yOp_put hoj (hfree j oj hoj hji hjun hnot) (fun cs b => hsel i oi cs b hi) (fun cs b => hsel j oj cs b hoj) hy h1
      have hfree' : ∀ k ok, ops[k]? = some ok → k ≠ i → (listed.setIfInBounds j true).getD k true = false →
          (∀ e ∈ ok.after, Region.binds md e = true → e.on ≠ i) → oi.apart ops ok = true := fun k ok hk hki hun hno => by
        refine hfree k ok hk hki ?_ hno
        by_cases hjk : j = k
        · subst hjk; exact hjun
        · rw [getD_set_ne true hjk] at hun; exact hun
      refine yOp_mono (fun a' h3 => ih (listed.setIfInBounds j true) a' hfree' (ready_mono hr (Ne.symm hji)) h3.1 ?_) h2
      rw [Array.setIfInBounds_comm _ _ hji]
      exact h3.2
/-- One operation behind the other. -/
def wpX (P : Program) (ops : Array Oper) (C : Bool → World → Prop) (n : Nat) (Q : Act → Prop) : Nat → List Oper → Act → Prop
  | _, [], a => Q a
  | i, o :: l, a => ∃ v, YI P ops C n i o v a ∧ wpX P ops C n Q (i + 1) l (a.put o.dst v)
theorem wpAnyX_lex {Q : Act → Prop} (hs : Region.noSelect ops = true) : ∀ (l : List Oper) (k : Nat) (listed : Array Bool) (a : Act), (∀ j, l[j]? = ops[k + j]?) → listed.size = ops.size → (n < k → listed.getD n false = true) → n < k + l.length →
    Region.lexFrom md ops l.length k listed = true → wpX P ops C n Q k l a → wpAnyX P md ops C n Q l.length listed a
  | [], k, listed, a, _, _, hd, hn, hB, h => ⟨by simpa [Region.lexFrom] using hB, hd (by simpa using hn), h⟩
  | o :: l, k, listed, a, hl, hsz, hd, hn, hB, h => by
    have h0 : ops[k]? = some o := by simpa using (hl 0).symm
    simp only [List.length_cons, Region.lexFrom, Bool.and_eq_true] at hB
    obtain ⟨⟨hr, hf⟩, hB'⟩ := hB
    obtain ⟨v, hy, hK⟩ := h
    refine wpAnyX_first h0 (Region.noSelect_spec hs) l.length listed a (Region.free_spec h0 hf) (by simpa using hr) hy
      (wpAnyX_lex hs l (k + 1) _ _ (fun j => by have := hl (j + 1); simpa [Nat.add_assoc, Nat.add_comm 1 j] using this) (by simpa using hsz) (fun hlt => ?_) (by simp only [List.length_cons] at hn; omega) hB' hK)
    by_cases hk : k = n
    · subst hk
      have : k < listed.size := by rw [hsz]; exact (Array.getElem?_eq_some_iff.1 h0).1
      simp [this]
    · rw [getD_set_ne false hk]
      exact hd (by omega)
theorem wpAny_of_X {Q : Act → Prop} {Q' : Exit → Act → World → Prop} (hQ : ∀ a w, C true w → Q a → Q' .normal a w) : ∀ (fuel : Nat) (listed : Array Bool) (a : Act) (w : World), listed.size = ops.size → C (listed.getD n false) w →
    wpAnyX P md ops C n Q fuel listed a → wpAny P md ops Q' fuel listed a w
  | 0, listed, a, w, _, hw, h => ⟨h.1, hQ _ _ (h.2.1 ▸ hw) h.2.2⟩
  | fuel + 1, listed, a, w, hsz, hw, h => by
    refine ⟨fun h0 => hQ _ _ ((h.1 h0).1 ▸ hw) (h.1 h0).2, fun i hi => ?_⟩
    obtain ⟨o, ho, v, hy, hK⟩ := h.2 i hi
    have hlt : i < listed.size := by rw [hsz]; exact (Array.getElem?_eq_some_iff.1 ho).1
    have hun : listed.getD i false = false := getD_both (mem_ready.1 hi).1
    have next : ∀ (a' : Act) (w' : World), wpAnyX P md ops C n Q fuel (listed.setIfInBounds i true) a' → C ((listed.setIfInBounds i true).getD n false) w' → wpAny P md ops Q' fuel (listed.setIfInBounds i true) a' w' := fun a' w' h1 h2 => wpAny_of_X hQ fuel _ a' w' (by simpa using hsz) h2 h1
    unfold wpOp
    simp only [ho]
    rcases hy with ⟨hwt, h1, h2⟩ | ⟨hin, hwt, rfl⟩
    · rw [if_pos hwt]
      refine .inl ?_
      by_cases hin : i = n
      · subst hin
        rw [hun] at hw
        obtain ⟨w', hr, rfl, hC⟩ := h1 rfl w hw
        unfold Oper.wp
        rw [hr]
        exact next _ _ hK (by simpa [hlt] using hC)
      · have hq := h2 hin _ w hw
        have keep : ∀ w', C (listed.getD n false) w' → C ((listed.setIfInBounds i true).getD n false) w' := fun w' h => by rw [getD_set_ne false hin]; exact h
        unfold Oper.quietAt at hq
        unfold Oper.wp
        generalize (execOp a.eval o).run P w = r at *
        cases r with
        | ok nx w' =>
          cases nx <;> simp only [Oper.quietUpon] at hq <;> simp only [Oper.upon]
          case value u =>
            obtain ⟨e1, e2⟩ := hq
            rw [e1, e2]
            exact next _ _ hK (keep _ hw)
          case skip =>
            obtain ⟨e1, e2⟩ := hq
            rw [e1, ← e2]
            exact next _ _ hK (keep _ hw)
          case enter f args =>
            obtain ⟨e1, hc⟩ := hq
            rw [e1]
            exact hc.mono fun e w'' ⟨he, hw''⟩ => by subst he; exact next _ _ hK (keep _ hw'')
        | halt x w' => simp only [Oper.quietUpon] at hq
    · rw [if_neg (by rw [hwt]; simp)]
      exact next _ _ hK (by rw [getD_set_ne false hin]; exact hw)
theorem wp_region_X {id : Nat} {Q : Exit → Act → World → Prop} {a : Act} {w : World} (hm : P.follows .mixedOrders = true) (hB : Region.lexB .any ops = true) (hn : n < ops.size) (hC : C false { w with drawn := w.drawn + 1 })
    (h : wpX P ops C n (fun a' => ∀ w', C true w' → Q .normal a' w') 0 ops.toList a) : (Code.region id ops true).wp P Q a w := by
  simp only [Region.lexB, Bool.and_eq_true] at hB
  refine wp_region_any hm (wpAny_of_X (C := C) (n := n) (Q := fun a' => ∀ w', C true w' → Q .normal a' w') (fun _ w' hw' h => h w' hw') _ _ _ _ (by simp) (by rw [getD_replicate_false]; exact hC) ?_)
  have := wpAnyX_lex (C := C) (n := n) (md := .any) hB.1 ops.toList 0 (Array.replicate ops.size false) a (by simp) (by simp) (fun h => by omega) (by simpa using hn) (by simpa using hB.2) h
  simpa using this
end
theorem comp_store {P : Program} {o : Oper} {m : Nat} {a x : AX} (hc : compOp P o = some (.store m a x)) : ∃ t p q, o.op = .store t p q ∧ sizeT P t = some m ∧ cx p = some a ∧ cx q = some x := by
  cases ho : o.op
  case store t p q =>
    simp only [compOp, ho, Option.bind_eq_some_iff] at hc
    obtain ⟨n, hn, ax, hx, ay, hy, hc⟩ := hc
    cases hc
    exact ⟨t, p, q, rfl, hn, hx, hy⟩
  all_goals (exfalso; simp only [compOp, ho] at hc; repeat' (first | (cases hc; done) | (split at hc) | (rw [Option.bind_eq_some_iff] at hc; obtain ⟨_, _, hc⟩ := hc) | (rw [Option.map_eq_some_iff] at hc; obtain ⟨_, _, hc⟩ := hc)))
/-- Where an object lies that is written to. -/
theorem store_at {P : Program} {o : Oper} {m : Nat} {a x : AX} (hc : compOp P o = some (.store m a x)) {Im : Imm} {ρ : List Loc} {Ω : List Obj} {w : World} (hR : Rel Im ρ Ω w) {e : Env} {act : Act} (hE : EnvOK Im ρ e act) {k off : Nat} {b : AV} (ha : ev e a = some (.ptr k off)) (hb : ev e x = some b) {Ω' : List Obj} {d : Bool} (h : aStore Ω m (.ptr k off) b = some (Ω', d))
    {blk base s : Nat} {arr : Array Value} {T : TypeId} {fz : Nat × Nat} (hr : ρ[k]? = some (some (blk, base, s))) (hw : w.heap[blk]? = some (.cells arr T fz)) :
    ∃ arr', (∀ w1 : World, w1.heap[blk]? = some (.cells arr T fz) → (execOp act.eval o).run P w1 = .ok .skip (World.setB w1 blk (.cells arr' T fz))) ∧ Step Im ρ Ω w Im ρ Ω' (World.setB w blk (.cells arr' T fz)) d := by
  obtain ⟨t, p, q, ho, hn, hp, hx⟩ := comp_store hc
  unfold aStore at h
  simp only [Option.bind_eq_some_iff] at h
  obtain ⟨ob, hob, hst⟩ := h
  split at hst
  case isFalse => cases hst
  rename_i hq
  obtain ⟨q1, q2, q3⟩ := hq
  cases hst
  obtain ⟨hk, hl⟩ := getO_some hob
  have hcv := (ev_ok hE hx hb).cv q2
  generalize hu : act.eval p = u
  have hpu := ev_ok hE hp ha
  rw [hu] at hpu
  cases hpu with
  | ptr blk' base' s' hr' =>
    rw [hr] at hr'
    cases hr'
    rcases hR.obj k ob hk hl with ⟨b', base', s', arr', T', fz', e1, e2, e3, e4, e5, e6, e7, f, e8, e9⟩ | ⟨e1, e2⟩
    · rw [hr] at e1
      cases e1
      rw [hw] at e2
      cases e2
      refine ⟨_, fun w1 hw1 => ?_, write_step hR hk hl hr hw hcv q2 (by rw [q1]; exact q3)⟩
      have hsz : (act.eval q).cells.size = m := by rw [← hcv.1, q1]
      have := run_storeCells_put (P := P) (b := blk) (o := base + off) (vs := (act.eval q).cells) hw1 (by rw [e5]; exact e4) (by rw [e5]; omega) (hcv.one (all_mem q2))
      simp only [execOp, ho, hu, Instr.storeAt, Instr.sureAddr, storeVar, pure_bind, Sem.run_bind, run_sizeOf' hn, Result.andThen_ok, hsz, ne_eq, not_true_eq_false, if_false, this, Sem.run_pure]
    · rw [hr] at e1
      cases e1
theorem setB_fr {w0 w1 : World} {b : Nat} {o : Go.Obj} (hb : b < w0.heap.size) (h : Fr w0 w1 (fun _ => False)) : Fr (World.setB w0 b o) (World.setB w1 b o) (fun _ => False) := by
  have h1 : b < w1.heap.size := Nat.lt_of_lt_of_le hb h.size
  refine ⟨h.os, h.tape, h.output, by simpa [World.setB] using h.size, fun b' hb' _ => ?_⟩
  rw [setB_get hb b', setB_get h1 b']
  split
  · rfl
  · exact h.block b' (by simpa [World.setB] using hb') (fun h => h)
/-- Quiet ones, between the others. -/
theorem aopsQ_X {P : Program} {C : CT} (hC : CallsOK P C) {ops : Array Oper} {N n : Nat} {Im : Imm} {ρ : List Loc} {Ω : List Obj} {w0 : World} (hR : Rel Im ρ Ω w0) {S : Nat → Prop} (hS : ∀ b, S b → Im b = none ∧ ¬ LB ρ Ω b) {Cc : Bool → World → Prop} (hF : ∀ ph w1, Cc ph w1 → Fr w0 w1 S) (hT : ∀ ph w1 w2, Cc ph w1 → Fr w1 w2 (fun _ => False) → Cc ph w2) {Q : Act → Prop} (rest : List Oper) : ∀ (l : List Oper) (os : List AOper) (i : Nat) (e e' : Env) (act : Act), compOps P N ops l = some os → aopsQ C 1 Ω os e = some e' → EnvOK Im ρ e act → act.tmps.size = N → (∀ j, j < l.length → i + j ≠ n) →
    (∀ act', EnvOK Im ρ e' act' → act'.tmps.size = N → act'.defers = act.defers → wpX P ops Cc n Q (i + l.length) rest act') → wpX P ops Cc n Q i (l ++ rest) act
  | [], os, i, e, e', act, hc, h, hE, hN, _, hQ => by cases hc; cases h; exact hQ _ hE hN rfl
  | o :: l, os, i, e, e', act, hc, h, hE, hN, hi, hQ => by
    simp only [compOps, Option.bind_eq_some_iff] at hc
    obtain ⟨ao, hao, g, hg, os', hos, hc⟩ := hc
    split at hc
    case isFalse => cases hc
    rename_i hd
    cases hc
    simp only [aopsQ, Option.bind_eq_some_iff] at h
    obtain ⟨b, hb, h⟩ := h
    have hw := wants_ok hg hE hb
    have hin : i ≠ n := by simpa using hi 0 (by simp)
    have hi' : ∀ j, j < l.length → i + 1 + j ≠ n := fun j hj => by have := hi (j + 1) (by simpa using hj); omega
    have hlen : i + (o :: l).length = i + 1 + l.length := by simp only [List.length_cons]; omega
    rw [hlen] at hQ
    show ∃ v, YI P ops Cc n i o v act ∧ wpX P ops Cc n Q (i + 1) (l ++ rest) (act.put o.dst v)
    cases b with
    | true =>
      simp only [if_true, Option.bind_eq_some_iff] at h
      obtain ⟨a, ha, h⟩ := h
      obtain ⟨y, hy, hrun⟩ := aopQ_ok hC hao hR hE (Nat.le_refl 1) hS ha
      obtain ⟨h1, h2, h3⟩ := hE.next (ImLe.refl _) (RhoLe.refl _) hN hd hy
      refine ⟨y, .inl ⟨hw, fun e => absurd e hin, fun _ ph w1 hcc => ?_⟩, aopsQ_X hC hR hS hF hT rest l os' (i + 1) _ e' _ hos h h1 h2 hi' fun act' q1 q2 q3 => hQ act' q1 q2 (q3.trans h3)⟩
      unfold Oper.quietAt
      rcases hrun w1 (hF ph w1 hcc) with hr | ⟨g', args, hr, hcalls⟩
      · rw [hr]
        exact ⟨rfl, rfl⟩
      · rw [hr]
        exact ⟨rfl, hcalls.mono fun e w2 hp => ⟨hp.1, hT ph w1 w2 hcc hp.2.1⟩⟩
    | false =>
      simp only [Bool.false_eq_true, if_false] at h
      obtain ⟨h1, h2, h3⟩ := hE.next (ImLe.refl _) (RhoLe.refl _) hN hd .dead
      exact ⟨undef, .inr ⟨hin, hw, rfl⟩, aopsQ_X hC hR hS hF hT rest l os' (i + 1) _ e' _ hos h h1 h2 hi' fun act' q1 q2 q3 => hQ act' q1 q2 (q3.trans h3)⟩
theorem compOps_split {P : Program} {N : Nat} {ops : Array Oper} : ∀ (l : List Oper) (os : List AOper) (n : Nat), compOps P N ops l = some os → compOps P N ops (l.take n) = some (os.take n) ∧ compOps P N ops (l.drop n) = some (os.drop n)
  | [], os, n, h => by cases h; simp [compOps]
  | o :: l, os, 0, h => ⟨by simp [compOps], by simpa using h⟩
  | o :: l, os, n + 1, h => by
    simp only [compOps, Option.bind_eq_some_iff] at h
    obtain ⟨ao, hao, g, hg, os', hos, h⟩ := h
    split at h
    · rename_i hd
      cases h
      obtain ⟨i1, i2⟩ := compOps_split l os' n hos
      refine ⟨?_, by simpa using i2⟩
      simp only [List.take_succ_cons, compOps, hao, hg, i1, Option.bind_some, hd, if_true]
    · cases h
theorem compOps_length {P : Program} {N : Nat} {ops : Array Oper} : ∀ (l : List Oper) (os : List AOper), compOps P N ops l = some os → os.length = l.length
  | [], os, h => by cases h; rfl
  | o :: l, os, h => by
    simp only [compOps, Option.bind_eq_some_iff] at h
    obtain ⟨ao, hao, g, hg, os', hos, h⟩ := h
    split at h
    · cases h
      rw [List.length_cons, List.length_cons, compOps_length l os' hos]
    · cases h
theorem Now.up' {B : Base} {s : St} {Im : Imm} {ρ : List Loc} {act : Act} {w w1 : World} (h : Now B s Im ρ act w) (hf : Fr w w1 (fun _ => False)) {e : Env} {act' : Act} (hE : EnvOK Im ρ e act') (hs : act'.tmps.size = B.N) (hd : act'.defers = act.defers) : Now B { s with env := e, d := max s.d 1 } Im ρ act' w1 := by
  have ha := h.acc
  have hl := ha.lvl
  refine ⟨⟨ha.rel.same fun b hb => hf.block b hb (fun h => h), ha.im, ha.imn, ?_, fun h0 => ?_, ?_, ha.new, ha.fresh⟩, hE, hs, hd.trans h.defers, h.rt, h.rtl, h.rtn⟩
  · exact Fr.trans (ha.fr.imp fun b hb => ⟨by have := hb.1; simp only; omega, hb.2⟩) hf (fun b hb => hb.elim)
  · simp only at h0; omega
  · simp only; omega
/-- A region in which one operation writes to what the others do not look at, in any order. -/
theorem regs_ok {P : Program} {C : CT} (hm : P.follows .mixedOrders = true) (hC : CallsOK P C) {B : Base} {ops : Array Oper} {l : List AOper} (hl : compOps P B.N ops ops.toList = some l) (hB : Region.lexB .any ops = true) {n : Nat} {s s' : St} (h : aexecS C n l s = some s') {Im : Imm} {ρ : List Loc} {act : Act} {w : World} (hN : Now B s Im ρ act w) {id : Nat} {Q : Exit → Act → World → Prop}
    (hQ : ∀ act' w', Now B s' Im ρ act' w' → Q .normal act' w') : (Code.region id ops true).wp P Q act w := by
  unfold aexecS at h
  split at h
  case h_2 => cases h
  rename_i m a x hx
  rw [Option.bind_eq_some_iff] at h
  obtain ⟨e0, he0, h⟩ := h
  unfold aStK at h
  rw [Option.bind_eq_some_iff] at h
  obtain ⟨a0, ha0, h⟩ := h
  split at h
  case h_2 => cases h
  rename_i k off0
  rw [Option.bind_eq_some_iff] at h
  obtain ⟨o, ho, h⟩ := h
  unfold aStX at h
  rw [Option.bind_eq_some_iff] at h
  obtain ⟨e1, he1, h⟩ := h
  rw [Option.bind_eq_some_iff] at h
  obtain ⟨a1, ha1, h⟩ := h
  rw [Option.bind_eq_some_iff] at h
  obtain ⟨x1, hx1, h⟩ := h
  split at h
  case h_2 => cases h
  rename_i k' off
  split at h
  case isFalse => cases h
  rename_i hkk
  subst hkk
  rw [Option.bind_eq_some_iff] at h
  obtain ⟨⟨Ω', b⟩, hst, h⟩ := h
  rw [Option.map_eq_some_iff] at h
  obtain ⟨e2, he2, h⟩ := h
  cases h
  have hD : Fr w { w with drawn := w.drawn + 1 } (fun _ => False) := ⟨rfl, rfl, rfl, Nat.le_refl _, fun _ _ _ => rfl⟩
  generalize hw0 : ({ w with drawn := w.drawn + 1 } : World) = w0 at hD
  have n1 := hN.up' hD hN.env hN.size rfl
  have hR := n1.acc.rel
  obtain ⟨hk, hlv⟩ := getO_some ho
  have hRk := hR.killed k' o
  have hnl : n < ops.toList.length := by
    rw [← compOps_length _ _ hl]
    exact (List.getElem?_eq_some_iff.1 hx).1
  have hn : n < ops.size := by simpa using hnl
  obtain ⟨c1, c2⟩ := compOps_split _ _ n hl
  obtain ⟨_, c3⟩ := compOps_split _ _ (n + 1) hl
  have split : ops.toList = ops.toList.take n ++ (ops.toList[n] :: ops.toList.drop (n + 1)) := by
    rw [← List.drop_eq_getElem_cons hnl, List.take_append_drop]
  have hdx : compOps P B.N ops (ops.toList[n] :: ops.toList.drop (n + 1)) = some (⟨none, none, .store m a x⟩ :: l.drop (n + 1)) := by
    rw [← List.drop_eq_getElem_cons hnl, c2]
    have hxl := (List.getElem?_eq_some_iff.1 hx).1
    rw [List.drop_eq_getElem_cons hxl, (List.getElem?_eq_some_iff.1 hx).2]
  have hlen : 0 + (ops.toList.take n).length = n := by rw [List.length_take, Nat.min_eq_left (by omega)]; omega
  simp only [compOps, Option.bind_eq_some_iff] at hdx
  obtain ⟨ao, hao, g, hg, os', hos, hdx⟩ := hdx
  split at hdx
  case isFalse => cases hdx
  rename_i hdd
  simp only [Option.some.injEq, List.cons.injEq, AOper.mk.injEq] at hdx
  obtain ⟨⟨hdn, rfl, rfl⟩, rfl⟩ := hdx
  have hgd : (ops.toList[n]).guard = none := by
    cases hgg : (ops.toList[n]).guard with
    | none => rfl
    | some p =>
      rw [hgg] at hg
      simp only [compG, Option.map_eq_some_iff] at hg
      obtain ⟨_, _, hg⟩ := hg
      cases hg
  have hptr : (∃ blk base sz arr T fz, ρ[k']? = some (some (blk, base, sz)) ∧ w0.heap[blk]? = some (.cells arr T fz)) ∨ ρ[k']? = some none := by
    rcases hR.obj k' o hk hlv with ⟨b', base', s', arr', T', fz', e1, e2, _⟩ | ⟨e1, e2⟩
    · exact .inl ⟨_, _, _, _, _, _, e1, e2⟩
    · exact .inr e1
  rcases hptr with ⟨blk, base, sz, arr, T, fz, hr, hw⟩ | hnone
  case inr =>
    refine wp_region_X (C := fun _ w1 => Fr w0 w1 (fun _ => False)) (n := n) hm hB hn (by rw [hw0]; exact Fr.refl _ _) ?_
    rw [split]
    refine aopsQ_X (S := fun _ => False) (Cc := fun _ w1 => Fr w0 w1 (fun _ => False)) hC hRk (fun _ h => h.elim) (fun _ _ h => h) (fun _ _ _ h h' => h.trans h' (fun b hb => hb.elim)) _ _ _ 0 _ e1 _ c1 he1 hN.env hN.size (fun j hj => by simp at hj; omega) fun act1 q1 q2 q3 => ?_
    exfalso
    obtain ⟨_, _, _, _, _, hcp, _⟩ := comp_store hao
    obtain ⟨u, hv⟩ : ∃ u, VR Im ρ (.ptr k' off) u := ⟨_, ev_ok q1 hcp ha1⟩
    cases hv with
    | ptr b o s hk2 => rw [hnone] at hk2; cases hk2
  have hlt := heap_lt hw
  let Cc : Bool → World → Prop := fun ph w1 => match ph with
    | false => Fr w0 w1 (fun _ => False)
    | true => ∃ arr', Fr (World.setB w0 blk (.cells arr' T fz)) w1 (fun _ => False) ∧ Step Im ρ s.ob w0 Im ρ Ω' (World.setB w0 blk (.cells arr' T fz)) b
  have hS : ∀ c, c = blk → Im c = none ∧ ¬ LB ρ (kill s.ob k' o) c := by
    rintro c rfl
    refine ⟨(hR.block_lt hk hlv hr).2, ?_⟩
    rintro ⟨j, oj, s1, s2, h1, h2, h3⟩
    obtain ⟨h4, h5⟩ := kill_get h1 h2
    exact hR.sep j k' oj o c s1 s2 c base sz h4 hk h2 hlv h5 h3 hr rfl
  have hF : ∀ ph w1, Cc ph w1 → Fr w0 w1 (fun c => c = blk) := by
    intro ph w1 hc
    cases ph with
    | false => exact Fr.imp hc fun _ h => h.elim
    | true =>
      obtain ⟨arr', h1, _⟩ := hc
      refine Fr.trans (w1 := World.setB w0 blk (.cells arr' T fz)) ⟨rfl, rfl, rfl, by simp [World.setB], fun c hc hn => ?_⟩ (h1.imp fun _ h => h.elim) (S' := fun c => c = blk) (fun c hc => .inl hc)
      rw [setB_get hlt c, if_neg hn]
  have hT : ∀ ph w1 w2, Cc ph w1 → Fr w1 w2 (fun _ => False) → Cc ph w2 := by
    intro ph w1 w2 hc hf
    cases ph with
    | false => exact Fr.trans hc hf (fun b hb => hb.elim)
    | true =>
      obtain ⟨arr', h1, h2⟩ := hc
      exact ⟨arr', h1.trans hf (fun b hb => hb.elim), h2⟩
  refine wp_region_X (C := Cc) (n := n) hm hB hn (by rw [hw0]; exact Fr.refl _ _) ?_
  rw [split]
  refine aopsQ_X (S := fun c => c = blk) hC hRk hS hF hT _ _ _ 0 _ e1 _ c1 he1 hN.env hN.size (fun j hj => by simp at hj; omega) fun act1 q1 q2 q3 => ?_
  rw [hlen]
  obtain ⟨arr', hrun, hstep⟩ := store_at hao hR q1 ha1 hx1 hst hr hw
  refine ⟨undef, .inl ⟨by unfold Region.wanted; rw [hgd], fun _ w1 hc => ?_, fun hne => absurd rfl hne⟩, ?_⟩
  · have hb1 : w1.heap[blk]? = some (.cells arr T fz) := by rw [Fr.block hc blk hlt (fun h => h)]; exact hw
    exact ⟨_, hrun w1 hb1, rfl, arr', setB_fr hlt hc, hstep⟩
  · rw [hdn]
    have := aopsQ_X (Q := fun a' => ∀ w', Cc true w' → Q .normal a' w') (S := fun c => c = blk) (n := n) hC hRk hS hF hT [] _ _ (n + 1) _ e2 act1 c3 he2 q1 q2 (fun j hj => by omega) fun act2 r1 r2 r3 => by
      intro w' hc
      obtain ⟨arr2, hf2, hst2⟩ := hc
      have hev : Ev1 Im ρ s.ob w0 Im ρ Ω' (World.setB w0 blk (.cells arr2 T fz)) (lev b) := ⟨by cases b <;> exact hst2, fun _ h _ => h, fun h0 => by cases b <;> simp [lev] at h0, by cases b <;> simp [lev]⟩
      have n2 := n1.put (dst := none) rfl VR.dead hev
      have n3 := n2.up' hf2 r1 r2 (r3.trans q3)
      have hdm : max (max (max s.d 1) (lev b)) 1 = max s.d (lev b) := by
        have : 1 ≤ lev b := by cases b <;> decide
        omega
      have n4 : Now B { s with env := e2, ob := Ω', d := max (max (max s.d 1) (lev b)) 1 } Im ρ act2 w' := n3
      rw [hdm] at n4
      exact hQ act2 w' n4
    rw [List.append_nil] at this
    exact this
end Go.Proofs.Ytkaigdfklihlcaa.Sym
