/- Code, loops, functions: the abstract machine's answer is the program's. -/
import Derived.Test.YtkaigdfklihlcaaSymY
namespace Go.Proofs.Ytkaigdfklihlcaa.Sym
open Go
set_option linter.unusedVariables false
set_option linter.unusedSimpArgs false

theorem keepEnv_get : ∀ (live : List Nat) (e e' : Env), keepEnv e live = some e' → ∀ i a, get e' i = some a → get e i = some a
  | [], e, e', h, i, a, hi => by cases h; simp [get] at hi
  | j :: js, e, e', h, i, a, hi => by
    simp only [keepEnv, Option.bind_eq_some_iff] at h
    obtain ⟨b, hb, r, hr, h⟩ := h
    cases h
    simp only [get] at hi
    split at hi
    · rename_i e1
      subst e1
      cases hi
      exact hb
    · exact keepEnv_get js e r hr i a hi
theorem get_mem : ∀ (e : Env) (i : Nat) (a : AV), get e i = some a → (i, a) ∈ e
  | [], i, a, h => by simp [get] at h
  | (j, b) :: e, i, a, h => by
    simp only [get] at h
    split at h
    · rename_i e1
      subst e1
      cases h
      exact List.mem_cons_self
    · exact List.mem_cons_of_mem _ (get_mem e i a h)
theorem get_map (f : AV → AV) : ∀ (e : Env) (i : Nat) (a : AV), get (e.map fun p => (p.1, f p.2)) i = some a → ∃ b, get e i = some b ∧ a = f b
  | [], i, a, h => by simp [get] at h
  | (j, b) :: e, i, a, h => by
    simp only [List.map_cons, get] at h ⊢
    split at h
    · cases h
      exact ⟨b, by simp_all, rfl⟩
    · rename_i e1
      obtain ⟨c, hc, rfl⟩ := get_map f e i a h
      exact ⟨c, by rw [if_neg e1]; exact hc, rfl⟩
theorem canon_ok {B : Base} {s s1 : St} {live : List Nat} (h : canon live s = some s1) {Im : Imm} {ρ : List Loc} {act : Act} {w : World} (hN : Now B s Im ρ act w) : ∃ ρ1, Now B s1 Im ρ1 act w := by
  unfold canon at h
  rw [Option.bind_eq_some_iff] at h
  obtain ⟨e, he, h⟩ := h
  split at h
  case isFalse => cases h
  rename_i hok
  rw [Option.bind_eq_some_iff] at h
  obtain ⟨ord, hord, h⟩ := h
  cases h
  obtain ⟨hcl, hin, _⟩ := reach_all hord
  have hR := hN.acc.rel
  refine ⟨subρ ρ ord, ⟨sub_rel hR hcl true, hN.acc.im, hN.acc.imn, hN.acc.fr, hN.acc.still, hN.acc.lvl, fun b hb => ?_, fun b hb => ?_⟩, ⟨fun i a hi => ?_, fun i a hi => ?_⟩, hN.size, hN.defers, fun i l hl => ?_, by rw [List.length_map]; exact hN.rtl, ?_⟩
  · obtain ⟨k, o, s1, s2, hk, ho, hl, hf, hr⟩ := LBd.of_sub hR hcl hb
    exact hN.acc.new b ⟨k, o, s1, s2, ho, hl, .inl rfl, hr⟩
  · obtain ⟨k, o, s1, s2, hk, ho, hl, hf, hr⟩ := LBd.of_sub hR hcl hb
    exact hN.acc.fresh b ⟨k, o, s1, s2, ho, hl, .inr (by rcases hf with hf | hf; cases hf; exact hf.1), hr⟩
  · obtain ⟨b, hb, rfl⟩ := get_map _ _ _ _ hi
    have hm := get_mem _ _ _ hb
    exact (hN.env.val i b (keepEnv_get _ _ _ he i b hb)).ren (List.all_eq_true.1 hok _ hm) (sub_map (Ω := s.ob) _ fun k hk => hin k (List.mem_append_right _ (List.mem_flatMap.2 ⟨_, hm, hk⟩)))
  · obtain ⟨b, hb, rfl⟩ := get_map _ _ _ _ hi
    exact hN.env.lt i b (keepEnv_get _ _ _ he i b hb)
  · obtain ⟨k, e1, e2⟩ := hN.rt i l hl
    refine ⟨pos ord k, by rw [List.getElem?_map, e1]; rfl, ?_⟩
    exact subρ_get (pos_get (hin k (List.mem_append_left _ (List.mem_of_getElem? e1)))) e2
  · refine List.pairwise_map.2 (hN.rtn.imp_of_mem fun {a b} ha hb hne e => hne ?_)
    have h1 := pos_get (hin a (List.mem_append_left _ ha))
    have h2 := pos_get (hin b (List.mem_append_left _ hb))
    rw [e, h2] at h1
    exact (Option.some.inj h1).symm

def exOf : AE → Exit
  | .normal => .normal
  | .exit id => .exit id
  | .ret => .ret
/-- A region in any order, quiet. -/
theorem Now.up {B : Base} {s : St} {Im : Imm} {ρ : List Loc} {act : Act} {w w1 : World} (h : Now B s Im ρ act w) (hf : Fr w w1 (fun _ => False)) {e : Env} {act' : Act} (hE : EnvOK Im ρ e act') (hs : act'.tmps.size = B.N) (hd : act'.defers = act.defers) : Now B { s with env := e, d := max s.d 1 } Im ρ act' w1 := by
  have ha := h.acc
  have hl := ha.lvl
  refine ⟨⟨ha.rel.same fun b hb => hf.block b hb (fun h => h), ha.im, ha.imn, ?_, fun h0 => ?_, ?_, ha.new, ha.fresh⟩, hE, hs, hd.trans h.defers, h.rt, h.rtl, h.rtn⟩
  · exact Fr.trans (ha.fr.imp fun b hb => ⟨by have := hb.1; simp only; omega, hb.2⟩) hf (fun b hb => hb.elim)
  · simp only at h0; omega
  · simp only; omega
theorem code_wp {P : Program} {C : CT} (hm : P.follows .mixedOrders = true) (hC : CallsOK P C) {B : Base} {lf : Nat} {hv : List Nat} : ∀ (c : Code) (an an' : List (List Nat)) (ac : AC) (s s' : St) (x : AE) (Im : Imm) (ρ : List Loc) (act : Act) (w : World) (Q : Exit → Act → World → Prop), compC P B.N hv c an = some (ac, an') → aexec C lf ac s = some (x, s') → Now B s Im ρ act w →
    (∀ Im' ρ' act' w', Now B s' Im' ρ' act' w' → Q (exOf x) act' w') → c.wp P Q act w := by
  intro c
  induction c with
  | skip => intro an an' ac s s' x Im ρ act w Q hc h hN hQ; cases hc; cases h; exact wp_skip (hQ _ _ _ _ hN)
  | ret => intro an an' ac s s' x Im ρ act w Q hc h hN hQ; cases hc; cases h; exact wp_ret (hQ _ _ _ _ hN)
  | exit id => intro an an' ac s s' x Im ρ act w Q hc h hN hQ; cases hc; cases h; exact wp_exit (hQ _ _ _ _ hN)
  | seq a b iha ihb =>
    intro an an' ac s s' x Im ρ act w Q hc h hN hQ
    simp only [compC, Option.bind_eq_some_iff] at hc
    obtain ⟨⟨a', an1⟩, ha, ⟨b', an2⟩, hb, hc⟩ := hc
    cases hc
    simp only [aexec, Option.bind_eq_some_iff] at h
    obtain ⟨⟨y, s1⟩, h1, h⟩ := h
    refine wp_seq (iha an an1 a' s s1 y Im ρ act w _ ha h1 hN fun Im' ρ' act' w' hN' => ?_)
    cases y with
    | normal => exact ihb an1 _ b' s1 s' x Im' ρ' act' w' Q hb h hN' hQ
    | exit id => cases h; exact hQ _ _ _ _ hN'
    | ret => cases h; exact hQ _ _ _ _ hN'
  | cond xo a b iha ihb =>
    intro an an' ac s s' x Im ρ act w Q hc h hN hQ
    simp only [compC, Option.bind_eq_some_iff] at hc
    obtain ⟨ax, hx, ⟨a', an1⟩, ha, ⟨b', an2⟩, hb, hc⟩ := hc
    cases hc
    simp only [aexec, Option.bind_eq_some_iff] at h
    obtain ⟨v, hv, h⟩ := h
    split at h
    · rename_i t
      have ht := (ev_ok hN.env hx hv).inv_v
      refine wp_cond ht ?_
      cases t with
      | true =>
        simp only [if_true] at h ⊢
        exact iha an an1 a' s s' x Im ρ act w Q ha h hN hQ
      | false =>
        simp only [Bool.false_eq_true, if_false] at h ⊢
        exact ihb an1 _ b' s s' x Im ρ act w Q hb h hN hQ
    · cases h
  | block id b ih =>
    intro an an' ac s s' x Im ρ act w Q hc h hN hQ
    simp only [compC, Option.bind_eq_some_iff] at hc
    obtain ⟨⟨b', an1⟩, hb, hc⟩ := hc
    cases hc
    simp only [aexec, Option.bind_eq_some_iff] at h
    obtain ⟨⟨y, s1⟩, h1, h⟩ := h
    refine wp_block (ih an _ b' s s1 y Im ρ act w _ hb h1 hN fun Im' ρ' act' w' hN' => ?_)
    cases y with
    | normal => cases h; exact hQ _ _ _ _ hN'
    | ret => cases h; exact hQ _ _ _ _ hN'
    | exit j =>
      simp only at h
      simp only [exOf, Exit.inBlock]
      split at h
      · rename_i hj
        cases h
        rw [if_pos hj]
        exact hQ _ _ _ _ hN'
      · rename_i hj
        cases h
        rw [if_neg hj]
        exact hQ _ _ _ _ hN'
  | loop b ih =>
    intro an an' ac s s' x Im ρ act w Q hc h hN hQ
    cases an with
    | nil => cases hc
    | cons live an =>
      simp only [compC, Option.bind_eq_some_iff] at hc
      obtain ⟨⟨b', an1⟩, hb, hc⟩ := hc
      cases hc
      simp only [aexec] at h
      have key : ∀ (n : Nat) (s : St) (Im : Imm) (ρ : List Loc) (act : Act) (w : World), loopN (aexec C lf b') live n s = some (x, s') → Now B s Im ρ act w → Code.rounds P b Q n act w := by
        intro n
        induction n with
        | zero => intro s Im ρ act w h; cases h
        | succ n ihn =>
          intro s Im ρ act w h hN
          simp only [loopN, Option.bind_eq_some_iff] at h
          obtain ⟨s1, hs1, ⟨y, s2⟩, h1, h⟩ := h
          obtain ⟨ρ1, hN1⟩ := canon_ok hs1 hN
          rw [rounds_succ]
          refine ih an an1 b' s1 s2 y Im ρ1 act w _ hb h1 hN1 fun Im' ρ' act' w' hN' => ?_
          cases y with
          | normal => exact ihn s2 Im' ρ' act' w' h hN'
          | exit id => cases h; exact hQ _ _ _ _ hN'
          | ret => cases h; exact hQ _ _ _ _ hN'
      exact wp_loop_rounds lf (key lf s Im ρ act w h hN)
  | region id ops draw =>
    intro an an' ac s s' x Im ρ act w Q hc h hN hQ
    simp only [compC, Option.bind_eq_some_iff] at hc
    obtain ⟨l, hl, hc⟩ := hc
    have hD : Fr w { w with drawn := w.drawn + 1 } (fun _ => False) := ⟨rfl, rfl, rfl, Nat.le_refl _, fun _ _ _ => rfl⟩
    split at hc
    · rename_i hd
      subst hd
      cases hc
      simp only [aexec, Option.map_eq_some_iff] at h
      obtain ⟨s1, h1, h⟩ := h
      cases h
      exact wp_region_list (aops_wp hC ops.toList l s s' Im ρ act w hl h1 hN hQ)
    · rename_i hd
      have hd' : draw = true := by simpa using hd
      subst hd'
      split at hc
      · rename_i hlex
        rw [Bool.and_eq_true] at hlex
        cases hc
        simp only [aexec, Option.map_eq_some_iff] at h
        obtain ⟨e', h1, h⟩ := h
        cases h
        exact wp_region_quiet (C := fun w1 => Fr w w1 (fun _ => False)) hm hlex.1 hD (aopsQ_quiet hC (Nat.le_refl 1) hN.acc.rel ops.toList l s.env e' act hl h1 hN.env hN.size fun act' q1 q2 q3 w1 hf => hQ _ _ _ _ (hN.up hf q1 q2 q3))
      · split at hc
        case h_2 =>
          split at hc
          case h_1 =>
            rename_i π hπ
            split at hc
            case isFalse => cases hc
            rename_i hb
            rw [Bool.and_eq_true] at hb
            cases hc
            simp only [aexec, Option.map_eq_some_iff] at h
            obtain ⟨s1, h1, h⟩ := h
            cases h
            exact regm_ok hm hC hl hb.1 hπ hb.2 h1 hN hQ
          split at hc
          case isFalse => cases hc
          rename_i hlex
          cases hc
          simp only [aexec, Option.map_eq_some_iff] at h
          obtain ⟨s1, h1, h⟩ := h
          cases h
          exact regs_ok hm hC hl hlex h1 hN fun act' w' => hQ Im ρ act' w'
        rename_i n hn
        cases hc
        have hn : (List.range ops.size).find? (fun n => ((List.take n l).all fun o => !heavy hv o.op) && Region.lexTailB Region.Mode.any ops n) = some n := by
          split at hn
          · cases hn
          · exact hn
        have hB := (Bool.and_eq_true _ _ ▸ List.find?_some hn).2
        simp only [aexec, Option.bind_eq_some_iff, Option.map_eq_some_iff] at h
        obtain ⟨e', h1, s1, h2, h⟩ := h
        cases h
        obtain ⟨oL, rfl⟩ : ∃ oL : List Oper, ops = oL.toArray := ⟨ops.toList, by simp⟩
        have split : ∀ (l : List Oper) (os : List AOper) (n : Nat), compOps P B.N oL.toArray l = some os → compOps P B.N oL.toArray (l.take n) = some (os.take n) ∧ compOps P B.N oL.toArray (l.drop n) = some (os.drop n) := by
          intro l
          induction l with
          | nil => intro os n h; cases h; simp [compOps]
          | cons o l ih =>
            intro os n h
            cases n with
            | zero => exact ⟨by simp [compOps], by simpa using h⟩
            | succ n =>
              simp only [compOps, Option.bind_eq_some_iff] at h
              obtain ⟨ao, hao, g, hg, os', hos, h⟩ := h
              split at h
              · rename_i hd
                cases h
                obtain ⟨i1, i2⟩ := ih os' n hos
                refine ⟨?_, by simpa using i2⟩
                simp only [List.take_succ_cons, compOps, hao, hg, i1, Option.bind_some, hd, if_true]
              · cases h
        obtain ⟨c1, c2⟩ := split _ _ n hl
        have hR1 := hN.acc.rel.same (w' := { w with drawn := w.drawn + 1 }) fun b _ => rfl
        refine wp_region_still_tail n hm hB (aopsQ_still hC hR1 _ _ s.env e' act c1 h1 hN.env hN.size fun act' q1 q2 q3 => ?_)
        exact aops_wp hC _ _ _ s' Im ρ act' _ c2 h2 (hN.up hD q1 q2 q3) hQ
  | _ => intro an an' ac s s' x Im ρ act w Q hc h hN hQ; cases an <;> cases hc
end Go.Proofs.Ytkaigdfklihlcaa.Sym
