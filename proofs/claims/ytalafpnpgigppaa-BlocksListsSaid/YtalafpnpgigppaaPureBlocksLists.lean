/- What is left of BlocksLists when the program's calls are told as functions over numbers and lists: for every input that the guards let in the law's function answers true. -/
import Derived.Test.YtalafpnpgigppaaPBlocksListsx4
import Derived.Test.YtalafpnpgigppaaKit
namespace Go.Proofs.Ytalafpnpgigppaa.Pure
open Go.RowKit Go.Proofs.Ytalafpnpgigppaa.PBlocksLists Go.Proofs.YtalafpnpgigppaaW.PrintWords Go.Proofs.YtalafpnpgigppaaW.PrintLast Go.Proofs.Ytalafpnpgigppaa.Kit
set_option linter.unusedVariables false
set_option linter.unusedSimpArgs false

/-! ### blocks: the place of a block -/
theorem place_ev (l : List S36) (id : Int) (hl : l.length ≤ 140737488351232) : ∀ d i : Nat, i + d = l.length →
    ∃ r, Ev (fun k => blocks_place.l0 k l id (l.length : Int) (i : Int)) r ∧
      ((∃ j : Nat, i ≤ j ∧ j < l.length ∧ (rd_T36 l (j : Int)).f0 = id ∧ (∀ m : Nat, i ≤ m → m < j → (rd_T36 l (m : Int)).f0 ≠ id) ∧ r = (j : Int)) ∨
       (r = -1 ∧ ∀ m : Nat, i ≤ m → m < l.length → (rd_T36 l (m : Int)).f0 ≠ id))
  | 0, i, h => ⟨-1, Ev.step (fun k => rfl) (Ev.neg (by omega) (Ev.now _)), Or.inr ⟨rfl, fun m h1 h2 => by omega⟩⟩
  | d + 1, i, h => by
    by_cases e : (rd_T36 l (i : Int)).f0 = id
    · exact ⟨(i : Int), Ev.step (fun k => rfl) (Ev.pos (by omega) (Ev.pos (by omega) (Ev.pos (by omega) (Ev.pos e (Ev.now _))))), Or.inl ⟨i, Nat.le_refl _, by omega, e, fun m h1 h2 => by omega, rfl⟩⟩
    · obtain ⟨r, hr, hs⟩ := place_ev l id hl d (i + 1) (by omega)
      refine ⟨r, Ev.step (fun k => rfl) (Ev.pos (by omega) (Ev.pos (by omega) (Ev.pos (by omega) (Ev.neg e (by rw [wrap64_nat (n := l.length) (by omega) hl]; exact hr))))), ?_⟩
      rcases hs with ⟨j, h1, h2, h3, h4, h5⟩ | ⟨h1, h2⟩
      · refine Or.inl ⟨j, by omega, h2, h3, fun m hm1 hm2 => ?_, h5⟩
        rcases Nat.eq_or_lt_of_le hm1 with rfl | hlt
        · exact e
        · exact h4 m hlt hm2
      · refine Or.inr ⟨h1, fun m hm1 hm2 => ?_⟩
        rcases Nat.eq_or_lt_of_le hm1 with rfl | hlt
        · exact e
        · exact h2 m hlt hm2

theorem placef_ev (l : List S36) (id : Int) (hl : l.length ≤ 140737488351232) :
    ∃ r, Ev (fun k => blocks_place.f k l id) r ∧
      ((∃ j : Nat, j < l.length ∧ (rd_T36 l (j : Int)).f0 = id ∧ (∀ m : Nat, m < j → (rd_T36 l (m : Int)).f0 ≠ id) ∧ r = (j : Int)) ∨
       (r = -1 ∧ ∀ m : Nat, m < l.length → (rd_T36 l (m : Int)).f0 ≠ id)) := by
  obtain ⟨r, h, hs⟩ := place_ev l id hl l.length 0 (by omega)
  refine ⟨r, h, ?_⟩
  rcases hs with ⟨j, h1, h2, h3, h4, h5⟩ | ⟨h1, h2⟩
  · exact Or.inl ⟨j, h2, h3, fun m hm => h4 m (by omega) hm, h5⟩
  · exact Or.inr ⟨h1, fun m hm => h2 m (by omega) hm⟩
theorem refFind_ev (l : List S36) (id : Int) (hl : l.length ≤ 140737488351232) : ∀ d i : Nat, i + d = l.length →
    ∃ r, Ev (fun k => fuglemanref16_Find.l0 k l id (i : Int)) r ∧
      ((∃ j : Nat, i ≤ j ∧ j < l.length ∧ (rd_T36 l (j : Int)).f0 = id ∧ (∀ m : Nat, i ≤ m → m < j → (rd_T36 l (m : Int)).f0 ≠ id) ∧ r = ((rd_T36 l (j : Int)).f0, (rd_T36 l (j : Int)).f1, (rd_T36 l (j : Int)).f2, (rd_T36 l (j : Int)).f3, true)) ∨
       (r = (0, 0, 0, false, false) ∧ ∀ m : Nat, i ≤ m → m < l.length → (rd_T36 l (m : Int)).f0 ≠ id))
  | 0, i, h => ⟨_, Ev.step (fun k => rfl) (Ev.neg (by omega) (Ev.now _)), Or.inr ⟨rfl, fun m h1 h2 => by omega⟩⟩
  | d + 1, i, h => by
    by_cases e : (rd_T36 l (i : Int)).f0 = id
    · exact ⟨_, Ev.step (fun k => rfl) (Ev.pos (by omega) (Ev.pos (by omega) (Ev.pos e (Ev.now _)))), Or.inl ⟨i, Nat.le_refl _, by omega, e, fun m h1 h2 => by omega, rfl⟩⟩
    · obtain ⟨r, hr, hs⟩ := refFind_ev l id hl d (i + 1) (by omega)
      refine ⟨r, Ev.step (fun k => rfl) (Ev.pos (by omega) (Ev.pos (by omega) (Ev.neg e (by rw [wrap64_nat (n := l.length) (by omega) hl]; exact hr)))), ?_⟩
      rcases hs with ⟨j, h1, h2, h3, h4, h5⟩ | ⟨h1, h2⟩
      · refine Or.inl ⟨j, by omega, h2, h3, fun m hm1 hm2 => ?_, h5⟩
        rcases Nat.eq_or_lt_of_le hm1 with rfl | hlt
        · exact e
        · exact h4 m hlt hm2
      · refine Or.inr ⟨h1, fun m hm1 hm2 => ?_⟩
        rcases Nat.eq_or_lt_of_le hm1 with rfl | hlt
        · exact e
        · exact h2 m hlt hm2

theorem find_both (l : List S36) (id : Int) (hl : l.length ≤ 140737488351232) : ∃ r, Ev (fun k => blocks_Find.f k l id) r ∧ Ev (fun k => fuglemanref16_Find.f k l id) r := by
  obtain ⟨r, h, hs⟩ := placef_ev l id hl
  obtain ⟨q, g, gs⟩ := refFind_ev l id hl l.length 0 (by omega)
  refine ⟨q, ?_, g⟩
  refine Ev.bind h ?_
  rcases hs with ⟨j, h2, h3, h4, rfl⟩ | ⟨rfl, h2⟩
  · rcases gs with ⟨j', _, g2, g3, g4, rfl⟩ | ⟨_, g2⟩
    · have e : j = j' := by
        rcases Nat.lt_trichotomy j j' with hlt | rfl | hlt
        · exact absurd h3 (g4 j (by omega) hlt)
        · rfl
        · exact absurd g3 (h4 j' hlt)
      subst e
      exact Ev.neg (by omega) (Ev.pos (by omega) (Ev.pos (by omega) (Ev.now _)))
    · exact absurd h3 (g2 j (by omega) h2)
  · rcases gs with ⟨j', _, g2, g3, g4, rfl⟩ | ⟨rfl, g2⟩
    · exact absurd g3 (h2 j' g2)
    · exact Ev.pos (by omega) (Ev.now _)

theorem parts_some (n : Int) : ∃ r, blocks_Parts.f n = some r ∧ (0 < r ↔ 1 ≤ n ∧ n ≤ 64) := by
  unfold blocks_Parts.f
  by_cases h1 : n < 1
  · exact ⟨0, by rw [if_pos h1], by omega⟩
  · by_cases h2 : n > 64
    · exact ⟨0, by rw [if_neg h1, if_pos h2], by omega⟩
    · refine ⟨_, by rw [if_neg h1, if_neg h2], ?_⟩
      rw [wrap64_in (x := n + 16) (by omega) (by omega), wrap64_in (x := n + 16 - 1) (by omega) (by omega), Int.tdiv_eq_ediv_of_nonneg (by omega), wrap64_in (by omega) (by omega)]
      omega

def good (x : S36) : Prop := 0 ≤ x.f0 ∧ x.f0 < 16 ∧ 0 ≤ x.f1 ∧ x.f1 < 32 ∧ 1 ≤ x.f2 ∧ x.f2 ≤ 64
instance (x : S36) : Decidable (good x) := by unfold good; infer_instance
theorem right_ev (x : S36) : blocks_right.f x.f0 x.f1 x.f2 x.f3 = some (decide (good x)) := by
  unfold blocks_right.f good
  obtain ⟨r, hr, hs⟩ := parts_some x.f2
  rw [hr]
  simp only [Option.bind_some]
  repeat' split
  all_goals (congr 1; symm)
  all_goals first | (apply decide_eq_false; omega) | (congr 1; simp only [eq_iff_iff]; omega)

theorem inner_ev (l : List S36) (i : Nat) (a b c : Int) (d : Bool) (hl : l.length ≤ 140737488351232) (hi : i < l.length) (r : Int × Int) : ∀ n j : Nat, j + n = i →
    ((∀ m : Nat, j ≤ m → m < i → (rd_T36 l (m : Int)).f0 ≠ a) → Ev (fun k => fuglemanref16_Check.l0 k l ((i + 1 : Nat) : Int)) r) →
    ((∃ m : Nat, j ≤ m ∧ m < i ∧ (rd_T36 l (m : Int)).f0 = a) → r = (14, (i : Int))) →
    Ev (fun k => fuglemanref16_Check.l1 k l (i : Int) (j : Int) a b c d) r
  | 0, j, h, h1, h2 => Ev.step (fun k => rfl) (Ev.neg (by omega) (by rw [wrap64_nat hi hl]; exact h1 (fun m _ _ => by omega)))
  | n + 1, j, h, h1, h2 => by
    refine Ev.step (fun k => rfl) (Ev.pos (by omega) (Ev.pos (by omega) (Ev.pos (by omega) (Ev.ite (fun e => ?_) (fun e => ?_)))))
    · rw [h2 ⟨j, Nat.le_refl _, by omega, e⟩]
      exact Ev.now _
    · rw [wrap64_nat (n := l.length) (by omega) hl]
      refine inner_ev l i a b c d hl hi r n (j + 1) (by omega) (fun hm => h1 fun m hm1 hm2 => ?_) (fun ⟨m, m1, m2, m3⟩ => h2 ⟨m, by omega, m2, m3⟩)
      rcases Nat.eq_or_lt_of_le hm1 with rfl | hlt
      · exact e
      · exact hm m hlt hm2

theorem check_both (l : List S36) (hl : l.length ≤ 140737488351232) : ∀ d i : Nat, i + d = l.length →
    ∃ r, Ev (fun k => blocks_Check.l0 k l l (l.length : Int) (i : Int)) r ∧ Ev (fun k => fuglemanref16_Check.l0 k l (i : Int)) r
  | 0, i, h => ⟨(0, 0), Ev.step (fun k => rfl) (Ev.neg (by omega) (Ev.now _)), Ev.step (fun k => rfl) (Ev.neg (by omega) (Ev.now _))⟩
  | d + 1, i, h => by
    obtain ⟨r, hb, hr⟩ := check_both l hl d (i + 1) (by omega)
    generalize hx : rd_T36 l (i : Int) = x
    have hgood := right_ev x
    by_cases g : good x
    · have hg : blocks_right.f x.f0 x.f1 x.f2 x.f3 = some true := by rw [hgood, decide_eq_true g]
      obtain ⟨p, hp, hs⟩ := placef_ev l x.f0 hl
      have hw := wrap64_nat (i := i) (n := l.length) (by omega) hl
      obtain ⟨g1, g2, g3, g4, g5, g6⟩ := g
      by_cases hlt : p < (i : Int)
      · refine ⟨(14, (i : Int)), ?_, ?_⟩
        · refine Ev.step (fun k => rfl) (Ev.pos (by omega) (Ev.pos (by omega) (Ev.pos (by omega) ?_)))
          rw [hx]
          exact Ev.bindS hg (Ev.pos rfl (Ev.bind hp (Ev.pos hlt (Ev.now _))))
        · refine Ev.step (fun k => rfl) (Ev.pos (by omega) (Ev.pos (by omega) ?_))
          rw [hx]
          refine Ev.neg (by omega) (Ev.neg (by omega) (Ev.neg (by omega) (Ev.neg (by omega) (Ev.neg (by omega) (Ev.step (fun k => rfl) (Ev.neg (by simp; omega) ?_))))))
          refine inner_ev l i _ _ _ _ hl (by omega) _ i 0 (by omega) (fun hm => ?_) (fun _ => rfl)
          rcases hs with ⟨j, h2, h3, h4, rfl⟩ | ⟨rfl, h2⟩
          · exact absurd h3 (hm j (by omega) (by omega))
          · exact absurd (by rw [hx]) (h2 i (by omega))
      · refine ⟨r, ?_, ?_⟩
        · refine Ev.step (fun k => rfl) (Ev.pos (by omega) (Ev.pos (by omega) (Ev.pos (by omega) ?_)))
          rw [hx]
          exact Ev.bindS hg (Ev.pos rfl (Ev.bind hp (Ev.neg hlt (by rw [hw]; exact hb))))
        · refine Ev.step (fun k => rfl) (Ev.pos (by omega) (Ev.pos (by omega) ?_))
          rw [hx]
          refine Ev.neg (by omega) (Ev.neg (by omega) (Ev.neg (by omega) (Ev.neg (by omega) (Ev.neg (by omega) (Ev.step (fun k => rfl) (Ev.neg (by simp; omega) ?_))))))
          refine inner_ev l i _ _ _ _ hl (by omega) _ i 0 (by omega) (fun _ => hr) (fun ⟨m, m1, m2, m3⟩ => ?_)
          rcases hs with ⟨j, h2, h3, h4, rfl⟩ | ⟨rfl, h2⟩
          · exact absurd m3 (h4 m (by omega))
          · exact absurd m3 (h2 m (by omega))
    · have hg : blocks_right.f x.f0 x.f1 x.f2 x.f3 = some false := by rw [hgood, decide_eq_false g]
      refine ⟨(3, (i : Int)), ?_, ?_⟩
      · refine Ev.step (fun k => rfl) (Ev.pos (by omega) (Ev.pos (by omega) (Ev.pos (by omega) ?_)))
        rw [hx]
        exact Ev.bindS hg (Ev.neg (by simp) (Ev.now _))
      · refine Ev.step (fun k => rfl) (Ev.pos (by omega) (Ev.pos (by omega) ?_))
        rw [hx]
        have hj : ∀ b : Bool, b = true → Ev (fun k => fuglemanref16_Check.j1 k l (i : Int) b x.f0 x.f1 x.f2 x.f3) (3, (i : Int)) := fun b hb => Ev.step (fun k => rfl) (Ev.pos hb (Ev.now _))
        unfold good at g
        exact Ev.ite (fun _ => hj _ rfl) fun g1 => Ev.ite (fun _ => hj _ rfl) fun g2 => Ev.ite (fun _ => hj _ rfl) fun g3 => Ev.ite (fun _ => hj _ rfl) fun g4 => Ev.ite (fun _ => hj _ rfl) fun g5 => hj _ (decide_eq_true (by omega))

theorem of_both (l : List S36) (a : Int) (hl : l.length ≤ 1000) : ∀ (d i : Nat) (out : List Int), i + d = l.length → out.length ≤ i →
    ∃ r, Ev (fun k => blocks_Of.l0 k a out l (l.length : Int) (i : Int)) r ∧ Ev (fun k => fuglemanref16_Of.l0 k l a out (i : Int)) r ∧ r.length ≤ l.length
  | 0, i, out, h, ho => ⟨out, Ev.step (fun k => rfl) (Ev.neg (by omega) (Ev.now _)), Ev.step (fun k => rfl) (Ev.neg (by omega) (Ev.now _)), by omega⟩
  | d + 1, i, out, h, ho => by
    have hw := wrap64_nat (i := i) (n := l.length) (by omega) (by omega)
    by_cases e : (rd_T36 l (i : Int)).f1 = a
    · obtain ⟨r, h1, h2, h3⟩ := of_both l a hl d (i + 1) (out ++ [(rd_T36 l (i : Int)).f0]) (by omega) (by simp; omega)
      refine ⟨r, ?_, ?_, h3⟩
      · exact Ev.step (fun k => rfl) (Ev.pos (by omega) (Ev.pos (by omega) (Ev.pos (by omega) (Ev.pos e (Ev.pos (by omega) (by rw [hw]; exact h1))))))
      · exact Ev.step (fun k => rfl) (Ev.pos (by omega) (Ev.pos (by omega) (Ev.pos e (Ev.pos (by omega) (by rw [hw]; exact h2)))))
    · obtain ⟨r, h1, h2, h3⟩ := of_both l a hl d (i + 1) out (by omega) (by omega)
      refine ⟨r, ?_, ?_, h3⟩
      · exact Ev.step (fun k => rfl) (Ev.pos (by omega) (Ev.pos (by omega) (Ev.pos (by omega) (Ev.neg e (by rw [hw]; exact h1)))))
      · exact Ev.step (fun k => rfl) (Ev.pos (by omega) (Ev.pos (by omega) (Ev.neg e (by rw [hw]; exact h2))))

theorem same_ev (l : List Int) (hl : l.length ≤ 140737488351232) : ∀ d i : Nat, i + d = l.length → Ev (fun k => fuglemanlaw16_same.l0 k l l (l.length : Int) (i : Int)) true
  | 0, i, h => Ev.step (fun k => rfl) (Ev.neg (by omega) (Ev.now _))
  | d + 1, i, h => Ev.step (fun k => rfl) (Ev.pos (by omega) (Ev.pos (by omega) (Ev.pos (by omega) (Ev.pos (by omega) (Ev.pos rfl (by rw [wrap64_nat (n := l.length) (by omega) hl]; exact same_ev l hl d (i + 1) (by omega)))))))

theorem BlocksLists : ∀ (l0 : List (S36)) (a1 : Int) (a2 : Int), (l0.length ≤ 140737488351232 ∧ ∀ (i : Nat) x, l0[i]? = some x → ((Lit.int .i64 x.f0).wf = true ∧ (Lit.int .i64 x.f1).wf = true ∧ (Lit.int .i64 x.f2).wf = true ∧ True)) → (Lit.int .i64 a1).wf = true → (Lit.int .i64 a2).wf = true → ∃ k, fuglemanlaw16_BlocksLists.f k l0 a1 a2 = some true := by
  intro l a1 a2 ⟨hl, _⟩ h1 h2
  apply Ev.rounds
  have haw : Ev (fun k => fuglemanlaw16_awake.f k) true := Ev.of fuglemanlaw16_awake.mono (k := 20) (by decide +kernel)
  refine Ev.bind haw (Ev.pos rfl (Ev.ite (fun _ => Ev.now _) fun hn => ?_))
  have hc : ∃ r, Ev (fun k => blocks_Check.f k l) r ∧ Ev (fun k => fuglemanref16_Check.f k l) r := by
    by_cases h16 : (l.length : Int) > 16
    · exact ⟨(2, 16), Ev.pos h16 (Ev.now _), Ev.pos h16 (Ev.now _)⟩
    · obtain ⟨r, x1, x2⟩ := check_both l hl l.length 0 (by omega)
      exact ⟨r, Ev.neg h16 x1, Ev.neg h16 x2⟩
  obtain ⟨r, r1, r2⟩ := hc
  obtain ⟨q, q1, q2⟩ := find_both l a1 hl
  obtain ⟨o, o1, o2, o3⟩ := of_both l a2 (by omega) l.length 0 [] (by omega) (by simp)
  refine Ev.bind r1 (Ev.bind r2 (Ev.bind q1 (Ev.bind q2 (Ev.pos rfl (Ev.pos rfl (Ev.pos (by simp) (Ev.pos (by simp) (Ev.bind o1 (Ev.bind o2 (Ev.bind (a := true) ?_ (Ev.now _)))))))))))
  exact Ev.pos rfl (same_ev o (by omega) o.length 0 (by omega))

end Go.Proofs.Ytalafpnpgigppaa.Pure
