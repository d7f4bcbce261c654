/- What is left of BlocksOnce when the program's calls are told as functions over numbers and lists: for every input that the guards let in the law's function answers true. -/
import Derived.Test.YtalafpnpgigppaaPBlocksOncex2
import Derived.Test.YtalafpnpgigppaaKit
namespace Go.Proofs.Ytalafpnpgigppaa.Pure
open Go.RowKit Go.Proofs.Ytalafpnpgigppaa.PBlocksOnce Go.Proofs.YtalafpnpgigppaaW.PrintWords Go.Proofs.YtalafpnpgigppaaW.PrintLast Go.Proofs.Ytalafpnpgigppaa.Kit
set_option linter.unusedVariables false
set_option linter.unusedSimpArgs false

/-! ### blocks: the place of a block -/
theorem place_ev (l : List S36) (id : Int) (hl : l.length ≤ 140737488351232) : ∀ d i : Nat, i + d = l.length →
    ∃ r, Ev (fun k => blocks_place.l0 k l id (l.length : Int) (i : Int)) r ∧
      ((∃ j : Nat, i ≤ j ∧ j < l.length ∧ (rd_T36 l (j : Int)).f0 = id ∧ (∀ m : Nat, i ≤ m → m < j → (rd_T36 l (m : Int)).f0 ≠ id) ∧ r = (j : Int)) ∨
       (r = -1 ∧ ∀ m : Nat, i ≤ m → m < l.length → (rd_T36 l (m : Int)).f0 ≠ id))
  | 0, i, h => ⟨-1, Ev.step (fun k => rfl) (Ev.neg (by omega) (Ev.now _)), Or.inr ⟨rfl, fun m h1 h2 => by omega⟩⟩
  | d + 1, i, h => by
    by_cases e : (rd_T36 l (i : Int)).f0 = id
    · exact ⟨(i : Int), Ev.step (fun k => rfl) (Ev.pos (by omega) (Ev.pos (by omega) (Ev.pos (by omega) (Ev.pos e (Ev.now _))))), Or.inl ⟨i, Nat.le_refl _, by omega, e, fun m h1 h2 => by omega, rfl⟩⟩
    · obtain ⟨r, hr, hs⟩ := place_ev l id hl d (i + 1) (by omega)
      refine ⟨r, Ev.step (fun k => rfl) (Ev.pos (by omega) (Ev.pos (by omega) (Ev.pos (by omega) (Ev.neg e (by rw [wrap64_nat (n := l.length) (by omega) hl]; exact hr))))), ?_⟩
      rcases hs with ⟨j, h1, h2, h3, h4, h5⟩ | ⟨h1, h2⟩
      · refine Or.inl ⟨j, by omega, h2, h3, fun m hm1 hm2 => ?_, h5⟩
        rcases Nat.eq_or_lt_of_le hm1 with rfl | hlt
        · exact e
        · exact h4 m hlt hm2
      · refine Or.inr ⟨h1, fun m hm1 hm2 => ?_⟩
        rcases Nat.eq_or_lt_of_le hm1 with rfl | hlt
        · exact e
        · exact h2 m hlt hm2

theorem placef_ev (l : List S36) (id : Int) (hl : l.length ≤ 140737488351232) :
    ∃ r, Ev (fun k => blocks_place.f k l id) r ∧
      ((∃ j : Nat, j < l.length ∧ (rd_T36 l (j : Int)).f0 = id ∧ (∀ m : Nat, m < j → (rd_T36 l (m : Int)).f0 ≠ id) ∧ r = (j : Int)) ∨
       (r = -1 ∧ ∀ m : Nat, m < l.length → (rd_T36 l (m : Int)).f0 ≠ id)) := by
  obtain ⟨r, h, hs⟩ := place_ev l id hl l.length 0 (by omega)
  refine ⟨r, h, ?_⟩
  rcases hs with ⟨j, h1, h2, h3, h4, h5⟩ | ⟨h1, h2⟩
  · exact Or.inl ⟨j, h2, h3, fun m hm => h4 m (by omega) hm, h5⟩
  · exact Or.inr ⟨h1, fun m hm => h2 m (by omega) hm⟩
theorem parts_some (n : Int) : ∃ r, blocks_Parts.f n = some r ∧ (0 < r ↔ 1 ≤ n ∧ n ≤ 64) := by
  unfold blocks_Parts.f
  by_cases h1 : n < 1
  · exact ⟨0, by rw [if_pos h1], by omega⟩
  · by_cases h2 : n > 64
    · exact ⟨0, by rw [if_neg h1, if_pos h2], by omega⟩
    · refine ⟨_, by rw [if_neg h1, if_neg h2], ?_⟩
      rw [wrap64_in (x := n + 16) (by omega) (by omega), wrap64_in (x := n + 16 - 1) (by omega) (by omega), Int.tdiv_eq_ediv_of_nonneg (by omega), wrap64_in (by omega) (by omega)]
      omega

def good (x : S36) : Prop := 0 ≤ x.f0 ∧ x.f0 < 16 ∧ 0 ≤ x.f1 ∧ x.f1 < 32 ∧ 1 ≤ x.f2 ∧ x.f2 ≤ 64
instance (x : S36) : Decidable (good x) := by unfold good; infer_instance
theorem right_ev (x : S36) : blocks_right.f x.f0 x.f1 x.f2 x.f3 = some (decide (good x)) := by
  unfold blocks_right.f good
  obtain ⟨r, hr, hs⟩ := parts_some x.f2
  rw [hr]
  simp only [Option.bind_some]
  repeat' split
  all_goals (congr 1; symm)
  all_goals first | (apply decide_eq_false; omega) | (congr 1; simp only [eq_iff_iff]; omega)

theorem check_ev (l : List S36) (hl : l.length ≤ 140737488351232) : ∀ d i : Nat, i + d = l.length →
    ∃ r, Ev (fun k => blocks_Check.l0 k l l (l.length : Int) (i : Int)) r ∧
      ((r = (0, 0) ∧ ∀ m : Nat, i ≤ m → m < l.length → good (rd_T36 l (m : Int)) ∧ ∀ j : Nat, j < m → (rd_T36 l (j : Int)).f0 ≠ (rd_T36 l (m : Int)).f0) ∨ (r.1 ≠ 0 ∧ r.2 < (l.length : Int)))
  | 0, i, h => ⟨(0, 0), Ev.step (fun k => rfl) (Ev.neg (by omega) (Ev.now _)), Or.inl ⟨rfl, fun m h1 h2 => by omega⟩⟩
  | d + 1, i, h => by
    obtain ⟨r, hb, hs⟩ := check_ev l hl d (i + 1) (by omega)
    have hgood := right_ev (rd_T36 l (i : Int))
    by_cases g : good (rd_T36 l (i : Int))
    · rw [decide_eq_true g] at hgood
      obtain ⟨p, hp, hps⟩ := placef_ev l (rd_T36 l (i : Int)).f0 hl
      by_cases hlt : p < (i : Int)
      · refine ⟨(14, (i : Int)), Ev.step (fun k => rfl) (Ev.pos (by omega) (Ev.pos (by omega) (Ev.pos (by omega) (Ev.bindS hgood (Ev.pos rfl (Ev.bind hp (Ev.pos hlt (Ev.now _)))))))), Or.inr ⟨by show (14 : Int) ≠ 0; omega, by show (i : Int) < _; omega⟩⟩
      · refine ⟨r, Ev.step (fun k => rfl) (Ev.pos (by omega) (Ev.pos (by omega) (Ev.pos (by omega) (Ev.bindS hgood (Ev.pos rfl (Ev.bind hp (Ev.neg hlt (by rw [wrap64_nat (n := l.length) (by omega) hl]; exact hb)))))))), ?_⟩
        rcases hs with ⟨h1, h2⟩ | h1
        · refine Or.inl ⟨h1, fun m hm1 hm2 => ?_⟩
          rcases Nat.eq_or_lt_of_le hm1 with rfl | hm3
          · refine ⟨g, fun j hj => ?_⟩
            rcases hps with ⟨q, q1, q2, q3, rfl⟩ | ⟨rfl, q2⟩
            · exact q3 j (by omega)
            · exact q2 j (by omega)
          · exact h2 m hm3 hm2
        · exact Or.inr h1
    · rw [decide_eq_false g] at hgood
      exact ⟨(3, (i : Int)), Ev.step (fun k => rfl) (Ev.pos (by omega) (Ev.pos (by omega) (Ev.pos (by omega) (Ev.bindS hgood (Ev.neg (by simp) (Ev.now _)))))), Or.inr ⟨by show (3 : Int) ≠ 0; omega, by show (i : Int) < _; omega⟩⟩

def ids (a : Int) (l : List S36) : List Int := (l.filter fun x => decide (x.f1 = a)).map (·.f0)
theorem rd_get (l : List S36) (i : Nat) (h : i < l.length) : rd_T36 l (i : Int) = l[i] := by
  unfold rd_T36
  rw [toNat_cast, List.getD_eq_getElem?_getD, List.getElem?_eq_getElem h]
  rfl

theorem of_ev (l : List S36) (a : Int) (hl : l.length ≤ 1000) : ∀ (d i : Nat) (out : List Int), i + d = l.length → out.length ≤ i →
    Ev (fun k => blocks_Of.l0 k a out l (l.length : Int) (i : Int)) (out ++ ids a (l.drop i))
  | 0, i, out, h, ho => by
    rw [List.drop_of_length_le (by omega)]
    exact Ev.to (List.append_nil _).symm (Ev.step (fun k => rfl) (Ev.neg (by omega) (Ev.now _)))
  | d + 1, i, out, h, ho => by
    have hw := wrap64_nat (i := i) (n := l.length) (by omega) (by omega)
    have hi : i < l.length := by omega
    have hg := rd_get l i hi
    rw [List.drop_eq_getElem_cons hi]
    by_cases e : (rd_T36 l (i : Int)).f1 = a
    · have h1 := of_ev l a hl d (i + 1) (out ++ [(rd_T36 l (i : Int)).f0]) (by omega) (by simp; omega)
      refine Ev.to ?_ (Ev.step (fun k => rfl) (Ev.pos (by omega) (Ev.pos (by omega) (Ev.pos (by omega) (Ev.pos e (Ev.pos (by omega) (by rw [hw]; exact h1)))))))
      rw [hg] at e ⊢
      unfold ids
      rw [List.filter_cons_of_pos (by simpa using e)]
      simp
    · have h1 := of_ev l a hl d (i + 1) out (by omega) (by omega)
      refine Ev.to ?_ (Ev.step (fun k => rfl) (Ev.pos (by omega) (Ev.pos (by omega) (Ev.pos (by omega) (Ev.neg e (by rw [hw]; exact h1))))))
      rw [hg] at e
      unfold ids
      rw [List.filter_cons_of_neg (by simpa using e)]

theorem find_ev (l : List S36) (hl : l.length ≤ 1000) (m : Nat) (hm : m < l.length) (hd : ∀ j : Nat, j < m → (rd_T36 l (j : Int)).f0 ≠ (rd_T36 l (m : Int)).f0) :
    Ev (fun k => blocks_Find.f k l (rd_T36 l (m : Int)).f0) ((rd_T36 l (m : Int)).f0, (rd_T36 l (m : Int)).f1, (rd_T36 l (m : Int)).f2, (rd_T36 l (m : Int)).f3, true) := by
  obtain ⟨p, hp, hps⟩ := placef_ev l (rd_T36 l (m : Int)).f0 (by omega)
  have e : p = (m : Int) := by
    rcases hps with ⟨q, q1, q2, q3, rfl⟩ | ⟨rfl, q2⟩
    · rcases Nat.lt_trichotomy q m with hlt | rfl | hlt
      · exact absurd q2 (hd q hlt)
      · rfl
      · exact absurd rfl (q3 m hlt)
    · exact absurd rfl (q2 m hm)
  subst e
  exact Ev.bind hp (Ev.neg (by omega) (Ev.pos (by omega) (Ev.pos (by omega) (Ev.now _))))

theorem inner_ev (l : List S36) (hl : l.length ≤ 1000) (a : Int) (O : List Int) (n : Nat) (hn : n ≤ 1000000) (hO : O.length ≤ 1000)
    (hf : ∀ j : Nat, j < O.length → ∃ c d, Ev (fun k => blocks_Find.f k l (rd O (j : Int))) (rd O (j : Int), a, c, d, true))
    (hnext : Ev (fun k => fuglemanlaw16_BlocksOnce.l0 k l ((n + O.length : Nat) : Int) (wrap64 (a + 1))) true) : ∀ e j : Nat, j + e = O.length →
    Ev (fun k => fuglemanlaw16_BlocksOnce.l1 k l ((n + j : Nat) : Int) a a O (O.length : Int) (j : Int)) true
  | 0, j, h => by
    refine Ev.step (fun k => rfl) (Ev.neg (by omega) ?_)
    rw [show j = O.length by omega]
    exact hnext
  | e + 1, j, h => by
    obtain ⟨c, d, hc⟩ := hf j (by omega)
    refine Ev.step (fun k => rfl) (Ev.pos (by omega) (Ev.pos (by omega) (Ev.pos (by omega) (Ev.bind hc (Ev.pos rfl (Ev.pos rfl (Ev.pos rfl ?_)))))))
    rw [wrap64_nat (i := n + j) (n := 2000000) (by omega) (by omega), wrap64_nat (i := j) (n := 2000000) (by omega) (by omega)]
    exact inner_ev l hl a O n hn hO hf hnext e (j + 1) (by omega)

theorem split_len (a : Int) : ∀ l : List S36, (l.filter fun x => decide (a ≤ x.f1)).length = (ids a l).length + (l.filter fun x => decide (a + 1 ≤ x.f1)).length
  | [] => rfl
  | x :: r => by
    have ih := split_len a r
    unfold ids at *
    rw [List.length_map] at *
    simp only [List.filter_cons]
    rcases Int.lt_trichotomy x.f1 a with h | h | h
    · rw [if_neg (by simp; omega), if_neg (by simp; omega), if_neg (by simp; omega)]
      exact ih
    · rw [if_pos (by simp; omega), if_pos (by simp; omega), if_neg (by simp; omega), List.length_cons, List.length_cons]
      omega
    · rw [if_pos (by simp; omega), if_neg (by simp; omega), if_pos (by simp; omega), List.length_cons, List.length_cons]
      omega

theorem outer_ev (l : List S36) (hl : l.length ≤ 16) (hs : ∀ m : Nat, m < l.length → good (rd_T36 l (m : Int)) ∧ ∀ j : Nat, j < m → (rd_T36 l (j : Int)).f0 ≠ (rd_T36 l (m : Int)).f0) : ∀ d a n : Nat, a + d = 32 →
    n + (l.filter fun x => decide ((a : Int) ≤ x.f1)).length = l.length → Ev (fun k => fuglemanlaw16_BlocksOnce.l0 k l (n : Int) (a : Int)) true
  | 0, a, n, h, hn => by
    refine Ev.step (fun k => rfl) (Ev.neg (by omega) ?_)
    have e : (l.filter fun x => decide ((a : Int) ≤ x.f1)) = [] := by
      rw [List.filter_eq_nil_iff]
      intro x hx
      obtain ⟨m, hm, rfl⟩ := List.getElem_of_mem hx
      have := (hs m hm).1
      rw [rd_get l m hm] at this
      unfold good at this
      simp only [decide_eq_true_eq]
      omega
    rw [e] at hn
    simp only [List.length_nil, Nat.add_zero] at hn
    rw [hn]
    exact Ev.to (beq_self_eq_true _) (Ev.now _)
  | d + 1, a, n, h, hn => by
    have ho := of_ev l (a : Int) (by omega) l.length 0 [] (by omega) (by simp)
    rw [List.drop_zero, List.nil_append] at ho
    refine Ev.step (fun k => rfl) (Ev.pos (by omega) (Ev.bind ho ?_))
    have hlen : (ids (a : Int) l).length ≤ l.length := by
      unfold ids
      rw [List.length_map]
      exact List.length_filter_le _ _
    have hsp := split_len (a : Int) l
    refine inner_ev l (by omega) (a : Int) (ids (a : Int) l) n (by omega) (by omega) (fun j hj => ?_) ?_ (ids (a : Int) l).length 0 (by omega)
    · have hmem : rd (ids (a : Int) l) (j : Int) ∈ ids (a : Int) l := by
        unfold rd
        rw [toNat_cast, List.getD_eq_getElem?_getD, List.getElem?_eq_getElem hj]
        exact List.getElem_mem hj
      generalize rd (ids (a : Int) l) (j : Int) = id at *
      unfold ids at hmem
      obtain ⟨x, hx, rfl⟩ := List.mem_map.1 hmem
      obtain ⟨hx1, hx2⟩ := List.mem_filter.1 hx
      obtain ⟨m, hm, rfl⟩ := List.getElem_of_mem hx1
      have hf := find_ev l (by omega) m hm (hs m hm).2
      have hx3 : (l[m]).f1 = (a : Int) := of_decide_eq_true hx2
      rw [rd_get l m hm, hx3] at hf
      exact ⟨_, _, hf⟩
    · rw [wrap64_nat (i := a) (n := 1000) (by omega) (by omega)]
      exact outer_ev l hl hs d (a + 1) _ (by omega) (by rw [show ((a + 1 : Nat) : Int) = (a : Int) + 1 by omega]; omega)

theorem BlocksOnce : ∀ (l0 : List (S36)), (l0.length ≤ 140737488351232 ∧ ∀ (i : Nat) x, l0[i]? = some x → ((Lit.int .i64 x.f0).wf = true ∧ (Lit.int .i64 x.f1).wf = true ∧ (Lit.int .i64 x.f2).wf = true ∧ True)) → ∃ k, fuglemanlaw16_BlocksOnce.f k l0 = some true := by
  intro l ⟨hl, _⟩
  apply Ev.rounds
  have haw : Ev (fun k => fuglemanlaw16_awake.f k) true := Ev.of fuglemanlaw16_awake.mono (k := 20) (by decide +kernel)
  refine Ev.bind haw (Ev.pos rfl (Ev.ite (fun _ => Ev.now _) fun hn => ?_))
  obtain ⟨r, hr, hs⟩ := check_ev l hl l.length 0 (by omega)
  refine Ev.bind (Ev.neg hn hr) ?_
  rcases hs with ⟨rfl, h1⟩ | ⟨h1, h2⟩
  · refine Ev.pos rfl (outer_ev l (by omega) (fun m hm => h1 m (by omega) hm) 32 0 0 (by omega) ?_)
    rw [Nat.zero_add, List.filter_eq_self.2]
    intro x hx
    obtain ⟨m, hm, rfl⟩ := List.getElem_of_mem hx
    have := (h1 m (by omega) hm).1
    rw [rd_get l m hm] at this
    exact decide_eq_true (by unfold good at this; omega)
  · refine Ev.neg h1 ?_
    exact Ev.to (decide_eq_true h2) (Ev.now _)

end Go.Proofs.Ytalafpnpgigppaa.Pure
