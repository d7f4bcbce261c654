/- What is left of BlocksParts when the program's calls are told as functions over numbers and lists: for every input that the guards let in the law's function answers true. -/
import Derived.Test.YtalafpnpgigppaaPBlocksPartsx2
import Derived.Test.YtalafpnpgigppaaKit
import Derived.Test.YtalafpnpgigppaaWMore
namespace Go.Proofs.Ytalafpnpgigppaa.Pure
open Go.RowKit Go.Proofs.Ytalafpnpgigppaa.PBlocksParts Go.Proofs.YtalafpnpgigppaaW.PrintWords Go.Proofs.YtalafpnpgigppaaW.PrintLast Go.Proofs.Ytalafpnpgigppaa.Kit
set_option linter.unusedVariables false
set_option linter.unusedSimpArgs false

def pc (a : ByteArray) (j : Nat) : ByteArray := a.extract (16 * j) (min (16 * j + 16) a.size)
theorem pc_size (a : ByteArray) (j : Nat) (h : 16 * j < a.size) : (pc a j).size = min 16 (a.size - 16 * j) := by
  unfold pc
  rw [ByteArray.size_extract]
  omega

theorem all_ev (a : ByteArray) (ha : a.size ≤ 1000) : ∀ (d i : Nat), 16 * i ≤ a.size → a.size ≤ 16 * i + 16 * d →
    Ev (fun k => fuglemanref16_All.l0 k (a.extract (16 * i) a.size) ((List.range i).map (pc a))) ((List.range ((a.size + 15) / 16)).map (pc a)) := by
  intro d
  induction d with
  | zero =>
    intro i h1 h2
    refine Ev.step (fun k => rfl) (Ev.neg (by rw [ByteArray.size_extract]; omega) (Ev.pos (by rw [toList_nil, ByteArray.size_extract]; omega) ?_))
    rw [show (a.size + 15) / 16 = i by omega]
    exact Ev.now _
  | succ d ih =>
    intro i h1 h2
    refine Ev.step (fun k => rfl) (Ev.ite (fun hc => ?_) (fun hc => ?_))
    · rw [ByteArray.size_extract] at hc
      refine Ev.pos (by omega) (Ev.pos (by rw [ByteArray.size_extract]; omega) (Ev.pos (by simp; omega) ?_))
      have h3 := ih (i + 1) (by omega) (by omega)
      rw [ByteArray.extract_extract, ByteArray.extract_extract, ByteArray.size_extract, Nat.min_self, show min (16 * i + (a.size - 16 * i)) a.size = a.size by omega, Nat.add_zero]
      rw [List.range_succ, List.map_append] at h3
      exact h3
    · rw [ByteArray.size_extract] at hc
      refine Ev.ite (fun he => ?_) (fun he => ?_)
      · rw [toList_nil, ByteArray.size_extract] at he
        rw [show (a.size + 15) / 16 = i by omega]
        exact Ev.now _
      · rw [toList_nil, ByteArray.size_extract] at he
        refine Ev.pos (by simp; omega) ?_
        rw [show (a.size + 15) / 16 = i + 1 by omega, List.range_succ, List.map_append]
        have e : pc a i = a.extract (16 * i) a.size := by
          unfold pc
          rw [show min (16 * i + 16) a.size = a.size by omega]
        simp only [List.map_cons, List.map_nil, e]
        exact Ev.now _

theorem parts_is (n : Nat) (h : n ≤ 100) : blocks_Parts.f (n : Int) = some (if n ≤ 64 then (((n + 15) / 16 : Nat) : Int) else 0) := by
  unfold blocks_Parts.f
  by_cases h1 : (n : Int) < 1
  · rw [if_pos h1, if_pos (by omega)]
    congr 1
    omega
  · by_cases h2 : (n : Int) > 64
    · rw [if_neg h1, if_pos h2, if_neg (by omega)]
    · rw [if_neg h1, if_neg h2, if_pos (by omega)]
      rw [wrap64_in (x := (n : Int) + 16) (by omega) (by omega), wrap64_in (x := (n : Int) + 16 - 1) (by omega) (by omega), Int.tdiv_eq_ediv_of_nonneg (by omega), wrap64_in (by omega) (by omega)]
      congr 1
      omega

theorem piece_in (n i : Nat) (h : n ≤ 64) (hi : i < (n + 15) / 16) : blocks_Piece.f (n : Int) (i : Int) = some (((16 * i : Nat) : Int), ((min 16 (n - 16 * i) : Nat) : Int)) := by
  unfold blocks_Piece.f
  rw [if_neg (by omega), parts_is n (by omega), if_pos h]
  simp only [Option.bind_some]
  rw [if_neg (by omega), wrap64_in (x := (i : Int) * 16) (by omega) (by omega), wrap64_in (by omega) (by omega)]
  unfold mn
  congr 2
  · omega
  · split <;> omega

theorem piece_out (n : Nat) (p : Int) (h : n ≤ 100) (hp : p < 0 ∨ p ≥ (if n ≤ 64 then (((n + 15) / 16 : Nat) : Int) else 0)) : blocks_Piece.f (n : Int) p = some (0, 0) := by
  unfold blocks_Piece.f
  by_cases h0 : p < 0
  · rw [if_pos h0]
  · rw [if_neg h0, parts_is n h]
    simp only [Option.bind_some]
    rw [if_pos (by omega)]

theorem j2_ev (a : ByteArray) (p : Int) (acc : ByteArray) (b : Bool) (ha : a.size ≤ 100) (hb : b = true → p < 0 ∨ p ≥ (if a.size ≤ 64 then (((a.size + 15) / 16 : Nat) : Int) else 0)) (hacc : acc = a ∨ a.size > 64 ∧ acc.size = 0) :
    Ev (fun k => fuglemanlaw16_BlocksParts.j2 k a p acc b) true := by
  have hend : Ev (fun k => if acc.toList = a.toList then (some true) else (if (a.size : Int) > 64 then (some (acc.toList == ([] : List UInt8))) else (some false))) true := by
    rcases hacc with rfl | ⟨h1, h2⟩
    · exact Ev.pos rfl (Ev.now _)
    · refine Ev.ite (fun _ => Ev.now _) (fun _ => Ev.pos (by omega) ?_)
      rw [toList_nil.2 h2]
      exact Ev.now _
  refine Ev.step (fun k => rfl) (Ev.ite (fun h => ?_) (fun _ => hend))
  refine Ev.bindS (piece_out a.size p ha (hb h)) (Ev.pos rfl (Ev.pos rfl (Ev.bindS (a := ByteArray.empty) ?_ (Ev.pos (by rw [toList_nil]; rfl) hend))))
  unfold blocks_Cut.f
  rw [piece_out a.size p ha (hb h)]
  simp only [Option.bind_some]
  rw [wrap64_in (x := 0 + 0) (by omega) (by omega), if_pos (by omega), if_pos (by omega), if_pos (by omega)]
  congr 1
  rw [ByteArray.extract_eq_empty_iff]
  simp

theorem step_ev (a : ByteArray) (p : Int) (ha : a.size ≤ 64) (n : Nat) (hn : n = (a.size + 15) / 16) (L : List ByteArray) (hlen : L.length = n) (hget : ∀ i : Nat, i < n → rdOf ByteArray.empty L (i : Int) = pc a i) : ∀ (d i : Nat) (acc : ByteArray), acc = a.extract 0 (min (16 * i) a.size) → i + d = n →
    Ev (fun k => fuglemanlaw16_BlocksParts.l0 k a p L acc L (L.length : Int) (i : Int)) true := by
  intro d
  induction d with
  | zero =>
    intro i acc hacc h
    have hacc : acc = a := by
      rw [hacc, show min (16 * i) a.size = a.size by omega]
      exact ByteArray.extract_zero_size
    refine Ev.step (fun k => rfl) (Ev.neg (by omega) (Ev.ite (fun h0 => ?_) (fun h0 => ?_)))
    · exact j2_ev a p _ _ (by omega) (fun _ => Or.inl h0) (Or.inl hacc)
    · refine j2_ev a p _ _ (by omega) (fun h1 => Or.inr ?_) (Or.inl hacc)
      have h2 := of_decide_eq_true h1
      rw [if_pos ha]
      omega
  | succ d ih =>
    intro i acc hacc h
    have hrd := hget i (by omega)
    have hp := piece_in a.size i ha (by omega)
    have hcut : blocks_Cut.f a (i : Int) = some (pc a i) := by
      have hm : min 16 (a.size - 16 * i) ≤ 16 := Nat.min_le_left _ _
      have hm2 : 16 * i + min 16 (a.size - 16 * i) = min (16 * i + 16) a.size := by omega
      generalize min 16 (a.size - 16 * i) = m at *
      refine bind_is hp ?_
      have hw : wrap64 (((16 * i : Nat) : Int) + (m : Int)) = ((16 * i + m : Nat) : Int) := by rw [wrap64_in (by omega) (by omega)]; omega
      refine pos_is (by show (0 : Int) ≤ ((16 * i : Nat) : Int); omega) (pos_is (by show ((16 * i : Nat) : Int) ≤ wrap64 (((16 * i : Nat) : Int) + (m : Int)); omega) (pos_is (by show wrap64 (((16 * i : Nat) : Int) + (m : Int)) ≤ _; omega) ?_))
      show some (a.extract ((16 * i : Nat) : Int).toNat (wrap64 (((16 * i : Nat) : Int) + (m : Int))).toNat) = _
      rw [hw, toNat_cast, toNat_cast, hm2]
      rfl
    have hsz := pc_size a i (by omega)
    have hasz : acc.size = 16 * i := by
      rw [hacc, ByteArray.size_extract]
      omega
    have e : acc ++ pc a i = a.extract 0 (min (16 * (i + 1)) a.size) := by
      unfold pc
      rw [hacc, show min (16 * i) a.size = 16 * i by omega, extract_join (by omega)]
      congr 1
    have ih' := ih (i + 1) _ e (by omega)
    generalize pc a i = q at *
    refine Ev.step (fun k => rfl) (Ev.pos (by omega) (Ev.pos (by omega) (Ev.pos (by omega) ?_)))
    rw [hrd]
    refine Ev.bindS hp (Ev.bindS hcut (Ev.pos rfl (Ev.pos ?_ (Ev.pos ?_ (Ev.neg ?_ (Ev.neg ?_ (Ev.pos ?_ ?_)))))))
    · show ((16 * i : Nat) : Int) = _
      omega
    · show ((min 16 (a.size - 16 * i) : Nat) : Int) = _
      rw [hsz]
    · show ¬ ((min 16 (a.size - 16 * i) : Nat) : Int) < 1
      omega
    · show ¬ ((min 16 (a.size - 16 * i) : Nat) : Int) > 16
      omega
    · omega
    · rw [wrap64_nat (n := 100) (by omega) (by omega)]
      exact ih'

theorem BlocksParts : ∀ (a0 : ByteArray) (a1 : Int), a0.size ≤ 140737488351232 → (Lit.int .i64 a1).wf = true → ∃ k, fuglemanlaw16_BlocksParts.f k a0 a1 = some true := by
  intro a p ha hp
  apply Ev.rounds
  have haw : Ev (fun k => fuglemanlaw16_awake.f k) true := Ev.of fuglemanlaw16_awake.mono (k := 20) (by decide +kernel)
  refine Ev.bind haw (Ev.pos rfl (Ev.ite (fun _ => Ev.now _) fun hn => ?_))
  have hall := all_ev a (by omega) a.size 0 (by omega) (by omega)
  rw [Nat.mul_zero, ByteArray.extract_zero_size] at hall
  refine Ev.bind hall (Ev.ite (fun h64 => ?_) (fun h64 => ?_))
  · refine Ev.step (fun k => rfl) (Ev.bindS (parts_is a.size (by omega)) ?_)
    rw [if_neg (by omega)]
    refine Ev.pos rfl (Ev.step (fun k => rfl) (Ev.neg (by decide) (Ev.ite (fun h0 => ?_) (fun h0 => ?_))))
    · exact j2_ev a p _ _ (by omega) (fun _ => Or.inl h0) (Or.inr ⟨by omega, rfl⟩)
    · refine j2_ev a p _ _ (by omega) (fun _ => Or.inr ?_) (Or.inr ⟨by omega, rfl⟩)
      rw [if_neg (by omega)]
      omega
  · refine Ev.step (fun k => rfl) (Ev.bindS (parts_is a.size (by omega)) ?_)
    rw [if_pos (by omega)]
    refine Ev.pos (by simp) ?_
    refine step_ev a p (by omega) _ rfl _ (by simp) (fun i hi => ?_) ((a.size + 15) / 16) 0 _ ?_ (by omega)
    · unfold rdOf
      rw [toNat_cast, List.getD_eq_getElem?_getD, List.getElem?_map, List.getElem?_range (by omega)]
      rfl
    · rw [Nat.mul_zero, Nat.zero_min]
      exact (ByteArray.extract_eq_empty_iff.2 (by omega)).symm

end Go.Proofs.Ytalafpnpgigppaa.Pure
