/- What is left of ImageInputs when the program's calls are told as functions over numbers and lists: for every input that the guards let in the law's function answers true. -/
import Derived.Test.YtpjpjamaimahaaaPImageInputsx5
import Derived.Test.YtpjpjamaimahaaaKit
import Derived.Test.YtpjpjamaimahaaaWMore
namespace Go.Proofs.Ytpjpjamaimahaaa.Pure
open Go.RowKit Go.Proofs.Ytpjpjamaimahaaa.PImageInputs Go.Proofs.YtpjpjamaimahaaaW.PrintWords Go.Proofs.YtpjpjamaimahaaaW.PrintLast Go.Proofs.Ytpjpjamaimahaaa.Kit
set_option linter.unusedVariables false
set_option linter.unusedSimpArgs false

/-! ### image: areas byte by byte -/
/-- Byte i of the inputs behind k values. -/
def Bf (local_ : Int) (own : ByteArray) (sp : List S32) (vs : List ByteArray) : Nat → Nat → Int
  | 0, i => if (i : Int) < local_ ∧ i < own.size then bt own (i : Int) else 0
  | k + 1, i => if (rd_T32 sp (k : Int)).f1 ≤ (i : Int) ∧ (i : Int) - (rd_T32 sp (k : Int)).f1 < ((rdOf ByteArray.empty vs (k : Int)).size : Int) then bt (rdOf ByteArray.empty vs (k : Int)) ((i : Int) - (rd_T32 sp (k : Int)).f1) else Bf local_ own sp vs k i
def X (local_ : Int) (own : ByteArray) (sp : List S32) (vs : List ByteArray) (k : Nat) : List Int := (List.range 64).map (Bf local_ own sp vs k)

theorem map64_get (f : Nat → Int) (i : Nat) : ((List.range 64).map f)[i]? = if i < 64 then some (f i) else none := by
  rw [List.getElem?_map]
  by_cases h : i < 64
  · rw [List.getElem?_range h, if_pos h]; rfl
  · rw [List.getElem?_eq_none (by simp; omega), if_neg h]; rfl

theorem put_X (local_ : Int) (own : ByteArray) (sp : List S32) (vs : List ByteArray) (k n : Nat) (h1 : -9223372036854775808 ≤ (rd_T32 sp (k : Int)).f1) (h2 : (rd_T32 sp (k : Int)).f1 ≤ 9223372036854775807) (h3 : (rdOf ByteArray.empty vs (k : Int)).size ≤ 9223372036854775807) :
    image_put.f n (X local_ own sp vs k) (rd_T32 sp (k : Int)).f1 (rdOf ByteArray.empty vs (k : Int)) = some (X local_ own sp vs (k + 1)) := by
  unfold image_put.f
  rw [if_pos ⟨h1, h2, h3⟩]
  refine congrArg some ?_
  apply List.ext_getElem?
  intro i
  rw [image_put.S_get]
  unfold X
  rw [map64_get, map64_get]
  by_cases h : i < 64
  · rw [if_pos h, if_pos h]; rfl
  · rw [if_neg h, if_neg h]; rfl

theorem put_zero (local_ : Int) (own : ByteArray) (sp : List S32) (vs : List ByteArray) (n : Nat) (m : Nat) (hs : own.size ≤ 9223372036854775807) (hm : m ≤ own.size) (hm2 : ∀ i : Nat, i < 64 → (i < m ↔ (i : Int) < local_ ∧ i < own.size)) :
    image_put.f n (List.replicate 64 0) 0 (own.extract 0 m) = some (X local_ own sp vs 0) := by
  unfold image_put.f
  rw [if_pos ⟨by omega, by omega, by rw [ByteArray.size_extract]; omega⟩]
  refine congrArg some ?_
  apply List.ext_getElem?
  intro i
  rw [image_put.S_get]
  unfold X
  rw [map64_get, List.getElem?_replicate]
  by_cases h : i < 64
  · rw [if_pos h, if_pos h]
    simp only [Option.map_some, Bf, ByteArray.size_extract]
    congr 1
    have := hm2 i h
    by_cases hc : i < m
    · rw [if_pos (by omega), if_pos (this.1 hc)]
      rw [show (i : Int) - 0 = (i : Int) by omega]
      unfold bt
      have e1 : ((i : Nat) : Int).toNat = i := rfl
      simp only [e1, ByteArray.size_extract]
      rw [dif_pos (by omega), dif_pos (by omega), ByteArray.getElem_extract]
      congr 2
      simp
    · rw [if_neg (by omega), if_neg (fun h => hc (this.2 h))]
  · rw [if_neg h, if_neg h]; rfl

theorem inputs_ev (local_ : Int) (own : ByteArray) (sp : List S32) (vs : List ByteArray) (hv : ∀ k : Nat, k < vs.length → (rdOf ByteArray.empty vs (k : Int)).size ≤ 100)
    (hs : ∀ k : Nat, k < sp.length → -9223372036854775808 ≤ (rd_T32 sp (k : Int)).f1 ∧ (rd_T32 sp (k : Int)).f1 ≤ 9223372036854775807) (n : Nat) (hn1 : n ≤ sp.length) (hn2 : n ≤ vs.length) (hn : n ≤ 1000) : ∀ d k : Nat, k + d = n →
    Ev (fun q => image_Inputs.l0 q sp vs (X local_ own sp vs k) (n : Int) (k : Int)) (strOfNums (X local_ own sp vs n))
  | 0, k, h => by
    obtain rfl : k = n := by omega
    exact Ev.step (fun q => rfl) (Ev.neg (by omega) (Ev.now _))
  | d + 1, k, h => by
    obtain ⟨b1, b2⟩ := hs k (by omega)
    have b3 := hv k (by omega)
    have hput : Ev (fun q => image_put.f q (X local_ own sp vs k) (rd_T32 sp (k : Int)).f1 (rdOf ByteArray.empty vs (k : Int))) (X local_ own sp vs (k + 1)) := ⟨0, fun q _ => put_X local_ own sp vs k q b1 b2 (by omega)⟩
    refine Ev.step (fun q => rfl) (Ev.pos (by omega) (Ev.pos (by omega) (Ev.pos (by omega) (Ev.pos (by omega) (Ev.bind hput ?_)))))
    rw [wrap64_nat (n := 100000) (by omega) (by omega)]
    exact inputs_ev local_ own sp vs hv hs n hn1 hn2 hn d (k + 1) (by omega)

/-- The reference's bytes while it is at byte i, which is v so far. -/
def Y (local_ : Int) (own : ByteArray) (sp : List S32) (vs : List ByteArray) (n i : Nat) (v : Int) : List Int := (List.range 64).map fun j => if j < i then Bf local_ own sp vs n j else if j = i then v else 0
theorem Y_len (local_ : Int) (own : ByteArray) (sp : List S32) (vs : List ByteArray) (n i : Nat) (v : Int) : (Y local_ own sp vs n i v).length = 64 := by simp [Y]
theorem Y_set (local_ : Int) (own : ByteArray) (sp : List S32) (vs : List ByteArray) (n i : Nat) (v u : Int) (hi : i < 64) : (Y local_ own sp vs n i v).set i u = Y local_ own sp vs n i u := by
  apply List.ext_getElem?
  intro j
  rw [List.getElem?_set]
  unfold Y
  rw [map64_get, map64_get]
  by_cases h : i = j
  · subst h
    rw [if_pos rfl, if_pos (by simp; omega), if_pos hi, if_neg (by omega), if_pos rfl]
  · rw [if_neg h]
    by_cases h2 : j < 64
    · rw [if_pos h2, if_pos h2, if_neg (c := j = i) (fun e => h e.symm), if_neg (c := j = i) (fun e => h e.symm)]
    · rw [if_neg h2, if_neg h2]
theorem Y_next (local_ : Int) (own : ByteArray) (sp : List S32) (vs : List ByteArray) (n i : Nat) : Y local_ own sp vs n i (Bf local_ own sp vs n i) = Y local_ own sp vs n (i + 1) 0 := by
  unfold Y
  apply List.map_congr_left
  intro j _
  by_cases h1 : j < i
  · rw [if_pos h1, if_pos (by omega)]
  · by_cases h2 : j = i
    · subst h2
      rw [if_neg h1, if_pos rfl, if_pos (by omega)]
    · rw [if_neg h1, if_neg h2, if_neg (by omega)]
      split <;> rfl
theorem Y_end (local_ : Int) (own : ByteArray) (sp : List S32) (vs : List ByteArray) (n : Nat) : Y local_ own sp vs n 64 0 = X local_ own sp vs n := by
  unfold Y X
  apply List.map_congr_left
  intro j hj
  rw [if_pos (List.mem_range.1 hj)]
theorem Y_begin (local_ : Int) (own : ByteArray) (sp : List S32) (vs : List ByteArray) (n : Nat) : Y local_ own sp vs n 0 0 = List.replicate 64 0 := by
  unfold Y
  apply List.ext_getElem?
  intro j
  rw [map64_get, List.getElem?_replicate]
  by_cases h : j < 64
  · rw [if_pos h, if_pos h, if_neg (by omega)]
    split <;> rfl
  · rw [if_neg h, if_neg h]

theorem byte_is (s : ByteArray) (i : Nat) : fuglemanref19_Byte.f s (i : Int) = some (if i < s.size then bt s (i : Int) else 0) := by
  unfold fuglemanref19_Byte.f
  rw [if_neg (by omega)]
  by_cases h : i < s.size
  · rw [if_neg (by omega), if_pos (by omega), if_pos (by omega), if_pos h]
  · rw [if_pos (by omega), if_neg h]
section
variable (local_ : Int) (own : ByteArray) (sp : List S32) (vs : List ByteArray) (hv : ∀ k : Nat, k < vs.length → (rdOf ByteArray.empty vs (k : Int)).size ≤ 100)
    (hs : ∀ k : Nat, k < sp.length → -9223372036854775808 ≤ (rd_T32 sp (k : Int)).f1 ∧ (rd_T32 sp (k : Int)).f1 ≤ 9223372036854775807) (hsl : sp.length ≤ 1000) (n : Nat) (hn : n = min sp.length vs.length)
include hv hs hsl hn
theorem ref_inner (i : Nat) (hi : i < 64) (r : ByteArray) (hnext : Ev (fun q => fuglemanref19_Inputs.l0 q local_ own sp vs (Y local_ own sp vs n (i + 1) 0) ((i + 1 : Nat) : Int)) r) : ∀ d k : Nat, k + d = n →
    Ev (fun q => fuglemanref19_Inputs.l1 q local_ own sp vs (Y local_ own sp vs n i (Bf local_ own sp vs k i)) (i : Int) (k : Int)) r := by
  have hw : wrap64 ((i : Int) + 1) = ((i + 1 : Nat) : Int) := wrap64_nat (n := 100) (by omega) (by omega)
  have hlen := fun v => Y_len local_ own sp vs n i v
  -- what comes behind the last value
  have hend : ∀ k : Nat, n ≤ k → Ev (fun q => fuglemanref19_Inputs.l0 q local_ own sp vs (Y local_ own sp vs n i (Bf local_ own sp vs n i)) (wrap64 ((i : Int) + 1))) r := fun k _ => by
    rw [hw, Y_next]
    exact hnext
  have stop : ∀ v, v = Bf local_ own sp vs n i → Ev (fun q => fuglemanref19_Inputs.j3 q local_ own sp vs (Y local_ own sp vs n i v) (i : Int) (n : Int) false) r := fun v hv => Ev.step (fun q => rfl) (by rw [hv]; exact hend n (Nat.le_refl _))
  intro d
  induction d with
  | zero =>
    intro k h
    obtain rfl : k = n := by omega
    refine Ev.step (fun q => rfl) (Ev.ite (fun h1 => ?_) (fun h1 => stop _ rfl))
    rw [decide_eq_false (by omega)]
    exact stop _ rfl
  | succ d ih =>
    intro k h
    have ih' := ih (k + 1) (by omega)
    obtain ⟨b1, b2⟩ := hs k (by omega)
    have b3 := hv k (by omega)
    have hk : wrap64 ((k : Int) + 1) = ((k + 1 : Nat) : Int) := wrap64_nat (n := 100000) (by omega) (by omega)
    rw [← hk] at ih'
    have hB : Bf local_ own sp vs (k + 1) i = if (rd_T32 sp (k : Int)).f1 ≤ (i : Int) ∧ (i : Int) - (rd_T32 sp (k : Int)).f1 < ((rdOf ByteArray.empty vs (k : Int)).size : Int) then bt (rdOf ByteArray.empty vs (k : Int)) ((i : Int) - (rd_T32 sp (k : Int)).f1) else Bf local_ own sp vs k i := rfl
    rw [hB] at ih'
    generalize Bf local_ own sp vs k i = v at *
    have skip : ¬ ((rd_T32 sp (k : Int)).f1 ≤ (i : Int) ∧ (i : Int) - (rd_T32 sp (k : Int)).f1 < ((rdOf ByteArray.empty vs (k : Int)).size : Int)) → Ev (fun q => fuglemanref19_Inputs.l1 q local_ own sp vs (Y local_ own sp vs n i v) (i : Int) (wrap64 ((k : Int) + 1))) r := fun hc => by
      rw [if_neg hc] at ih'
      exact ih'
    refine Ev.step (fun q => rfl) (Ev.pos (by omega) ?_)
    rw [decide_eq_true (by omega)]
    refine Ev.step (fun q => rfl) (Ev.pos (by omega) (Ev.ite (fun c1 => ?_) (fun c1 => skip (by omega))))
    refine Ev.ite (fun c2 => ?_) (fun c2 => skip (by omega))
    have hwi : wrap64 ((i : Int) - (rd_T32 sp (k : Int)).f1) = (i : Int) - (rd_T32 sp (k : Int)).f1 := wrap64_in (by omega) (by omega)
    rw [hwi]
    refine Ev.pos (by omega) (Ev.ite (fun c3 => ?_) (fun c3 => skip (by omega)))
    refine Ev.pos (by omega) (Ev.pos (by omega) (Ev.pos (by rw [hlen]; omega) ?_))
    rw [toNat_cast, Y_set _ _ _ _ _ _ _ _ hi]
    rw [if_pos ⟨c1, c3⟩] at ih'
    exact ih'

theorem ref_outer : ∀ d i : Nat, i + d = 64 → Ev (fun q => fuglemanref19_Inputs.l0 q local_ own sp vs (Y local_ own sp vs n i 0) (i : Int)) (strOfNums (X local_ own sp vs n))
  | 0, i, h => by
    obtain rfl : i = 64 := by omega
    rw [Y_end]
    exact Ev.step (fun q => rfl) (Ev.now _)
  | d + 1, i, h => by
    have hnext := ref_outer d (i + 1) (by omega)
    have hin := ref_inner local_ own sp vs hv hs hsl n hn i (by omega) _ hnext n 0 (by omega)
    have hB : Bf local_ own sp vs 0 i = if (i : Int) < local_ ∧ i < own.size then bt own (i : Int) else 0 := rfl
    rw [hB] at hin
    refine Ev.step (fun q => rfl) (Ev.pos (by omega) (Ev.ite (fun c1 => ?_) (fun c1 => ?_)))
    · refine Ev.bindS (byte_is own i) (Ev.pos (by omega) (Ev.pos (by rw [Y_len]; omega) ?_))
      rw [toNat_cast, Y_set _ _ _ _ _ _ _ _ (by omega)]
      refine Ev.step (fun q => rfl) ?_
      by_cases c2 : i < own.size
      · rw [if_pos c2]
        rw [if_pos ⟨c1, c2⟩] at hin
        exact hin
      · rw [if_neg c2]
        rw [if_neg (fun h => c2 h.2)] at hin
        exact hin
    · rw [if_neg (fun h => c1 h.1)] at hin
      exact Ev.step (fun q => rfl) hin
end

theorem ImageInputs : ∀ (a0 : Int) (l1 : List (S32)) (l2 : List ByteArray), (Lit.int .i64 a0).wf = true → (l1.length ≤ 140737488351232 ∧ ∀ (i : Nat) x, l1[i]? = some x → ((Lit.int .i64 x.f0).wf = true ∧ (Lit.int .i64 x.f1).wf = true)) → (l2.length ≤ 140737488351232 ∧ ∀ (i : Nat) x, l2[i]? = some x → x.size ≤ 140737488351232) → ∃ k, fuglemanlaw19_ImageInputs.f k a0 l1 l2 = some true := by
  intro local_ sp tx hl ⟨_, hsp⟩ ⟨_, htx⟩
  apply Ev.rounds
  have haw : Ev (fun k => fuglemanlaw19_awake.f k) true := Ev.of fuglemanlaw19_awake.mono (k := 100) (by decide +kernel)
  have hdone : ∀ own vs, Ev (fun k => fuglemanlaw19_ImageInputs.j0 k local_ sp own vs true) true := fun own vs => Ev.step (fun k => rfl) (Ev.now _)
  refine Ev.bind haw (Ev.pos rfl (Ev.ite (fun _ => Ev.now _) fun hn => Ev.pos (by omega) (Ev.pos (by omega) (Ev.ite (fun _ => hdone _ _) fun h1 => Ev.ite (fun _ => hdone _ _) fun h2 => ?_))))
  generalize rdOf ByteArray.empty tx 0 = own at *
  generalize List.drop 1 tx = vs at *
  by_cases h3 : (vs.length : Int) > 20
  · rw [decide_eq_true h3]
    exact hdone _ _
  rw [decide_eq_false h3]
  have hs : ∀ k : Nat, k < sp.length → -9223372036854775808 ≤ (rd_T32 sp (k : Int)).f1 ∧ (rd_T32 sp (k : Int)).f1 ≤ 9223372036854775807 := fun k hk => by
    have := (hsp k sp[k] (List.getElem?_eq_getElem hk)).2
    unfold rd_T32
    rw [toNat_cast, List.getD_eq_getElem?_getD, List.getElem?_eq_getElem hk]
    exact i64_bd this
  refine Ev.step (fun k => rfl) ?_
  -- each value is of at most 100 bytes, or the law is done
  have hloop : ∀ d i : Nat, i + d = vs.length → (∀ k : Nat, k < i → (rdOf ByteArray.empty vs (k : Int)).size ≤ 100) → Ev (fun k => fuglemanlaw19_ImageInputs.l0 k local_ sp own vs vs (vs.length : Int) (i : Int)) true := by
    intro d
    induction d with
    | zero =>
      intro i hi hv
      have hv' : ∀ k : Nat, k < vs.length → (rdOf ByteArray.empty vs (k : Int)).size ≤ 100 := fun k hk => hv k (by omega)
      have hin : Ev (fun k => image_Inputs.f k local_ own sp vs) (strOfNums (X local_ own sp vs (min sp.length vs.length))) := by
        obtain ⟨m, hm⟩ : ∃ m : Nat, mn (own.size : Int) (mx local_ 0) = (m : Int) := Int.eq_ofNat_of_zero_le (by unfold mn mx; (repeat' split) <;> omega)
        have hmn : mn (sp.length : Int) (vs.length : Int) = ((min sp.length vs.length : Nat) : Int) := by unfold mn; split <;> omega
        have hm1 : m ≤ own.size := by have : mn (own.size : Int) (mx local_ 0) ≤ (own.size : Int) := by (unfold mn; split <;> omega)
                                      omega
        refine Ev.pos (by omega) (Ev.pos (by rw [hm]; omega) (Ev.pos (by rw [hm]; omega) (Ev.bind (a := X local_ own sp vs 0) ⟨0, fun q _ => ?_⟩ ?_)))
        · rw [hm, toNat_cast]
          refine put_zero local_ own sp vs q m (by omega) hm1 (fun i hi => ?_)
          have : (m : Int) = mn (own.size : Int) (mx local_ 0) := hm.symm
          unfold mn mx at this
          constructor
          · intro hc
            (repeat' split at this) <;> omega
          · intro hc
            (repeat' split at this) <;> omega
        · rw [hmn]
          exact inputs_ev local_ own sp vs hv' hs (min sp.length vs.length) (by omega) (by omega) (by omega) (min sp.length vs.length) 0 (by omega)
      have href : Ev (fun k => fuglemanref19_Inputs.f k local_ own sp vs) (strOfNums (X local_ own sp vs (min sp.length vs.length))) := by
        refine Ev.pos (by omega) ?_
        rw [← Y_begin local_ own sp vs (min sp.length vs.length)]
        exact ref_outer local_ own sp vs hv' hs (by omega) _ rfl 64 0 (by omega)
      refine Ev.step (fun k => rfl) (Ev.neg (by omega) (Ev.bind hin (Ev.bind href ?_)))
      exact Ev.to (by simp) (Ev.now _)
    | succ d ih =>
      intro i hi hv
      refine Ev.step (fun k => rfl) (Ev.pos (by omega) (Ev.pos (by omega) (Ev.pos (by omega) (Ev.ite (fun _ => Ev.now _) fun hc => ?_))))
      rw [wrap64_nat (n := 1000) (by omega) (by omega)]
      refine ih (i + 1) (by omega) (fun k hk => ?_)
      by_cases e : k = i
      · subst e
        omega
      · exact hv k (by omega)
  exact hloop vs.length 0 (by omega) (fun k hk => by omega)

end Go.Proofs.Ytpjpjamaimahaaa.Pure
