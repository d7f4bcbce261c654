/- Stores, what a commit leaves in them: plain. -/
import Derived.Test.YthdiljjbcaleoaaDoorProg
import Derived.KernelRfl
import Derived.Test.YthdiljjbcaleoaaDoorMg53f7c5e6
import Derived.Test.YthdiljjbcaleoaaDoorMged84d077
namespace Go.Proofs.YthdiljjbcaleoaaDoor.Ret
open Go Go.Proofs.YthdiljjbcaleoaaDoor.Sym
set_option linter.unusedVariables false
set_option linter.unusedSimpArgs false
structure Sto where
  b : List Int
  dark : Bool
  armed : Bool
  left : Nat
  wrote : Int
def i64 (x : Int) : Int := IntKind.i64.wrap x
/-- How many bytes are written. -/
def Sto.can (d : Sto) (n : Nat) : Nat := if d.armed = true then min n d.left else n
/-- Bytes from a place on that is there; the error. -/
def wr (d : Sto) (at_ : Nat) (m : List Int) : Int × Sto :=
  if d.dark = true then (12, d) else
  if d.can m.length < m.length then (12, ⟨putI d.b at_ (m.take (d.can m.length)), true, false, 0, i64 (d.wrote + d.can m.length)⟩)
  else (0, ⟨putI d.b at_ m, false, d.armed, if d.armed = true then d.left - m.length else d.left, i64 (d.wrote + m.length)⟩)
/-- A commit's bytes. -/
def wr3 (d : Sto) (at_ : Nat) (s : List Int) : Int × Sto :=
  let p := wr d at_ [0]
  if p.1 ≠ 0 then p else
  let q := wr p.2 (at_ + 1) s
  if q.1 ≠ 0 then q else wr q.2 at_ [165]
def nwL (b : List Int) : Option (Nat × Rec) := if b.length < 148 then none else nwB b
def wasR (o : Option (Nat × Rec)) : Rec := match o with
  | some (_, r) => r
  | none => Rec.z
def toAt (o : Option (Nat × Rec)) : Nat := match o with
  | some (i, _) => 1 - i
  | none => 0
/-- A commit: the error, the store behind it. -/
def cmt (d : Sto) (inc : Nat) (data : ByteArray) : Int × Sto :=
  if (wasR (nwL d.b)).seq = 4294967295 then (13, d) else
  if d.b.length < 148 then (1, d) else
  wr3 d (74 * toAt (nwL d.b)) (sealL (b0 ⟨(wasR (nwL d.b)).seq + 1, inc, data⟩))
/-- The bytes behind a commit of which so many are written. -/
def tornB (b : List Int) (at_ : Nat) (s : List Int) (n : Nat) : List Int :=
  if n = 0 then b else
  if n < s.length + 2 then putI (putI b at_ [0]) (at_ + 1) (s.take (n - 1)) else putI (putI (putI b at_ [0]) (at_ + 1) s) at_ [165]
theorem wr3_all {d : Sto} {at_ : Nat} {s : List Int} (hd : d.dark = false) (h : d.armed = false ∨ s.length + 2 ≤ d.left) : ∃ l w, wr3 d at_ s = (0, ⟨tornB d.b at_ s (s.length + 2), false, d.armed, l, w⟩) ∧ (d.armed = true → l = d.left - (s.length + 2)) ∧ (d.armed = false → l = d.left) := by
  unfold wr3 wr Sto.can tornB
  rcases h with h | h
  · simp [hd, h]
  · cases ha : d.armed
    · simp [hd, ha]
    · have n1 : ¬ d.left < 1 := by omega
      have m1 : min 1 d.left = 1 := by omega
      have m2 : min s.length (d.left - 1) = s.length := by omega
      have m3 : min 1 (d.left - 1 - s.length) = 1 := by omega
      simp [hd, ha, m1, m2, m3]
      omega
theorem wr3_torn {d : Sto} {at_ : Nat} {s : List Int} (hd : d.dark = false) (ha : d.armed = true) (h : d.left < s.length + 2) : ∃ w, wr3 d at_ s = (12, ⟨tornB d.b at_ s d.left, true, false, 0, w⟩) := by
  unfold wr3 wr Sto.can tornB
  by_cases c0 : d.left = 0
  · simp [hd, ha, c0, putI]
  have m1 : min 1 d.left = 1 := by omega
  by_cases c1 : d.left < s.length + 1
  · have m2 : min s.length (d.left - 1) = d.left - 1 := by omega
    have m3 : d.left - 1 < s.length := by omega
    simp [hd, ha, m1, m2, m3, c0, h]
  · have m2 : min s.length (d.left - 1) = s.length := by omega
    have m3 : d.left - 1 - s.length = 0 := by omega
    have m4 : s.take (d.left - 1) = s := List.take_of_length_le (by omega)
    simp [hd, ha, m1, m2, m3, c0, h, m4, putI]
theorem wr3_dark {d : Sto} {at_ : Nat} {s : List Int} (hd : d.dark = true) : wr3 d at_ s = (12, d) := by
  unfold wr3 wr
  simp [hd]
theorem tornB_len {b : List Int} {at_ : Nat} {s : List Int} {n : Nat} : (tornB b at_ s n).length = b.length := by
  unfold tornB
  split
  · rfl
  split
  · rw [putI_len, putI_len]
  · rw [putI_len, putI_len, putI_len]
theorem by_tornB {b : List Int} {at_ : Nat} {s : List Int} {n : Nat} (hb : By b) (hs : By s) : By (tornB b at_ s n) := by
  unfold tornB
  split
  · exact hb
  have h0 : By [0] := .cons (by decide) .nil
  have h1 : By [165] := .cons (by decide) .nil
  split
  · exact (hb.putI h0 _).putI (hs.take _) _
  · exact ((hb.putI h0 _).putI hs _).putI h1 _
theorem slot_torn_other {b : List Int} {at_ k : Nat} {s : List Int} {n : Nat} (hk : k ≠ at_) (hs : s.length = 73) : slotAt (tornB b (74 * at_) s n) k = slotAt b k := by
  unfold tornB
  split
  · rfl
  have e0 : ∀ c : List Int, slotAt (putI c (74 * at_) [0]) k = slotAt c k := fun c => slot_other (i := 0) hk (by simp)
  have e1 : ∀ c : List Int, slotAt (putI c (74 * at_) [165]) k = slotAt c k := fun c => slot_other (i := 0) hk (by simp)
  split
  · rw [slot_other (i := 1) hk (by rw [List.length_take]; omega), e0]
  · rw [e1, slot_other (i := 1) hk (by omega), e0]
theorem slot_torn {b : List Int} {at_ : Nat} {s : List Int} {n : Nat} (hb : 74 * at_ + 74 ≤ b.length) (hs : s.length = 73) (h0 : n ≠ 0) (hn : n < 75) : prs (slotAt (tornB b (74 * at_) s n) at_) = none := by
  refine prs_mark ?_
  unfold tornB
  rw [if_neg h0, if_pos (by omega), slot_put (i := 1) (by rw [List.length_take]; omega) (by rw [putI_len]; exact hb)]
  have e0 : slotAt (putI b (74 * at_) [0]) at_ = putI (slotAt b at_) 0 [0] := slot_put (i := 0) (by simp) hb
  rw [e0, putI_get, if_neg (by omega), putI_get, if_pos (by rw [slot_len' hb]; simp)]
  simp
theorem slot_whole {b : List Int} {at_ : Nat} {s : List Int} {n : Nat} (hb : 74 * at_ + 74 ≤ b.length) (hs : s.length = 73) (hn : 75 ≤ n) : slotAt (tornB b (74 * at_) s n) at_ = 165 :: s := by
  unfold tornB
  rw [if_neg (by omega), if_neg (by omega)]
  have e0 : slotAt (putI b (74 * at_) [0]) at_ = putI (slotAt b at_) 0 [0] := slot_put (i := 0) (by simp) hb
  have e1 : ∀ c : List Int, 74 * at_ + 74 ≤ c.length → slotAt (putI c (74 * at_) [165]) at_ = putI (slotAt c at_) 0 [165] := fun c hc => slot_put (i := 0) (by simp) hc
  rw [e1 _ (by rw [putI_len, putI_len]; exact hb), slot_put (i := 1) (by omega) (by rw [putI_len]; exact hb), e0]
  apply List.ext_getElem?
  intro j
  have hl := slot_len' hb
  rw [putI_get, putI_get, putI_get, putI_len, putI_len, hl]
  by_cases c : j = 0
  · subst c
    rw [if_pos (by simp)]
    rfl
  · rw [if_neg (by simp; omega)]
    by_cases c2 : j < 74
    · rw [if_pos (by omega), show j = (j - 1) + 1 by omega, List.getElem?_cons_succ]
      simp
    · rw [if_neg (by omega), if_neg (by simp; omega), List.getElem?_eq_none (by omega), List.getElem?_eq_none (by simp; omega)]
theorem nw_at {p q : Option Rec} {i : Nat} {r : Rec} (h : nw p q = some (i, r)) : (i = 0 ∧ p = some r ∧ ∀ s, q = some s → s.seq ≤ r.seq) ∨ (i = 1 ∧ q = some r ∧ ∀ s, p = some s → s.seq < r.seq) := by
  unfold nw at h
  split at h
  · cases h
  · cases h
    exact Or.inl ⟨rfl, rfl, fun s e => by cases e⟩
  · cases h
    exact Or.inr ⟨rfl, rfl, fun s e => by cases e⟩
  · rename_i a b
    split at h
    · rename_i c
      cases h
      exact Or.inr ⟨rfl, rfl, fun s e => by cases e; exact c⟩
    · rename_i c
      cases h
      exact Or.inl ⟨rfl, rfl, fun s e => by cases e; omega⟩
theorem nw_none {p q : Option Rec} (h : nw p q = none) : p = none ∧ q = none := by
  unfold nw at h
  split at h
  · exact ⟨rfl, rfl⟩
  · cases h
  · cases h
  · split at h <;> cases h
/-- Torn: what was newest still is. -/
theorem nw_torn {b : List Int} {s : List Int} {n : Nat} (hb : 148 ≤ b.length) (hs : s.length = 73) (hn : n < 75) : nwB (tornB b (74 * toAt (nwB b)) s n) = nwB b := by
  by_cases h0 : n = 0
  · unfold tornB
    rw [if_pos h0]
  cases h : nwB b with
  | none =>
    obtain ⟨h1, h2⟩ := nw_none h
    show nw (prs (slotAt (tornB b (74 * 0) s n) 0)) (prs (slotAt (tornB b (74 * 0) s n) 1)) = none
    rw [slot_torn (by omega) hs h0 hn, slot_torn_other (by decide) hs, h2]
    rfl
  | some p =>
    obtain ⟨i, r⟩ := p
    rcases nw_at h with ⟨rfl, h1, h2⟩ | ⟨rfl, h1, h2⟩
    · show nw (prs (slotAt (tornB b (74 * 1) s n) 0)) (prs (slotAt (tornB b (74 * 1) s n) 1)) = some (0, r)
      rw [slot_torn (at_ := 1) (by omega) hs h0 hn, slot_torn_other (by decide) hs, h1]
      rfl
    · show nw (prs (slotAt (tornB b (74 * 0) s n) 0)) (prs (slotAt (tornB b (74 * 0) s n) 1)) = some (1, r)
      rw [slot_torn (at_ := 0) (by omega) hs h0 hn, slot_torn_other (by decide) hs, h1]
      rfl
/-- Whole: the new one is. -/
theorem nw_whole {b : List Int} {inc : Nat} {data : ByteArray} (hb : 148 ≤ b.length) (hr : (⟨(wasR (nwB b)).seq + 1, inc, data⟩ : Rec).In) : nwB (tornB b (74 * toAt (nwB b)) (sealL (b0 ⟨(wasR (nwB b)).seq + 1, inc, data⟩)) 75) = some (toAt (nwB b), ⟨(wasR (nwB b)).seq + 1, inc, data⟩) := by
  have hs : (sealL (b0 ⟨(wasR (nwB b)).seq + 1, inc, data⟩)).length = 73 := by rw [seal_len, b0_len hr]
  have hp : prs (165 :: sealL (b0 ⟨(wasR (nwB b)).seq + 1, inc, data⟩)) = some ⟨(wasR (nwB b)).seq + 1, inc, data⟩ := prs_slot hr
  generalize hsq : sealL (b0 ⟨(wasR (nwB b)).seq + 1, inc, data⟩) = s at *
  cases h : nwB b with
  | none =>
    rw [h] at hp
    obtain ⟨h1, h2⟩ := nw_none h
    show nw (prs (slotAt (tornB b (74 * 0) s 75) 0)) (prs (slotAt (tornB b (74 * 0) s 75) 1)) = _
    rw [slot_whole (by omega) hs (by omega), slot_torn_other (by decide) hs, h2, hp]
    rfl
  | some p =>
    obtain ⟨i, r⟩ := p
    rw [h] at hp
    rcases nw_at h with ⟨rfl, h1, h2⟩ | ⟨rfl, h1, h2⟩
    · show nw (prs (slotAt (tornB b (74 * 1) s 75) 0)) (prs (slotAt (tornB b (74 * 1) s 75) 1)) = _
      rw [slot_whole (at_ := 1) (by omega) hs (by omega), slot_torn_other (by decide) hs, h1, hp]
      show (if r.seq < r.seq + 1 then _ else _) = _
      rw [if_pos (by omega)]
      rfl
    · show nw (prs (slotAt (tornB b (74 * 0) s 75) 0)) (prs (slotAt (tornB b (74 * 0) s 75) 1)) = _
      rw [slot_whole (at_ := 0) (by omega) hs (by omega), slot_torn_other (by decide) hs, h1, hp]
      show (if r.seq + 1 < r.seq then _ else _) = _
      rw [if_neg (by omega)]
      rfl
end Go.Proofs.YthdiljjbcaleoaaDoor.Ret

/- The document's records, its commit: plain. -/
namespace Go.Proofs.YthdiljjbcaleoaaDoor.Ret
open Go Go.Proofs.YthdiljjbcaleoaaDoor.Sym
set_option linter.unusedVariables false
set_option linter.unusedSimpArgs false
/-- What the document reads from a slot. -/
def rdR (l : List Int) : Rec := ⟨num ((l.drop 1).take 4), num ((l.drop 5).take 2), strOfNums ((l.drop 8).take (l.getD 7 0).toNat)⟩
theorem two_num {l : List Int} (h : By l) (hl : l.length = 2) : two (num l) = l := by
  match l, hl with
  | [a, b], _ =>
    have ha := h a (by simp)
    have hb := h b (by simp)
    simp only [two, num, List.foldl_cons, List.foldl_nil, List.cons.injEq, and_true]
    omega
theorem four_num {l : List Int} (h : By l) (hl : l.length = 4) : four (num l) = l := by
  match l, hl with
  | [a, b, c, d], _ =>
    have ha := h a (by simp)
    have hb := h b (by simp)
    have hc := h c (by simp)
    have hd := h d (by simp)
    simp only [four, two, num, List.foldl_cons, List.foldl_nil, List.cons_append, List.nil_append, List.cons.injEq, and_true]
    omega
theorem prs_rd {l : List Int} (hb : By l) (hl : l.length = 74) : prs l = none ∨ prs l = some (rdR l) := by
  dsimp only [prs]
  split
  · refine Or.inr (congrArg some ?_)
    have h6 : ((l.drop 1).take 71).getD 6 0 = l.getD 7 0 := by simp [List.getD_eq_getElem?_getD, List.getElem?_take, List.getElem?_drop]
    rename_i hc
    have h7 := hc.2.2.1
    rw [h6] at h7
    unfold rdR
    rw [h6]
    have e1 : ((l.drop 1).take 71).take 4 = (l.drop 1).take 4 := by rw [List.take_take]; rfl
    have e2 : (((l.drop 1).take 71).drop 4).take 2 = (l.drop 5).take 2 := by rw [List.drop_take, List.take_take, List.drop_drop]; rfl
    have e3 : (((l.drop 1).take 71).drop 7).take (l.getD 7 0).toNat = (l.drop 8).take (l.getD 7 0).toNat := by
      rw [List.drop_take, List.take_take, List.drop_drop, Nat.min_eq_left (by omega)]
    rw [e1, e2, e3]
  · exact Or.inl rfl
theorem rd_in {l : List Int} (hb : By l) (h7 : l.getD 7 0 ≤ 64) : (rdR l).In := by
  have g7 : 0 ≤ l.getD 7 0 := by
    rw [List.getD_eq_getElem?_getD]
    cases h : l[7]? with
    | none => simp
    | some x => exact (hb x (List.mem_of_getElem? h)).1
  have n2 : ∀ m : List Int, By m → m.length ≤ 2 → num m < 65536 := fun m hm hl => by
    match m, hl with
    | [], _ => decide
    | [a], _ =>
      have := hm a (by simp)
      simp only [num, List.foldl_cons, List.foldl_nil]
      omega
    | [a, b], _ =>
      have := hm a (by simp)
      have := hm b (by simp)
      simp only [num, List.foldl_cons, List.foldl_nil]
      omega
  have n4 : ∀ m : List Int, By m → m.length ≤ 4 → num m < 4294967296 := fun m hm hl => by
    match m, hl with
    | [], _ => decide
    | [a], _ =>
      have := hm a (by simp)
      simp only [num, List.foldl_cons, List.foldl_nil]
      omega
    | [a, b], _ =>
      have := hm a (by simp)
      have := hm b (by simp)
      simp only [num, List.foldl_cons, List.foldl_nil]
      omega
    | [a, b, c], _ =>
      have := hm a (by simp)
      have := hm b (by simp)
      have := hm c (by simp)
      simp only [num, List.foldl_cons, List.foldl_nil]
      omega
    | [a, b, c, d], _ =>
      have := hm a (by simp)
      have := hm b (by simp)
      have := hm c (by simp)
      have := hm d (by simp)
      simp only [num, List.foldl_cons, List.foldl_nil]
      omega
  refine ⟨n4 _ ((hb.drop 1).take 4) (by rw [List.length_take]; omega), n2 _ ((hb.drop 5).take 2) (by rw [List.length_take]; omega), ?_⟩
  show (strOfNums _).size ≤ 64
  rw [so_size, List.length_take]
  omega
theorem doc_prs {l : List Int} (hb : By l) (hl : l.length = 74) (h0 : l[0]? = some 165) (h7 : l.getD 7 0 ≤ 64) : (sealL (b0 (rdR l)) = l.drop 1 → prs l = some (rdR l)) ∧ (prs l = some (rdR l) → sealL (b0 (rdR l)) = l.drop 1) := by
  have hin := rd_in hb h7
  constructor
  · intro h
    have e : l = slotL (rdR l) := by
      match l, h0 with
      | a :: m, h0 =>
        simp only [List.getElem?_cons_zero, Option.some.injEq] at h0
        subst h0
        unfold slotL
        rw [h]
        rfl
    have := prs_slot hin
    rw [← e] at this
    exact this
  · intro h
    have hc : crcL 65535 (l.drop 1) = 0 ∧ l[0]? = some 165 ∧ ((l.drop 1).take 71).getD 6 0 ≤ 64 ∧ (((l.drop 1).take 71).drop (7 + (((l.drop 1).take 71).getD 6 0).toNat)).all (· == 0) = true := by
      dsimp only [prs] at h
      split at h
      · assumption
      · cases h
    have hu := seal_of (hb.drop 1) 71 (by rw [List.length_drop]; omega) hc.1
    rw [hu]
    congr 1
    have h6 : ((l.drop 1).take 71).getD 6 0 = l.getD 7 0 := by simp [List.getD_eq_getElem?_getD, List.getElem?_take, List.getElem?_drop]
    rw [h6] at hc
    have hz := hc.2.2.2
    have hbi := (hb.drop 1).take 71
    have hli : ((l.drop 1).take 71).length = 71 := by rw [List.length_take, List.length_drop]; omega
    have e1 : (l.drop 1).take 4 = ((l.drop 1).take 71).take 4 := by rw [List.take_take]; rfl
    have e2 : (l.drop 5).take 2 = (((l.drop 1).take 71).drop 4).take 2 := by rw [List.drop_take, List.take_take, List.drop_drop]; rfl
    have e3 : (l.drop 8).take (l.getD 7 0).toNat = (((l.drop 1).take 71).drop 7).take (l.getD 7 0).toNat := by
      rw [List.drop_take, List.take_take, List.drop_drop, Nat.min_eq_left (by omega)]
    have hs7 : ((l.drop 1).take 71)[6]? = some (l.getD 7 0) := by
      rw [List.getElem?_take_of_lt (by omega), List.getElem?_drop, List.getD_eq_getElem?_getD, List.getElem?_eq_getElem (by omega)]
      rfl
    have g7 : 0 ≤ l.getD 7 0 := by
      have := hbi _ (List.mem_of_getElem? hs7)
      exact this.1
    unfold rdR
    rw [e1, e2, e3]
    generalize (l.drop 1).take 71 = i at *
    generalize l.getD 7 0 = q at *
    unfold b0
    rw [four_num (hbi.take 4) (by rw [List.length_take]; omega), two_num ((hbi.drop 4).take 2) (by rw [List.length_take, List.length_drop]; omega), so_nums ((hbi.drop 7).take _), so_size, List.length_take, List.length_drop, hli, Nat.min_eq_left (by omega)]
    have hz2 : i.drop (7 + q.toNat) = List.replicate (64 - q.toNat) 0 := by
      apply List.eq_replicate_iff.2
      refine ⟨by rw [List.length_drop]; omega, fun x hx => ?_⟩
      simpa using List.all_eq_true.1 hz x hx
    rw [← hz2]
    have p1 : i = i.take 4 ++ i.drop 4 := (List.take_append_drop 4 i).symm
    have p2 : i.drop 4 = (i.drop 4).take 2 ++ i.drop 6 := by rw [← List.drop_drop (i := 2) (j := 4)]; exact (List.take_append_drop 2 _).symm
    have p3 : i.drop 6 = [((q.toNat : Nat) : Int)] ++ i.drop 7 := by
      have h := List.drop_eq_getElem_cons (l := i) (i := 6) (by omega)
      rw [List.getElem?_eq_getElem (by omega)] at hs7
      simp only [Option.some.injEq] at hs7
      rw [h, hs7, show ((q.toNat : Nat) : Int) = q by omega]
      rfl
    have p4 : i.drop 7 = (i.drop 7).take q.toNat ++ i.drop (7 + q.toNat) := by rw [← List.drop_drop (i := q.toNat) (j := 7)]; exact (List.take_append_drop _ _).symm
    conv => rhs; rw [p1, p2, p3, p4]
    simp only [List.append_assoc]
/-- The document's parse. -/
def docP (l : List Int) : Option Rec := if l[0]? = some 165 ∧ l.getD 7 0 ≤ 64 ∧ sealL (b0 (rdR l)) = l.drop 1 then some (rdR l) else none
theorem docP_prs {l : List Int} (hb : By l) (hl : l.length = 74) : docP l = prs l := by
  unfold docP
  by_cases h0 : l[0]? = some 165
  · by_cases h7 : l.getD 7 0 ≤ 64
    · obtain ⟨d1, d2⟩ := doc_prs hb hl h0 h7
      by_cases h : sealL (b0 (rdR l)) = l.drop 1
      · rw [if_pos ⟨h0, h7, h⟩, d1 h]
      · rw [if_neg fun c => h c.2.2]
        rcases prs_rd hb hl with e | e
        · exact e.symm
        · exact absurd (d2 e) h
    · rw [if_neg fun c => h7 c.2.1]
      symm
      refine if_neg fun c => h7 ?_
      have h6 : ((l.drop 1).take 71).getD 6 0 = l.getD 7 0 := by simp [List.getD_eq_getElem?_getD, List.getElem?_take, List.getElem?_drop]
      rw [← h6]
      exact c.2.2.1
  · rw [if_neg fun c => h0 c.1, prs_mark h0]
/-! ### byte by byte -/
def plc (at_ i : Nat) : Nat := if i = 74 then at_ else at_ + i
def byt (s : List Int) (i : Nat) : Int := if i = 0 then 0 else if i = 74 then 165 else s.getD (i - 1) 0
def seqB (b : List Int) (at_ : Nat) (s : List Int) : Nat → List Int
  | 0 => b
  | i + 1 => (seqB b at_ s i).set (plc at_ i) (byt s i)
theorem putI_snoc {b m : List Int} {i : Nat} {x : Int} : putI b i (m ++ [x]) = (putI b i m).set (i + m.length) x := by
  induction m generalizing b i with
  | nil => rfl
  | cons y m ih =>
    show putI (b.set i y) (i + 1) (m ++ [x]) = (putI (b.set i y) (i + 1) m).set (i + (m.length + 1)) x
    rw [ih]
    congr 1
    omega
theorem seqB_put {b : List Int} {at_ : Nat} {s : List Int} (hs : s.length = 73) : ∀ n, n ≤ 73 → seqB b at_ s (n + 1) = putI (putI b at_ [0]) (at_ + 1) (s.take n)
  | 0, _ => by simp [seqB, plc, byt, putI]
  | n + 1, h => by
    have ht : s.take (n + 1) = s.take n ++ [s.getD n 0] := by rw [List.take_add_one, List.getD_eq_getElem?_getD, List.getElem?_eq_getElem (by omega)]; rfl
    rw [ht, putI_snoc, ← seqB_put hs n (by omega), seqB, List.length_take, Nat.min_eq_left (by omega)]
    unfold plc byt
    rw [if_neg (by omega), if_neg (by omega), if_neg (by omega), show n + 1 - 1 = n by omega, show at_ + (n + 1) = at_ + 1 + n by omega]
theorem seqB_torn {b : List Int} {at_ : Nat} {s : List Int} (hs : s.length = 73) {n : Nat} (hn : n ≤ 75) : seqB b at_ s n = tornB b at_ s n := by
  unfold tornB
  by_cases h0 : n = 0
  · subst h0; rfl
  rw [if_neg h0]
  obtain ⟨m, rfl⟩ : ∃ m, n = m + 1 := ⟨n - 1, by omega⟩
  by_cases h1 : m + 1 < s.length + 2
  · rw [if_pos h1, seqB_put hs m (by omega)]
    rfl
  · obtain rfl : m = 74 := by omega
    rw [if_neg h1, seqB, seqB_put hs 73 (by omega), List.take_of_length_le (by omega)]
    rfl
theorem seqB_len {b : List Int} {at_ : Nat} {s : List Int} : ∀ n, (seqB b at_ s n).length = b.length
  | 0 => rfl
  | n + 1 => by rw [seqB, List.length_set, seqB_len n]
end Go.Proofs.YthdiljjbcaleoaaDoor.Ret

/- Sums: the program's. -/
namespace Go.Proofs.YthdiljjbcaleoaaDoor.Ret
open Go Go.Proofs.YthdiljjbcaleoaaDoor.Sym Go.Proofs.YthdiljjbcaleoaaDoor.Tab
set_option linter.unusedVariables false
set_option linter.unusedSimpArgs false
set_option maxHeartbeats 4000000
set_option maxRecDepth 20000
abbrev sv (l : List Int) : AV := .v (.string (strOfNums l))
theorem and15 {n : Nat} (hn : n < 65536) : bitsV .and .u16 (n : Int) 15 = ((n % 16 : Nat) : Int) := by
  have h := ba16 n 15 hn (by decide)
  rw [show ((15 : Nat) : Int) = 15 from rfl] at h
  rw [h, show 15 = 2 ^ 4 - 1 from rfl, Nat.and_two_pow_sub_one_eq_mod]
theorem quarter_a (k n : Nat) (hn : n < 65536) : acall T (k + 1) 89 0 [.v (.int .u16 n)] [] = some ⟨.v (.int .u16 (qt n)), [], 0⟩ := by
  rw [acall_go (body := b_crc_quarter) rfl rfl (Nat.zero_le _)]
  have h := and15 hn
  rw [← qt_mod]
  have hm : n % 16 < 16 := Nat.mod_lt _ (by decide)
  generalize n % 16 = m at *
  have hc : m = 0 ∨ m = 1 ∨ m = 2 ∨ m = 3 ∨ m = 4 ∨ m = 5 ∨ m = 6 ∨ m = 7 ∨ m = 8 ∨ m = 9 ∨ m = 10 ∨ m = 11 ∨ m = 12 ∨ m = 13 ∨ m = 14 ∨ m = 15 := by omega
  rcases hc with rfl | rfl | rfl | rfl | rfl | rfl | rfl | rfl | rfl | rfl | rfl | rfl | rfl | rfl | rfl | rfl
  all_goals
    simp -implicitDefEqProofs only [eqs, eqd, aCall, Sym.reach, Sym.pos, Sym.sub, lh_some, ↓reduceIte, reduceCtorEq, Nat.reduceEqDiff, Nat.reduceAdd, Nat.reduceSub, Nat.reduceMul, Nat.reduceLT, Nat.reduceLeDiff, Nat.reduceBEq, Nat.reduceBNe, Nat.reduceGT, Int.reduceEq, Int.reduceLT, Int.reduceLE, Int.reduceToNat, Int.reduceAdd, Int.reduceSub, Int.reduceMul, Int.reduceNeg, Int.reduceBEq, Int.reduceBNe, b_crc_quarter, h]
    rfl
def mst (s : Nat) (l : List Int) (i : Nat) : St := ⟨[(0, .v (.int .u16 s)), (1, sv l), (8, .v (.int .i64 l.length)), (9, .v (.int .i64 i))], [], 0, []⟩
theorem more_next (k lf s : Nat) (hs : s < 65536) (l : List Int) (hl : By l) (hL : l.length ≤ 2000) (i : Nat) (hi : i < l.length) (N : Nat) (ks : List It) : Lh (acall T (k + 1)) lf (some (mst s l i)) [0, 1, 8, 9] l_crc_More_0 (N + 1) ks = Lh (acall T (k + 1)) lf (some (mst (stp s (l[i].toNat)) l (i + 1))) [0, 1, 8, 9] l_crc_More_0 N ks := by
  have c1 : (i : Int) < l.length := by omega
  have w1 : IntKind.i64.wrap ((i : Int) + 1) = ((i + 1 : Nat) : Int) := by rw [w64 (by omega) (by omega)]; omega
  have hx := so_ix hl hi
  obtain ⟨b1, b2⟩ := hl.get hi
  obtain ⟨c, hc⟩ : ∃ c : Nat, l[i] = c := ⟨l[i].toNat, by omega⟩
  rw [hc] at hx b1 b2 ⊢
  rw [Int.toNat_natCast]
  have w2 : IntKind.u16.wrap (c : Int) = c := wu16 (by omega) (by omega)
  have f1 : ∀ s : Nat, ((s : Int).fdiv (2 ^ min 12 IntKind.u16.bits)) = ((s / 4096 : Nat) : Int) := fun s => by
    show (s : Int).fdiv 4096 = _
    rw [Int.fdiv_eq_ediv_of_nonneg _ (by decide)]
    rfl
  have f2 : ((c : Int).fdiv (2 ^ min 4 IntKind.u16.bits)) = ((c / 16 : Nat) : Int) := by
    show (c : Int).fdiv 16 = _
    rw [Int.fdiv_eq_ediv_of_nonneg _ (by decide)]
    rfl
  have f3 : ∀ s : Nat, IntKind.u16.wrap ((s : Int) * 2 ^ min 4 IntKind.u16.bits) = ((s * 16 % 65536 : Nat) : Int) := fun s => by
    show IntKind.u16.wrap ((s : Int) * 16) = _
    have h : ∀ x : Int, IntKind.u16.wrap x = x % 65536 := fun x => by simp [IntKind.wrap, IntKind.bits, IntKind.signed]
    rw [h]
    omega
  have hs1 := st4_lt s (c / 16)
  have x1 := bx16 (s / 4096) (c / 16) (by omega) (by omega)
  have hx1 : s / 4096 ^^^ c / 16 < 65536 := Nat.xor_lt_two_pow (n := 16) (by omega) (by omega)
  have q1 := quarter_a k _ hx1
  have x2 := bx16 (s * 16 % 65536) (qt (s / 4096 ^^^ c / 16)) (Nat.mod_lt _ (by decide)) (qt_lt _)
  have e1 : (s * 16 % 65536) ^^^ qt (s / 4096 ^^^ c / 16) = st4 s (c / 16) := rfl
  rw [e1] at x2
  generalize hv : st4 s (c / 16) = v at *
  have x3 := bx16 (v / 4096) c (by omega) (by omega)
  have hx3 : v / 4096 ^^^ c < 65536 := Nat.xor_lt_two_pow (n := 16) (by omega) (by omega)
  have q2 := quarter_a k _ hx3
  have x4 := bx16 (v * 16 % 65536) (qt (v / 4096 ^^^ c)) (Nat.mod_lt _ (by decide)) (qt_lt _)
  have e2 : (v * 16 % 65536) ^^^ qt (v / 4096 ^^^ c) = stp s c := by rw [stp, hv]; rfl
  rw [e2] at x4
  unfold mst
  rw [lh_as l_crc_More_0.eq_1]
  generalize stp s c = u at *
  simp -implicitDefEqProofs only [eqs, eqd, aCall, Sym.reach, Sym.pos, Sym.sub, ↓reduceIte, reduceCtorEq, Nat.reduceEqDiff, Nat.reduceAdd, Nat.reduceSub, Nat.reduceMul, Nat.reduceLT, Nat.reduceLeDiff, Nat.reduceBEq, Nat.reduceBNe, Nat.reduceGT, Int.reduceEq, Int.reduceLT, Int.reduceLE, Int.reduceToNat, Int.reduceAdd, Int.reduceSub, Int.reduceMul, Int.reduceNeg, Int.reduceBEq, Int.reduceBNe, nx_nil, sv, c1, w1, w2, hx, f1, f2, f3, x1, q1, x2, x3, q2, x4]
noncomputable abbrev mfin (C : CT) (lf : Nat) (s : St) (N : Nat) : Option Res := FnR [.t 4] false false (Lh C lf (some s) [0, 1, 8, 9] l_crc_More_0 N [.b 0, .c l_crc_More_1])
theorem more_end (C : CT) (lf s : Nat) (l : List Int) (N : Nat) : mfin C lf (mst s l l.length) N = some ⟨.v (.int .u16 s), [], 0⟩ := by
  have c1 : ¬ (l.length : Int) < l.length := by omega
  unfold mfin mst
  rw [lh_as l_crc_More_0.eq_1]
  simp -implicitDefEqProofs only [eqs, eqd, aCall, Sym.reach, Sym.pos, Sym.sub, ↓reduceIte, reduceCtorEq, Nat.reduceEqDiff, Nat.reduceAdd, Nat.reduceSub, Nat.reduceMul, Nat.reduceLT, Nat.reduceLeDiff, Nat.reduceBEq, Nat.reduceBNe, Nat.reduceGT, Int.reduceEq, Int.reduceLT, Int.reduceLE, Int.reduceToNat, Int.reduceAdd, Int.reduceSub, Int.reduceMul, Int.reduceNeg, Int.reduceBEq, Int.reduceBNe, nx_nil, l_crc_More_1, sv, c1]
theorem more_run (k lf : Nat) (l : List Int) (hl : By l) (hL : l.length ≤ 2000) : ∀ (m i s N : Nat), i + m = l.length → m ≤ N → s < 65536 → mfin (acall T (k + 1)) lf (mst s l i) N = some ⟨.v (.int .u16 (crcL s (l.drop i))), [], 0⟩
  | 0, i, s, N, hi, hN, hs => by
    obtain rfl : i = l.length := by omega
    rw [List.drop_length]
    exact more_end _ lf s l N
  | m + 1, i, s, N, hi, hN, hs => by
    obtain ⟨N, rfl⟩ : ∃ M, N = M + 1 := ⟨N - 1, by omega⟩
    have h := more_run k lf l hl hL m (i + 1) (stp s (l[i].toNat)) N (by omega) (by omega) (stp_lt _ _)
    unfold mfin at h ⊢
    rw [more_next k lf s hs l hl hL i (by omega) N, h, List.drop_eq_getElem_cons (l := l) (i := i) (by omega)]
    rfl
theorem more_a (k : Nat) (hk : 2001 ≤ k) (s : Nat) (hs : s < 65536) (l : List Int) (hl : By l) (hL : l.length ≤ 2000) : acall T (k + 2) 82 0 [.v (.int .u16 s), sv l] [] = some ⟨.v (.int .u16 (crcL s l)), [], 0⟩ := by
  have key := more_run k (k + 1) l hl hL l.length 0 s k (by omega) (by omega) hs
  rw [List.drop_zero] at key
  rw [acall_go (body := b_crc_More) rfl rfl (Nat.zero_le _), ← key]
  clear key
  have lp : ∀ (ks : List It) (s : St), Lp (acall T (k + 1)) (k + 1) [0, 1, 8, 9] l_crc_More_0 (k + 1) ks s = Lh (acall T (k + 1)) (k + 1) (canon [0, 1, 8, 9] s) [0, 1, 8, 9] l_crc_More_0 k ks := fun ks s => lp_succ (n := k)
  have h1 : (strOfNums l).size = l.length := so_size l
  unfold mfin mst
  simp -implicitDefEqProofs only [eqs, eqd, aCall, Sym.reach, Sym.pos, Sym.sub, ↓reduceIte, reduceCtorEq, Nat.reduceEqDiff, Nat.reduceAdd, Nat.reduceSub, Nat.reduceMul, Nat.reduceLT, Nat.reduceLeDiff, Nat.reduceBEq, Nat.reduceBNe, Nat.reduceGT, Int.reduceEq, Int.reduceLT, Int.reduceLE, Int.reduceToNat, Int.reduceAdd, Int.reduceSub, Int.reduceMul, Int.reduceNeg, Int.reduceBEq, Int.reduceBNe, b_crc_More, sv, lp, h1, Int.natCast_zero]
theorem sum_a (k : Nat) (hk : 2001 ≤ k) (l : List Int) (hl : By l) (hL : l.length ≤ 2000) : acall T (k + 3) 66 0 [sv l] [] = some ⟨.v (.int .u16 (crcL 65535 l)), [], 0⟩ := by
  have h := more_a k hk 65535 (by decide) l hl hL
  rw [show ((65535 : Nat) : Int) = 65535 from rfl] at h
  rw [acall_go (body := b_crc_Sum) rfl rfl (Nat.zero_le _)]
  simp -implicitDefEqProofs only [eqs, eqd, aCall, Sym.reach, Sym.pos, Sym.sub, lh_some, ↓reduceIte, reduceCtorEq, Nat.reduceEqDiff, Nat.reduceAdd, Nat.reduceSub, Nat.reduceMul, Nat.reduceLT, Nat.reduceLeDiff, Nat.reduceBEq, Nat.reduceBNe, Nat.reduceGT, Int.reduceEq, Int.reduceLT, Int.reduceLE, Int.reduceToNat, Int.reduceAdd, Int.reduceSub, Int.reduceMul, Int.reduceNeg, Int.reduceBEq, Int.reduceBNe, b_crc_Sum, sv, h]
end Go.Proofs.YthdiljjbcaleoaaDoor.Ret

/- Sums: the document's; sealed texts. -/
namespace Go.Proofs.YthdiljjbcaleoaaDoor.Ret
open Go Go.Proofs.YthdiljjbcaleoaaDoor.Sym Go.Proofs.YthdiljjbcaleoaaDoor.Tab
set_option linter.unusedVariables false
set_option linter.unusedSimpArgs false
set_option maxHeartbeats 4000000
set_option maxRecDepth 20000
theorem bx64 (a b : Nat) (ha : a < 9223372036854775808) (hb : b < 9223372036854775808) : bitsV .xor .i64 (a : Int) (b : Int) = ((a ^^^ b : Nat) : Int) := by
  have hx : a ^^^ b < 2 ^ 63 := Nat.xor_lt_two_pow (by omega) (by omega)
  have h1 : (BitVec.ofInt 64 (a : Int)).toNat = a := by rw [BitVec.ofInt_natCast, BitVec.toNat_ofNat]; exact Nat.mod_eq_of_lt (by omega)
  have h2 : (BitVec.ofInt 64 (b : Int)).toNat = b := by rw [BitVec.ofInt_natCast, BitVec.toNat_ofNat]; exact Nat.mod_eq_of_lt (by omega)
  show IntKind.i64.wrap ((BitVec.ofInt 64 (a : Int) ^^^ BitVec.ofInt 64 (b : Int)).toNat : Int) = _
  rw [BitVec.toNat_xor, h1, h2]
  exact w64 (by omega) (by omega)
theorem bs_lt {n : Nat} (h : n < 65536) : bs n < 65536 := by rw [bs_bl h]; exact bl_lt h
def ist (n : Nat) (l : List Int) (i j : Nat) : St := ⟨[(1, sv l), (5, .v (.int .i64 n)), (6, .v (.int .i64 i)), (7, .v (.int .i64 j))], [], 0, []⟩
theorem bit_next (C : CT) (lf n : Nat) (hn : n < 65536) (l : List Int) (i j : Nat) (hj : j < 8) (N : Nat) (ks : List It) : Lh C lf (some (ist n l i j)) [1, 5, 6, 7] l_fuglemanref01_More_1 (N + 1) ks = Lh C lf (some (ist (bs n) l i (j + 1))) [1, 5, 6, 7] l_fuglemanref01_More_1 N ks := by
  have c1 : (j : Int) < 8 := by omega
  have w1 : IntKind.i64.wrap ((j : Int) + 1) = ((j + 1 : Nat) : Int) := by rw [w64 (by omega) (by omega)]; omega
  have w2 : IntKind.i64.wrap (2 * (n : Int)) = ((2 * n : Nat) : Int) := by rw [w64 (by omega) (by omega)]; omega
  unfold ist
  rw [lh_as l_fuglemanref01_More_1.eq_1]
  by_cases c : 65536 ≤ 2 * n
  · have c2 : (65536 : Int) ≤ ((2 * n : Nat) : Int) := by omega
    have w3 : IntKind.i64.wrap (((2 * n : Nat) : Int) - 65536) = ((2 * n - 65536 : Nat) : Int) := by rw [w64 (by omega) (by omega)]; omega
    have x1 := bx64 (2 * n - 65536) 4129 (by omega) (by decide)
    rw [show ((4129 : Nat) : Int) = 4129 from rfl] at x1
    have hb : bs n = (2 * n - 65536) ^^^ 4129 := if_pos c
    rw [← hb] at x1
    generalize bs n = u at *
    generalize 2 * n = m at *
    generalize m - 65536 = m2 at *
    simp -implicitDefEqProofs only [eqs, eqd, aCall, Sym.reach, Sym.pos, Sym.sub, ↓reduceIte, reduceCtorEq, Nat.reduceEqDiff, Nat.reduceAdd, Nat.reduceSub, Nat.reduceMul, Nat.reduceLT, Nat.reduceLeDiff, Nat.reduceBEq, Nat.reduceBNe, Nat.reduceGT, Int.reduceEq, Int.reduceLT, Int.reduceLE, Int.reduceToNat, Int.reduceAdd, Int.reduceSub, Int.reduceMul, Int.reduceNeg, Int.reduceBEq, Int.reduceBNe, nx_nil, sv, c1, w1, w2, c2, w3, x1]
  · have c2 : ¬ (65536 : Int) ≤ ((2 * n : Nat) : Int) := by omega
    have hb : bs n = 2 * n := if_neg c
    rw [hb]
    generalize 2 * n = m at *
    simp -implicitDefEqProofs only [eqs, eqd, aCall, Sym.reach, Sym.pos, Sym.sub, ↓reduceIte, reduceCtorEq, Nat.reduceEqDiff, Nat.reduceAdd, Nat.reduceSub, Nat.reduceMul, Nat.reduceLT, Nat.reduceLeDiff, Nat.reduceBEq, Nat.reduceBNe, Nat.reduceGT, Int.reduceEq, Int.reduceLT, Int.reduceLE, Int.reduceToNat, Int.reduceAdd, Int.reduceSub, Int.reduceMul, Int.reduceNeg, Int.reduceBEq, Int.reduceBNe, nx_nil, sv, c1, w1, w2, c2]
theorem bit_end (C : CT) (lf n : Nat) (l : List Int) (i : Nat) (N : Nat) (ks : List It) : Lh C lf (some (ist n l i 8)) [1, 5, 6, 7] l_fuglemanref01_More_1 N (.b 2 :: ks) = Nx C lf ks ⟨[(24, .v (.bool false)), (1, sv l), (5, .v (.int .i64 n)), (6, .v (.int .i64 i)), (7, .v (.int .i64 8))], [], 0, []⟩ := by
  unfold ist
  rw [lh_as l_fuglemanref01_More_1.eq_1]
  simp -implicitDefEqProofs only [eqs, eqd, aCall, Sym.reach, Sym.pos, Sym.sub, ↓reduceIte, reduceCtorEq, Nat.reduceEqDiff, Nat.reduceAdd, Nat.reduceSub, Nat.reduceMul, Nat.reduceLT, Nat.reduceLeDiff, Nat.reduceBEq, Nat.reduceBNe, Nat.reduceGT, Int.reduceEq, Int.reduceLT, Int.reduceLE, Int.reduceToNat, Int.reduceAdd, Int.reduceSub, Int.reduceMul, Int.reduceNeg, Int.reduceBEq, Int.reduceBNe, nx_nil, sv]
theorem bit_run (C : CT) (lf n : Nat) (hn : n < 65536) (l : List Int) (i : Nat) (N : Nat) (ks : List It) : Lh C lf (some (ist n l i 0)) [1, 5, 6, 7] l_fuglemanref01_More_1 (N + 8) (.b 2 :: ks) = Nx C lf ks ⟨[(24, .v (.bool false)), (1, sv l), (5, .v (.int .i64 (b8 n))), (6, .v (.int .i64 i)), (7, .v (.int .i64 8))], [], 0, []⟩ := by
  rw [bit_next C lf n hn l i 0 (by decide) (N + 7)]
  rw [bit_next C lf _ (bs_lt hn) l i 1 (by decide) (N + 6)]
  rw [bit_next C lf _ (bs_lt (bs_lt hn)) l i 2 (by decide) (N + 5)]
  rw [bit_next C lf _ (bs_lt (bs_lt (bs_lt hn))) l i 3 (by decide) (N + 4)]
  rw [bit_next C lf _ (bs_lt (bs_lt (bs_lt (bs_lt hn)))) l i 4 (by decide) (N + 3)]
  rw [bit_next C lf _ (bs_lt (bs_lt (bs_lt (bs_lt (bs_lt hn))))) l i 5 (by decide) (N + 2)]
  rw [bit_next C lf _ (bs_lt (bs_lt (bs_lt (bs_lt (bs_lt (bs_lt hn)))))) l i 6 (by decide) (N + 1)]
  rw [bit_next C lf _ (bs_lt (bs_lt (bs_lt (bs_lt (bs_lt (bs_lt (bs_lt hn))))))) l i 7 (by decide) N]
  exact bit_end C lf _ l i N ks
def rst (s : Nat) (l : List Int) (i : Nat) : St := ⟨[(1, sv l), (5, .v (.int .i64 s)), (6, .v (.int .i64 i))], [], 0, []⟩
theorem rmore_next (C : CT) (q s : Nat) (hs : s < 65536) (l : List Int) (hl : By l) (hL : l.length ≤ 2000) (i : Nat) (hi : i < l.length) (N : Nat) (ks : List It) : Lh C (q + 9) (some (rst s l i)) [1, 5, 6] l_fuglemanref01_More_0 (N + 1) ks = Lh C (q + 9) (some (rst (stp s (l[i].toNat)) l (i + 1))) [1, 5, 6] l_fuglemanref01_More_0 N ks := by
  have c1 : (i : Int) < l.length := by omega
  have w1 : IntKind.i64.wrap ((i : Int) + 1) = ((i + 1 : Nat) : Int) := by rw [w64 (by omega) (by omega)]; omega
  have hx := so_ix hl hi
  have hz : (strOfNums l).size = l.length := so_size l
  obtain ⟨b1, b2⟩ := hl.get hi
  obtain ⟨c, hc⟩ : ∃ c : Nat, l[i] = c := ⟨l[i].toNat, by omega⟩
  rw [hc] at hx b1 b2 ⊢
  rw [Int.toNat_natCast]
  have w2 : IntKind.i64.wrap (c : Int) = c := w64 (by omega) (by omega)
  have w3 : IntKind.i64.wrap ((c : Int) * 256) = ((c * 256 : Nat) : Int) := by rw [w64 (by omega) (by omega)]; omega
  have x1 := bx64 s (c * 256) (by omega) (by omega)
  have hx1 : s ^^^ c * 256 < 65536 := Nat.xor_lt_two_pow (n := 16) (by omega) (by omega)
  have br := fun ks => bit_run C (q + 9) _ hx1 l i q ks
  rw [b8_stp hs (by omega)] at br
  unfold ist at br
  unfold rst
  rw [lh_as l_fuglemanref01_More_0.eq_1]
  have lp : ∀ (ks : List It) (s : St), Lp C (q + 9) [1, 5, 6, 7] l_fuglemanref01_More_1 (q + 9) ks s = Lh C (q + 9) (canon [1, 5, 6, 7] s) [1, 5, 6, 7] l_fuglemanref01_More_1 (q + 8) ks := fun ks s => lp_succ (n := q + 8)
  generalize stp s c = u at *
  generalize s ^^^ c * 256 = x at *
  generalize c * 256 = x2 at *
  simp only [sv, Int.natCast_zero] at br
  simp -implicitDefEqProofs only [eqs, eqd, aCall, Sym.reach, Sym.pos, Sym.sub, ↓reduceIte, reduceCtorEq, Nat.reduceEqDiff, Nat.reduceAdd, Nat.reduceSub, Nat.reduceMul, Nat.reduceLT, Nat.reduceLeDiff, Nat.reduceBEq, Nat.reduceBNe, Nat.reduceGT, Int.reduceEq, Int.reduceLT, Int.reduceLE, Int.reduceToNat, Int.reduceAdd, Int.reduceSub, Int.reduceMul, Int.reduceNeg, Int.reduceBEq, Int.reduceBNe, nx_nil, l_fuglemanref01_More_2, sv, hz, c1, w1, w2, w3, hx, x1, lp, br]
noncomputable abbrev rfin (C : CT) (lf : Nat) (s : St) (N : Nat) : Option Res := FnR [.t 4] false false (Lh C lf (some s) [1, 5, 6] l_fuglemanref01_More_0 N [.b 0, .c l_fuglemanref01_More_3])
theorem rmore_end (C : CT) (lf s : Nat) (hs : s < 65536) (l : List Int) (N : Nat) : rfin C lf (rst s l l.length) N = some ⟨.v (.int .u16 s), [], 0⟩ := by
  have c1 : ¬ (l.length : Int) < l.length := by omega
  have hz : (strOfNums l).size = l.length := so_size l
  have w2 : IntKind.u16.wrap (s : Int) = s := wu16 (by omega) (by omega)
  unfold rfin rst
  rw [lh_as l_fuglemanref01_More_0.eq_1]
  simp -implicitDefEqProofs only [eqs, eqd, aCall, Sym.reach, Sym.pos, Sym.sub, ↓reduceIte, reduceCtorEq, Nat.reduceEqDiff, Nat.reduceAdd, Nat.reduceSub, Nat.reduceMul, Nat.reduceLT, Nat.reduceLeDiff, Nat.reduceBEq, Nat.reduceBNe, Nat.reduceGT, Int.reduceEq, Int.reduceLT, Int.reduceLE, Int.reduceToNat, Int.reduceAdd, Int.reduceSub, Int.reduceMul, Int.reduceNeg, Int.reduceBEq, Int.reduceBNe, nx_nil, l_fuglemanref01_More_3, sv, hz, c1, w2]
theorem rmore_run (C : CT) (q : Nat) (l : List Int) (hl : By l) (hL : l.length ≤ 2000) : ∀ (m i s N : Nat), i + m = l.length → m ≤ N → s < 65536 → rfin C (q + 9) (rst s l i) N = some ⟨.v (.int .u16 (crcL s (l.drop i))), [], 0⟩
  | 0, i, s, N, hi, hN, hs => by
    obtain rfl : i = l.length := by omega
    rw [List.drop_length]
    exact rmore_end _ _ s hs l N
  | m + 1, i, s, N, hi, hN, hs => by
    obtain ⟨N, rfl⟩ : ∃ M, N = M + 1 := ⟨N - 1, by omega⟩
    have h := rmore_run C q l hl hL m (i + 1) (stp s (l[i].toNat)) N (by omega) (by omega) (stp_lt _ _)
    unfold rfin at h ⊢
    rw [rmore_next C q s hs l hl hL i (by omega) N, h, List.drop_eq_getElem_cons (l := l) (i := i) (by omega)]
    rfl
theorem rmore_a (k : Nat) (hk : 2009 ≤ k) (s : Nat) (hs : s < 65536) (l : List Int) (hl : By l) (hL : l.length ≤ 2000) : acall T (k + 2) 39 0 [.v (.int .u16 s), sv l] [] = some ⟨.v (.int .u16 (crcL s l)), [], 0⟩ := by
  obtain ⟨q, rfl⟩ : ∃ q, k = q + 8 := ⟨k - 8, by omega⟩
  have key := rmore_run (acall T (q + 9)) q l hl hL l.length 0 s (q + 8) (by omega) (by omega) hs
  rw [List.drop_zero] at key
  rw [acall_go (body := b_fuglemanref01_More) rfl rfl (Nat.zero_le _), ← key]
  clear key
  have lp : ∀ (ks : List It) (s : St), Lp (acall T (q + 9)) (q + 9) [1, 5, 6] l_fuglemanref01_More_0 (q + 9) ks s = Lh (acall T (q + 9)) (q + 9) (canon [1, 5, 6] s) [1, 5, 6] l_fuglemanref01_More_0 (q + 8) ks := fun ks s => lp_succ (n := q + 8)
  have h1 : (strOfNums l).size = l.length := so_size l
  have w2 : IntKind.i64.wrap (s : Int) = s := w64 (by omega) (by omega)
  unfold rfin rst
  simp -implicitDefEqProofs only [eqs, eqd, aCall, Sym.reach, Sym.pos, Sym.sub, ↓reduceIte, reduceCtorEq, Nat.reduceEqDiff, Nat.reduceAdd, Nat.reduceSub, Nat.reduceMul, Nat.reduceLT, Nat.reduceLeDiff, Nat.reduceBEq, Nat.reduceBNe, Nat.reduceGT, Int.reduceEq, Int.reduceLT, Int.reduceLE, Int.reduceToNat, Int.reduceAdd, Int.reduceSub, Int.reduceMul, Int.reduceNeg, Int.reduceBEq, Int.reduceBNe, b_fuglemanref01_More, sv, lp, h1, w2, Int.natCast_zero]
theorem rsum_a (k : Nat) (hk : 2009 ≤ k) (l : List Int) (hl : By l) (hL : l.length ≤ 2000) : acall T (k + 3) 33 0 [sv l] [] = some ⟨.v (.int .u16 (crcL 65535 l)), [], 0⟩ := by
  have h := rmore_a k hk 65535 (by decide) l hl hL
  rw [show ((65535 : Nat) : Int) = 65535 from rfl] at h
  rw [acall_go (body := b_fuglemanref01_Sum) rfl rfl (Nat.zero_le _)]
  simp -implicitDefEqProofs only [eqs, eqd, aCall, Sym.reach, Sym.pos, Sym.sub, lh_some, ↓reduceIte, reduceCtorEq, Nat.reduceEqDiff, Nat.reduceAdd, Nat.reduceSub, Nat.reduceMul, Nat.reduceLT, Nat.reduceLeDiff, Nat.reduceBEq, Nat.reduceBNe, Nat.reduceGT, Int.reduceEq, Int.reduceLT, Int.reduceLE, Int.reduceToNat, Int.reduceAdd, Int.reduceSub, Int.reduceMul, Int.reduceNeg, Int.reduceBEq, Int.reduceBNe, b_fuglemanref01_Sum, sv, h]
theorem u8w (x : Int) : IntKind.u8.wrap x = x % 256 := by simp [IntKind.wrap, IntKind.bits, IntKind.signed]
theorem u16w (x : Int) : IntKind.u16.wrap x = x % 65536 := by simp [IntKind.wrap, IntKind.bits, IntKind.signed]
theorem so_le (a b : List Int) (h : a.length + b.length ≤ 5000) : (strOfNums a).size + (strOfNums b).size ≤ 9223372036854775807 := by
  rw [so_size, so_size]
  omega
theorem sealed_a (k : Nat) (hk : 2001 ≤ k) (l : List Int) (hl : By l) (hL : l.length ≤ 1000) : acall T (k + 4) 46 0 [sv l] [] = some ⟨sv (sealL l), [], 1⟩ := by
  have h := sum_a k hk l hl (by omega)
  have hp := so_le l [hi8 (crcL 65535 l), lo8 (crcL 65535 l)] (by simp; omega)
  have hlt := crcL_lt (s := 65535) (by decide) l
  have e : sealL l = l ++ [hi8 (crcL 65535 l), lo8 (crcL 65535 l)] := rfl
  rw [e]
  have g1 : hi8 (crcL 65535 l) = ((crcL 65535 l / 256 : Nat) : Int) := rfl
  have g2 : lo8 (crcL 65535 l) = ((crcL 65535 l % 256 : Nat) : Int) := rfl
  generalize hi8 (crcL 65535 l) = x at *
  generalize lo8 (crcL 65535 l) = y at *
  generalize crcL 65535 l = s at *
  have w1 : IntKind.u8.wrap ((s : Int).fdiv (2 ^ min 8 IntKind.u16.bits)) = x := by
    show IntKind.u8.wrap ((s : Int).fdiv 256) = x
    rw [Int.fdiv_eq_ediv_of_nonneg _ (by decide), u8w]
    omega
  have w2 : IntKind.u8.wrap (s : Int) = y := by rw [u8w]; omega
  rw [acall_go (body := b_crc_Sealed) rfl rfl (Nat.zero_le _)]
  simp only [sv] at h ⊢
  simp -implicitDefEqProofs only [eqs, eqd, aCall, Sym.reach, Sym.pos, Sym.sub, lh_some, ↓reduceIte, reduceCtorEq, Nat.reduceEqDiff, Nat.reduceAdd, Nat.reduceSub, Nat.reduceMul, Nat.reduceLT, Nat.reduceLeDiff, Nat.reduceBEq, Nat.reduceBNe, Nat.reduceGT, Int.reduceEq, Int.reduceLT, Int.reduceLE, Int.reduceToNat, Int.reduceAdd, Int.reduceSub, Int.reduceMul, Int.reduceNeg, Int.reduceBEq, Int.reduceBNe, b_crc_Sealed, h, w1, w2, toNums, hp, so_app]
theorem rsealed_a (k : Nat) (hk : 2009 ≤ k) (l : List Int) (hl : By l) (hL : l.length ≤ 1000) : acall T (k + 4) 23 0 [sv l] [] = some ⟨sv (sealL l), [], 1⟩ := by
  have h := rsum_a k hk l hl (by omega)
  have hp := so_le l [hi8 (crcL 65535 l), lo8 (crcL 65535 l)] (by simp; omega)
  have hlt := crcL_lt (s := 65535) (by decide) l
  have e : sealL l = l ++ [hi8 (crcL 65535 l), lo8 (crcL 65535 l)] := rfl
  rw [e]
  have g1 : hi8 (crcL 65535 l) = ((crcL 65535 l / 256 : Nat) : Int) := rfl
  have g2 : lo8 (crcL 65535 l) = ((crcL 65535 l % 256 : Nat) : Int) := rfl
  generalize hi8 (crcL 65535 l) = x at *
  generalize lo8 (crcL 65535 l) = y at *
  generalize crcL 65535 l = s at *
  have w1 : IntKind.u8.wrap (IntKind.u16.wrap ((s : Int).tdiv 256)) = x := by
    rw [show ((s : Int).tdiv 256) = ((s / 256 : Nat) : Int) from rfl, u16w, u8w]
    omega
  have w2 : IntKind.u8.wrap ((s : Int).tmod 256) = y := by
    rw [show ((s : Int).tmod 256) = ((s % 256 : Nat) : Int) from rfl, u8w]
    omega
  rw [acall_go (body := b_fuglemanref01_Sealed) rfl rfl (Nat.zero_le _)]
  simp only [sv] at h ⊢
  simp -implicitDefEqProofs only [eqs, eqd, aCall, Sym.reach, Sym.pos, Sym.sub, lh_some, ↓reduceIte, reduceCtorEq, Nat.reduceEqDiff, Nat.reduceAdd, Nat.reduceSub, Nat.reduceMul, Nat.reduceLT, Nat.reduceLeDiff, Nat.reduceBEq, Nat.reduceBNe, Nat.reduceGT, Int.reduceEq, Int.reduceLT, Int.reduceLE, Int.reduceToNat, Int.reduceAdd, Int.reduceSub, Int.reduceMul, Int.reduceNeg, Int.reduceBEq, Int.reduceBNe, b_fuglemanref01_Sealed, h, w1, w2, toNums, hp, so_app]
end Go.Proofs.YthdiljjbcaleoaaDoor.Ret

/- Records as bytes: the program's, the document's. -/
namespace Go.Proofs.YthdiljjbcaleoaaDoor.Ret
open Go Go.Proofs.YthdiljjbcaleoaaDoor.Sym Go.Proofs.YthdiljjbcaleoaaDoor.Tab
set_option linter.unusedVariables false
set_option linter.unusedSimpArgs false
set_option maxHeartbeats 4000000
set_option maxRecDepth 20000
abbrev pn : Sym.Obj := ⟨true, false, true, [.v (.slice none 0 0)]⟩
abbrev pv (n : Nat) : Sym.Obj := ⟨true, false, false, [.view 1 0 n 1 none]⟩
abbrev ro (l : List Int) : Sym.Obj := ⟨true, false, true, bytesV l⟩
theorem bytes_cells {l : List Int} (h : By l) : bytesV (numsOf (strOfNums l)) = bytesV l := by rw [so_nums h]
theorem bytes_app (a b : List Int) : bytesV a ++ bytesV b = bytesV (a ++ b) := by simp [bytesV]
theorem bytes_full (l : List Int) : (bytesV l).take l.length = bytesV l := List.take_of_length_le (by rw [bytesV_length]; exact Nat.le_refl _)
theorem byte0_a (k : Nat) (x : Int) : acall T (k + 1) 59 1 [.ptr 0 0, .v (.int .u8 x)] [pn] = some ⟨.ptr 0 0, [pv 1, ro [x]], 2⟩ := by
  rw [acall_go (body := b_octets_Pen_Byte) rfl rfl (Nat.le_refl 1)]
  have h : [AV.v (.int .u8 x)] = bytesV [x] := rfl
  simp -implicitDefEqProofs only [eqs, eqd, aCall, Sym.reach, Sym.pos, Sym.sub, lh_some, ↓reduceIte, reduceCtorEq, Nat.reduceEqDiff, Nat.reduceAdd, Nat.reduceSub, Nat.reduceMul, Nat.reduceLT, Nat.reduceLeDiff, Nat.reduceBEq, Nat.reduceBNe, Nat.reduceGT, Int.reduceEq, Int.reduceLT, Int.reduceLE, Int.reduceToNat, Int.reduceAdd, Int.reduceSub, Int.reduceMul, Int.reduceNeg, Int.reduceBEq, Int.reduceBNe, b_octets_Pen_Byte, g_octets_Pen_Byte_0, pn, pv, ro, ← h]
theorem byte1_a (k : Nat) (l : List Int) (hL : l.length ≤ 1000) (x : Int) : acall T (k + 1) 59 1 [.ptr 0 0, .v (.int .u8 x)] [pv l.length, ro l] = some ⟨.ptr 0 0, [pv (l.length + 1), ro (l ++ [x])], 2⟩ := by
  rw [acall_go (body := b_octets_Pen_Byte) rfl rfl (Nat.le_succ 1)]
  have h : [AV.v (.int .u8 x)] = bytesV [x] := rfl
  have h1 := bytes_full l
  have h2 := bytes_app l [x]
  have c1 : l.length ≤ (bytesV l).length := by rw [bytesV_length]; exact Nat.le_refl _
  have c2 : ¬ l.length + 1 ≤ (bytesV l).length := by rw [bytesV_length]; omega
  have c3 : l.length ≤ 140737488355327 := by omega
  have c4 : l.length ≤ 9223372036854775806 := by omega
  rw [← h] at h2
  have h3 : (bytesV l ++ [AV.v (.int .u8 x)]).all flat0 = true := by rw [h2]; exact all_bytesF
  have h4 : (bytesV l).all flat0 = true := all_bytesF
  have h5 : (bytesV (l ++ [x])).all flat0 = true := all_bytesF
  simp only [ro, pv]
  generalize bytesV (l ++ [x]) = cs2 at *
  generalize bytesV l = cs at *
  generalize l.length = n at *
  simp -implicitDefEqProofs only [eqs, eqd, aCall, Sym.reach, Sym.pos, Sym.sub, lh_some, ↓reduceIte, reduceCtorEq, Nat.reduceEqDiff, Nat.reduceAdd, Nat.reduceSub, Nat.reduceMul, Nat.reduceLT, Nat.reduceLeDiff, Nat.reduceBEq, Nat.reduceBNe, Nat.reduceGT, Int.reduceEq, Int.reduceLT, Int.reduceLE, Int.reduceToNat, Int.reduceAdd, Int.reduceSub, Int.reduceMul, Int.reduceNeg, Int.reduceBEq, Int.reduceBNe, b_octets_Pen_Byte, g_octets_Pen_Byte_0, pv, ro, c1, c2, c3, c4, h1, h2, h3, h4, h5]
theorem two_lit (n : Nat) : two n = [((n / 256 : Nat) : Int), ((n % 256 : Nat) : Int)] := rfl
theorem sh8 (n : Nat) (h : n < 65536) : IntKind.u8.wrap ((n : Int).fdiv (2 ^ min 8 IntKind.u16.bits)) = ((n / 256 : Nat) : Int) := by
  show IntKind.u8.wrap ((n : Int).fdiv 256) = _
  rw [Int.fdiv_eq_ediv_of_nonneg _ (by decide), u8w]
  omega
theorem lo8w (n : Nat) : IntKind.u8.wrap (n : Int) = ((n % 256 : Nat) : Int) := by rw [u8w]; omega
theorem sh16 (n : Nat) (h : n < 4294967296) : IntKind.u16.wrap ((n : Int).fdiv (2 ^ min 16 IntKind.u32.bits)) = ((n / 65536 : Nat) : Int) := by
  show IntKind.u16.wrap ((n : Int).fdiv 65536) = _
  rw [Int.fdiv_eq_ediv_of_nonneg _ (by decide), u16w]
  omega
theorem lo16w (n : Nat) : IntKind.u16.wrap (n : Int) = ((n % 65536 : Nat) : Int) := by rw [u16w]; omega
theorem two0_a (k n : Nat) (hn : n < 65536) : acall T (k + 2) 42 1 [.ptr 0 0, .v (.int .u16 n)] [pn] = some ⟨.ptr 0 0, [pv 2, ro (two n)], 2⟩ := by
  rw [acall_go (body := b_octets_Pen_Two) rfl rfl (Nat.le_refl 1), two_lit]
  have e1 := sh8 n hn
  have e2 := lo8w n
  generalize ((n / 256 : Nat) : Int) = x at *
  generalize ((n % 256 : Nat) : Int) = y at *
  have h0 := byte0_a k x
  have h1 := byte1_a k [x] (by simp) y
  have e : bytesV [x, y] = [AV.v (.int .u8 x), AV.v (.int .u8 y)] := rfl
  have e0 : bytesV [x] = [AV.v (.int .u8 x)] := rfl
  simp only [pv, pn, ro, List.length_cons, List.length_nil, List.cons_append, List.nil_append, e, e0] at h0 h1 ⊢
  simp -implicitDefEqProofs only [eqs, eqd, aCall, Sym.reach, Sym.pos, Sym.sub, lh_some, ↓reduceIte, reduceCtorEq, Nat.reduceEqDiff, Nat.reduceAdd, Nat.reduceSub, Nat.reduceMul, Nat.reduceLT, Nat.reduceLeDiff, Nat.reduceBEq, Nat.reduceBNe, Nat.reduceGT, Int.reduceEq, Int.reduceLT, Int.reduceLE, Int.reduceToNat, Int.reduceAdd, Int.reduceSub, Int.reduceMul, Int.reduceNeg, Int.reduceBEq, Int.reduceBNe, b_octets_Pen_Two, e1, e2, h0, h1]
theorem two1_a (k n : Nat) (hn : n < 65536) (l : List Int) (hL : l.length ≤ 900) : acall T (k + 2) 42 1 [.ptr 0 0, .v (.int .u16 n)] [pv l.length, ro l] = some ⟨.ptr 0 0, [pv (l.length + 2), ro (l ++ two n)], 2⟩ := by
  rw [acall_go (body := b_octets_Pen_Two) rfl rfl (Nat.le_succ 1), two_lit]
  have e1 := sh8 n hn
  have e2 := lo8w n
  generalize ((n / 256 : Nat) : Int) = x at *
  generalize ((n % 256 : Nat) : Int) = y at *
  have h0 := byte1_a k l (by omega) x
  have h1 := byte1_a k (l ++ [x]) (by rw [List.length_append]; simp; omega) y
  rw [List.append_assoc, List.length_append] at h1
  have f1 : (bytesV (l ++ [x])).all flat0 = true := all_bytesF
  have f2 : (bytesV (l ++ [x, y])).all flat0 = true := all_bytesF
  have f0 : (bytesV l).all flat0 = true := all_bytesF
  simp only [pv, ro, List.length_cons, List.length_nil, List.cons_append, List.nil_append, Nat.add_assoc, Nat.reduceAdd] at h0 h1 ⊢
  generalize bytesV (l ++ [x, y]) = cs2 at *
  generalize bytesV (l ++ [x]) = cs1 at *
  generalize bytesV l = cs at *
  simp -implicitDefEqProofs only [eqs, eqd, aCall, Sym.reach, Sym.pos, Sym.sub, lh_some, ↓reduceIte, reduceCtorEq, Nat.reduceEqDiff, Nat.reduceAdd, Nat.reduceSub, Nat.reduceMul, Nat.reduceLT, Nat.reduceLeDiff, Nat.reduceBEq, Nat.reduceBNe, Nat.reduceGT, Int.reduceEq, Int.reduceLT, Int.reduceLE, Int.reduceToNat, Int.reduceAdd, Int.reduceSub, Int.reduceMul, Int.reduceNeg, Int.reduceBEq, Int.reduceBNe, b_octets_Pen_Two, e1, e2, h0, h1, f1, f2, f0]
theorem four0_a (k n : Nat) (hn : n < 4294967296) : acall T (k + 3) 41 1 [.ptr 0 0, .v (.int .u32 n)] [pn] = some ⟨.ptr 0 0, [pv 4, ro (four n)], 2⟩ := by
  rw [acall_go (body := b_octets_Pen_Four) rfl rfl (Nat.le_refl 1)]
  have e1 := sh16 n hn
  have e2 := lo16w n
  have h0 := two0_a k (n / 65536) (by omega)
  have h1 := two1_a k (n % 65536) (by omega) (two (n / 65536)) (by rw [two_lit]; simp)
  unfold four
  have el : (two (n / 65536)).length = 2 := rfl
  rw [el] at h1
  generalize n / 65536 = x at *
  generalize n % 65536 = y at *
  have f1 : (bytesV (two x)).all flat0 = true := all_bytesF
  have f2 : (bytesV (two x ++ two y)).all flat0 = true := all_bytesF
  simp only [pv, pn, ro, Nat.reduceAdd] at h0 h1 ⊢
  generalize bytesV (two x ++ two y) = cs2 at *
  generalize bytesV (two x) = cs1 at *
  simp -implicitDefEqProofs only [eqs, eqd, aCall, Sym.reach, Sym.pos, Sym.sub, lh_some, ↓reduceIte, reduceCtorEq, Nat.reduceEqDiff, Nat.reduceAdd, Nat.reduceSub, Nat.reduceMul, Nat.reduceLT, Nat.reduceLeDiff, Nat.reduceBEq, Nat.reduceBNe, Nat.reduceGT, Int.reduceEq, Int.reduceLT, Int.reduceLE, Int.reduceToNat, Int.reduceAdd, Int.reduceSub, Int.reduceMul, Int.reduceNeg, Int.reduceBEq, Int.reduceBNe, b_octets_Pen_Four, e1, e2, h0, h1, f1, f2]
theorem text1_a (k : Nat) (l m : List Int) (hm : By m) (hL : l.length + m.length ≤ 1000) : acall T (k + 1) 44 1 [.ptr 0 0, sv m] [pv l.length, ro l] = some ⟨.ptr 0 0, [pv (l.length + m.length), ro (l ++ m)], 2⟩ := by
  rw [acall_go (body := b_octets_Pen_Text) rfl rfl (Nat.le_succ 1)]
  have e0 := bytes_cells hm
  have e1 := so_size m
  have a0 : (bytesV m).all atom = true := all_bytesA
  have a1 : (bytesV m).all flat0 = true := all_bytesF
  by_cases c : m.length = 0
  · obtain rfl : m = [] := List.length_eq_zero_iff.1 c
    simp only [List.length_nil, Nat.add_zero, List.append_nil] at e1 ⊢
    have h4 : (bytesV l).all flat0 = true := all_bytesF
    simp only [sv, ro, pv]
    generalize bytesV l = cs at *
    generalize bytesV [] = cs0 at *
    generalize strOfNums [] = z at *
    simp -implicitDefEqProofs only [eqs, eqd, aCall, Sym.reach, Sym.pos, Sym.sub, lh_some, ↓reduceIte, reduceCtorEq, Nat.reduceEqDiff, Nat.reduceAdd, Nat.reduceSub, Nat.reduceMul, Nat.reduceLT, Nat.reduceLeDiff, Nat.reduceBEq, Nat.reduceBNe, Nat.reduceGT, Int.reduceEq, Int.reduceLT, Int.reduceLE, Int.reduceToNat, Int.reduceAdd, Int.reduceSub, Int.reduceMul, Int.reduceNeg, Int.reduceBEq, Int.reduceBNe, b_octets_Pen_Text, g_octets_Pen_Text_0, pv, ro, e0, e1, a0, a1, h4]
  · have h1 := bytes_full l
    have h2 := bytes_app l m
    have c1 : l.length ≤ (bytesV l).length := by rw [bytesV_length]; exact Nat.le_refl _
    have c2 : ¬ l.length + m.length ≤ (bytesV l).length := by rw [bytesV_length]; omega
    have c3 : l.length + m.length ≤ 140737488355328 := by omega
    have c4 : l.length + m.length ≤ 9223372036854775807 := by omega
    have h4 : (bytesV l).all flat0 = true := all_bytesF
    have h5 : (bytesV (l ++ m)).all flat0 = true := all_bytesF
    simp only [sv, ro, pv]
    generalize strOfNums m = z at *
    generalize m.length = n at *
    generalize l.length = n2 at *
    generalize bytesV (l ++ m) = cs2 at *
    generalize bytesV l = cs at *
    generalize bytesV m = cs1 at *
    simp -implicitDefEqProofs only [eqs, eqd, aCall, Sym.reach, Sym.pos, Sym.sub, lh_some, ↓reduceIte, reduceCtorEq, Nat.reduceEqDiff, Nat.reduceAdd, Nat.reduceSub, Nat.reduceMul, Nat.reduceLT, Nat.reduceLeDiff, Nat.reduceBEq, Nat.reduceBNe, Nat.reduceGT, Int.reduceEq, Int.reduceLT, Int.reduceLE, Int.reduceToNat, Int.reduceAdd, Int.reduceSub, Int.reduceMul, Int.reduceNeg, Int.reduceBEq, Int.reduceBNe, b_octets_Pen_Text, g_octets_Pen_Text_0, pv, ro, e0, e1, a0, a1, c, c1, c2, c3, c4, h1, h2, h4, h5]
theorem small1_a (k : Nat) (l m : List Int) (hm : By m) (h64 : m.length ≤ 64) (hL : l.length ≤ 900) : acall T (k + 2) 43 1 [.ptr 0 0, sv m] [pv l.length, ro l] = some ⟨.v (.bool true), [pv (l.length + 1 + m.length), ro (l ++ [(m.length : Int)] ++ m)], 2⟩ := by
  rw [acall_go (body := b_octets_Pen_Small) rfl rfl (Nat.le_succ 1)]
  have h0 := byte1_a k l (by omega) (m.length : Int)
  have h1 := text1_a k (l ++ [(m.length : Int)]) m hm (by rw [List.length_append]; simp; omega)
  rw [List.length_append] at h1
  have e1 := so_size m
  have c1 : ¬ (255 : Int) < m.length := by omega
  have w1 : IntKind.u8.wrap (m.length : Int) = m.length := wu8 (by omega) (by omega)
  have f1 : (bytesV (l ++ [(m.length : Int)])).all flat0 = true := all_bytesF
  have f2 : (bytesV (l ++ [(m.length : Int)] ++ m)).all flat0 = true := all_bytesF
  have f0 : (bytesV l).all flat0 = true := all_bytesF
  simp only [pv, ro, sv, List.length_cons, List.length_nil, Nat.reduceAdd] at h0 h1 ⊢
  generalize bytesV (l ++ [(m.length : Int)] ++ m) = cs2 at *
  generalize bytesV (l ++ [(m.length : Int)]) = cs1 at *
  generalize bytesV l = cs at *
  generalize m.length = n at *
  simp -implicitDefEqProofs only [eqs, eqd, aCall, Sym.reach, Sym.pos, Sym.sub, lh_some, ↓reduceIte, reduceCtorEq, Nat.reduceEqDiff, Nat.reduceAdd, Nat.reduceSub, Nat.reduceMul, Nat.reduceLT, Nat.reduceLeDiff, Nat.reduceBEq, Nat.reduceBNe, Nat.reduceGT, Int.reduceEq, Int.reduceLT, Int.reduceLE, Int.reduceToNat, Int.reduceAdd, Int.reduceSub, Int.reduceMul, Int.reduceNeg, Int.reduceBEq, Int.reduceBNe, b_octets_Pen_Small, e1, c1, w1, h0, h1, f1, f2, f0]
theorem string_a (k : Nat) (l : List Int) : acall T (k + 1) 47 1 [.ptr 0 0] [pv l.length, ro l] = some ⟨sv l, [pv l.length, ro l], 0⟩ := by
  rw [acall_go (body := b_octets_Pen_String) rfl rfl (Nat.le_succ 1)]
  have c1 : l.length ≤ (bytesV l).length := by rw [bytesV_length]; exact Nat.le_refl _
  have h1 := bytes_full l
  have h2 : toNums (bytesV l) = some l := toNums_bytes
  have h4 : (bytesV l).all flat0 = true := all_bytesF
  simp only [ro, pv]
  generalize bytesV l = cs at *
  generalize hn : l.length = n at *
  simp -implicitDefEqProofs only [eqs, eqd, aCall, Sym.reach, Sym.pos, Sym.sub, lh_some, ↓reduceIte, reduceCtorEq, Nat.reduceEqDiff, Nat.reduceAdd, Nat.reduceSub, Nat.reduceMul, Nat.reduceLT, Nat.reduceLeDiff, Nat.reduceBEq, Nat.reduceBNe, Nat.reduceGT, Int.reduceEq, Int.reduceLT, Int.reduceLE, Int.reduceToNat, Int.reduceAdd, Int.reduceSub, Int.reduceMul, Int.reduceNeg, Int.reduceBEq, Int.reduceBNe, b_octets_Pen_String, pv, ro, sv, c1, h1, h2, h4]
theorem newpen_a (k : Nat) : acall T (k + 1) 40 0 [] [] = some ⟨.ptr 0 0, [⟨true, true, true, [.v (.slice none 0 0)]⟩], 1⟩ := by
  rw [acall_go (body := b_octets_NewPen) rfl rfl (Nat.zero_le _)]
  simp -implicitDefEqProofs only [eqs, eqd, aCall, Sym.reach, Sym.pos, Sym.sub, lh_some, ↓reduceIte, reduceCtorEq, Nat.reduceEqDiff, Nat.reduceAdd, Nat.reduceSub, Nat.reduceMul, Nat.reduceLT, Nat.reduceLeDiff, Nat.reduceBEq, Nat.reduceBNe, Nat.reduceGT, Int.reduceEq, Int.reduceLT, Int.reduceLE, Int.reduceToNat, Int.reduceAdd, Int.reduceSub, Int.reduceMul, Int.reduceNeg, Int.reduceBEq, Int.reduceBNe, b_octets_NewPen]
theorem repL0 (c : Nat) : Lib.repeatL [(0 : UInt8)] c = List.replicate c 0 := by
  induction c with
  | zero => rfl
  | succ m ih => rw [Lib.repeatL, ih]; rfl
theorem rep_a (k : Nat) (c : Nat) (h : c ≤ 64) : acall T (k + 1) 45 0 [.v (.string ⟨#[0]⟩), .v (.int .i64 c)] [] = some ⟨sv (List.replicate c 0), [], 1⟩ := by
  show (if (45 = 45 ∧ 0 = 0 ∧ (0 : Int) ≤ (c : Int) ∧ (c : Int) ≤ 9223372036854775807 ∧ (1 : Nat) * (c : Int).toNat ≤ 140737488355328) then some (⟨.v (.string (Ext.rep ⟨#[0]⟩ (c : Int).toNat)), [], 1⟩ : Res) else none) = _
  rw [if_pos ⟨rfl, rfl, by omega, by omega, by rw [Int.toNat_natCast]; omega⟩, Int.toNat_natCast]
  have e : Ext.rep ⟨#[0]⟩ c = strOfNums (List.replicate c 0) := by
    show (⟨(Lib.repeatL [(0 : UInt8)] c).toArray⟩ : ByteArray) = ⟨((List.replicate c (0 : Int)).map _).toArray⟩
    rw [repL0, List.map_replicate]
    rfl
  rw [e]
end Go.Proofs.YthdiljjbcaleoaaDoor.Ret

/- A record's bytes, whole. -/
namespace Go.Proofs.YthdiljjbcaleoaaDoor.Ret
open Go Go.Proofs.YthdiljjbcaleoaaDoor.Sym Go.Proofs.YthdiljjbcaleoaaDoor.Tab
set_option linter.unusedVariables false
set_option linter.unusedSimpArgs false
set_option maxHeartbeats 4000000
set_option maxRecDepth 20000
def Rec.av (r : Rec) : List AV := [.v (.int .u32 r.seq), .v (.int .u16 r.inc), .v (.string r.data)]
theorem body_a (k : Nat) (hk : 2001 ≤ k) (r : Rec) (hr : r.In) : acall T (k + 5) 34 0 [.agg r.av] [] = some ⟨sv (sealL (b0 r)), [], 1⟩ := by
  obtain ⟨n, i, s⟩ := r
  obtain ⟨h1, h2, h3⟩ := hr
  simp only at h1 h2 h3
  have hm : By (numsOf s) := by_nums s
  have hb := by_b0 (r := ⟨n, i, s⟩) ⟨h1, h2, h3⟩
  have hbl := b0_len (r := ⟨n, i, s⟩) ⟨h1, h2, h3⟩
  have e0 : b0 ⟨n, i, s⟩ = four n ++ two i ++ [(s.size : Int)] ++ numsOf s ++ List.replicate (64 - s.size) 0 := rfl
  rw [e0] at hb hbl ⊢
  obtain ⟨m, rfl, hm'⟩ : ∃ m, s = strOfNums m ∧ numsOf s = m := ⟨numsOf s, (nums_so s).symm, rfl⟩
  rw [hm'] at hm hb hbl ⊢
  have hs := so_size m
  rw [hs] at h3 hb hbl ⊢
  clear hm' e0
  have p1 := newpen_a (k + 3)
  have p2 := four0_a (k + 1) n h1
  have l4 : (four n).length = 4 := rfl
  have p3 := two1_a (k + 2) i h2 (four n) (by rw [l4]; decide)
  have l6 : (four n ++ two i).length = 6 := rfl
  rw [l4] at p3
  have p4 := small1_a (k + 2) (four n ++ two i) m hm h3 (by rw [l6]; decide)
  have l7 : (four n ++ two i ++ [(m.length : Int)] ++ m).length = 7 + m.length := by simp only [List.length_append, l4, List.length_cons, List.length_nil, two_lit]
  rw [l6] at p4
  have p5 := rep_a (k + 3) (64 - m.length) (by omega)
  have p6 := text1_a (k + 3) (four n ++ two i ++ [(m.length : Int)] ++ m) (List.replicate (64 - m.length) 0) (By.rep _) (by rw [l7, List.length_replicate]; omega)
  rw [l7, List.length_replicate] at p6
  have p7 := string_a (k + 3) (four n ++ two i ++ [(m.length : Int)] ++ m ++ List.replicate (64 - m.length) 0)
  rw [hbl] at p7
  have p8 := sealed_a k hk _ hb (by rw [hbl]; decide)
  have e71 : 7 + m.length + (64 - m.length) = 71 := by omega
  rw [e71] at p6
  have w1 : IntKind.i64.wrap (64 - (m.length : Int)) = ((64 - m.length : Nat) : Int) := by rw [w64 (by omega) (by omega)]; omega
  have f1 : (bytesV (four n)).all flat0 = true := all_bytesF
  have f2 : (bytesV (four n ++ two i)).all flat0 = true := all_bytesF
  have f3 : (bytesV (four n ++ two i ++ [(m.length : Int)] ++ m)).all flat0 = true := all_bytesF
  rw [acall_go (body := b_retain_body) rfl rfl (Nat.zero_le _)]
  simp only [pv, pn, ro, sv, Rec.av, Nat.reduceAdd] at p1 p2 p3 p4 p5 p6 p7 p8 ⊢
  generalize sealL (four n ++ two i ++ [(m.length : Int)] ++ m ++ List.replicate (64 - m.length) 0) = z at *
  generalize strOfNums (four n ++ two i ++ [(m.length : Int)] ++ m ++ List.replicate (64 - m.length) 0) = z2 at *
  generalize bytesV (four n ++ two i ++ [(m.length : Int)] ++ m ++ List.replicate (64 - m.length) 0) = c4 at *
  generalize bytesV (four n ++ two i ++ [(m.length : Int)] ++ m) = c3 at *
  generalize bytesV (four n ++ two i) = c2 at *
  generalize bytesV (four n) = c1 at *
  generalize strOfNums (List.replicate (64 - m.length) 0) = y2 at *
  generalize strOfNums m = y at *
  generalize h64 : 64 - m.length = q at *
  have e7 : 6 + 1 + m.length = 7 + m.length := by omega
  generalize 7 + m.length = u at *
  generalize m.length = mm at *
  simp -implicitDefEqProofs (maxSteps := 1000000) only [eqs, eqd, aCall, Sym.reach, Sym.pos, Sym.sub, lh_some, ↓reduceIte, reduceCtorEq, Nat.reduceEqDiff, Nat.reduceAdd, Nat.reduceSub, Nat.reduceMul, Nat.reduceLT, Nat.reduceLeDiff, Nat.reduceBEq, Nat.reduceBNe, Nat.reduceGT, Int.reduceEq, Int.reduceLT, Int.reduceLE, Int.reduceToNat, Int.reduceAdd, Int.reduceSub, Int.reduceMul, Int.reduceNeg, Int.reduceBEq, Int.reduceBNe, b_retain_body, p1, p2, p3, p4, p5, p6, p7, p8, w1, f1, f2, f3, hs, h64]
end Go.Proofs.YthdiljjbcaleoaaDoor.Ret

/- A record's bytes: the document's. -/
namespace Go.Proofs.YthdiljjbcaleoaaDoor.Ret
open Go Go.Proofs.YthdiljjbcaleoaaDoor.Sym Go.Proofs.YthdiljjbcaleoaaDoor.Tab
set_option linter.unusedVariables false
set_option linter.unusedSimpArgs false
set_option maxHeartbeats 4000000
set_option maxRecDepth 20000
theorem u32w (x : Int) : IntKind.u32.wrap x = x % 4294967296 := by simp [IntKind.wrap, IntKind.bits, IntKind.signed]
theorem td (n : Nat) : ((n : Int).tdiv 256) = ((n / 256 : Nat) : Int) := rfl
theorem tm (n : Nat) : ((n : Int).tmod 256) = ((n % 256 : Nat) : Int) := rfl
def bst (n c i : Nat) (l : List Int) : St := ⟨[(0, .v (.int .u32 n)), (1, .v (.int .i64 c)), (5, sv l), (6, .v (.int .i64 i))], [], if i = 0 then 0 else 1, []⟩
theorem bytes_next (C : CT) (lf n c i : Nat) (hn : n < 4294967296) (hi : i < c) (hc : c ≤ 4) (l : List Int) (hl : l.length ≤ 10) (N : Nat) (ks : List It) : Lh C lf (some (bst n c i l)) [0, 1, 5, 6] l_fuglemanref02_Bytes_0 (N + 1) ks = Lh C lf (some (bst (n / 256) c (i + 1) (((n % 256 : Nat) : Int) :: l))) [0, 1, 5, 6] l_fuglemanref02_Bytes_0 N ks := by
  have c1 : (i : Int) < c := by omega
  have w1 : IntKind.i64.wrap ((i : Int) + 1) = ((i + 1 : Nat) : Int) := by rw [w64 (by omega) (by omega)]; omega
  have w2 : IntKind.u32.wrap ((n / 256 : Nat) : Int) = ((n / 256 : Nat) : Int) := wu32 (by omega) (by omega)
  have w3 : IntKind.u8.wrap ((n % 256 : Nat) : Int) = ((n % 256 : Nat) : Int) := wu8 (by omega) (by omega)
  have hp := so_le [((n % 256 : Nat) : Int)] l (by simp; omega)
  have t1 := td n
  have t2 := tm n
  have hd : (if i + 1 = 0 then 0 else 1) = 1 := if_neg (by omega)
  unfold bst
  rw [lh_as l_fuglemanref02_Bytes_0.eq_1, hd]
  generalize n / 256 = x at *
  generalize ((n % 256 : Nat) : Int) = y at *
  have ha := so_app [y] l
  rw [List.singleton_append] at ha
  have hdd : (if i = 0 then 0 else 1) = 0 ∨ (if i = 0 then 0 else 1) = 1 := by split <;> simp
  generalize (if i = 0 then 0 else 1) = d at *
  rcases hdd with rfl | rfl
  · simp -implicitDefEqProofs only [eqs, eqd, aCall, Sym.reach, Sym.pos, Sym.sub, ↓reduceIte, reduceCtorEq, Nat.reduceEqDiff, Nat.reduceAdd, Nat.reduceSub, Nat.reduceMul, Nat.reduceLT, Nat.reduceLeDiff, Nat.reduceBEq, Nat.reduceBNe, Nat.reduceGT, Int.reduceEq, Int.reduceLT, Int.reduceLE, Int.reduceToNat, Int.reduceAdd, Int.reduceSub, Int.reduceMul, Int.reduceNeg, Int.reduceBEq, Int.reduceBNe, nx_nil, sv, c1, w1, w2, w3, t1, t2, toNums, hp, ha]
  · simp -implicitDefEqProofs only [eqs, eqd, aCall, Sym.reach, Sym.pos, Sym.sub, ↓reduceIte, reduceCtorEq, Nat.reduceEqDiff, Nat.reduceAdd, Nat.reduceSub, Nat.reduceMul, Nat.reduceLT, Nat.reduceLeDiff, Nat.reduceBEq, Nat.reduceBNe, Nat.reduceGT, Int.reduceEq, Int.reduceLT, Int.reduceLE, Int.reduceToNat, Int.reduceAdd, Int.reduceSub, Int.reduceMul, Int.reduceNeg, Int.reduceBEq, Int.reduceBNe, nx_nil, sv, c1, w1, w2, w3, t1, t2, toNums, hp, ha]
noncomputable abbrev bfin (C : CT) (lf : Nat) (s : St) (N : Nat) : Option Res := FnR [.t 4] false false (Lh C lf (some s) [0, 1, 5, 6] l_fuglemanref02_Bytes_0 N [.b 0, .c l_fuglemanref02_Bytes_1])
theorem bytes_end (C : CT) (lf n c : Nat) (h : c ≠ 0) (l : List Int) (N : Nat) : bfin C lf (bst n c c l) N = some ⟨sv l, [], 1⟩ := by
  have c1 : ¬ (c : Int) < c := by omega
  unfold bfin bst
  rw [lh_as l_fuglemanref02_Bytes_0.eq_1, if_neg h]
  simp -implicitDefEqProofs only [eqs, eqd, aCall, Sym.reach, Sym.pos, Sym.sub, ↓reduceIte, reduceCtorEq, Nat.reduceEqDiff, Nat.reduceAdd, Nat.reduceSub, Nat.reduceMul, Nat.reduceLT, Nat.reduceLeDiff, Nat.reduceBEq, Nat.reduceBNe, Nat.reduceGT, Int.reduceEq, Int.reduceLT, Int.reduceLE, Int.reduceToNat, Int.reduceAdd, Int.reduceSub, Int.reduceMul, Int.reduceNeg, Int.reduceBEq, Int.reduceBNe, nx_nil, l_fuglemanref02_Bytes_1, sv, c1]
theorem bytes_enter (k n c : Nat) : acall T (k + 7) 22 0 [.v (.int .u32 n), .v (.int .i64 c)] [] = bfin (acall T (k + 6)) (k + 6) (bst n c 0 []) (k + 5) := by
  rw [acall_go (body := b_fuglemanref02_Bytes) rfl rfl (Nat.zero_le _)]
  have lp : ∀ (ks : List It) (s : St), Lp (acall T (k + 6)) (k + 6) [0, 1, 5, 6] l_fuglemanref02_Bytes_0 (k + 6) ks s = Lh (acall T (k + 6)) (k + 6) (canon [0, 1, 5, 6] s) [0, 1, 5, 6] l_fuglemanref02_Bytes_0 (k + 5) ks := fun ks s => lp_succ (n := k + 5)
  have he : strOfNums [] = ByteArray.empty := rfl
  unfold bfin bst
  simp -implicitDefEqProofs only [eqs, eqd, aCall, Sym.reach, Sym.pos, Sym.sub, ↓reduceIte, reduceCtorEq, Nat.reduceEqDiff, Nat.reduceAdd, Nat.reduceSub, Nat.reduceMul, Nat.reduceLT, Nat.reduceLeDiff, Nat.reduceBEq, Nat.reduceBNe, Nat.reduceGT, Int.reduceEq, Int.reduceLT, Int.reduceLE, Int.reduceToNat, Int.reduceAdd, Int.reduceSub, Int.reduceMul, Int.reduceNeg, Int.reduceBEq, Int.reduceBNe, b_fuglemanref02_Bytes, sv, lp, he, Int.natCast_zero]
theorem bytes4_a (k n : Nat) (hn : n < 4294967296) : acall T (k + 7) 22 0 [.v (.int .u32 n), .v (.int .i64 4)] [] = some ⟨sv (four n), [], 1⟩ := by
  have h := bytes_enter k n 4
  rw [show ((4 : Nat) : Int) = 4 from rfl] at h
  rw [h]
  unfold bfin
  rw [bytes_next _ _ n 4 0 hn (by decide) (by decide) [] (by simp) (k + 4), bytes_next _ _ (n / 256) 4 1 (by omega) (by decide) (by decide) _ (by simp) (k + 3), bytes_next _ _ (n / 256 / 256) 4 2 (by omega) (by decide) (by decide) _ (by simp) (k + 2), bytes_next _ _ (n / 256 / 256 / 256) 4 3 (by omega) (by decide) (by decide) _ (by simp) (k + 1)]
  refine (bytes_end _ _ _ 4 (by decide) _ (k + 1)).trans ?_
  have e : four n = [((n / 256 / 256 / 256 % 256 : Nat) : Int), ((n / 256 / 256 % 256 : Nat) : Int), ((n / 256 % 256 : Nat) : Int), ((n % 256 : Nat) : Int)] := by
    simp only [four, two, List.cons_append, List.nil_append, List.cons.injEq, and_true]
    omega
  rw [e]
theorem bytes2_a (k n : Nat) (hn : n < 65536) : acall T (k + 7) 22 0 [.v (.int .u32 n), .v (.int .i64 2)] [] = some ⟨sv (two n), [], 1⟩ := by
  have h := bytes_enter k n 2
  rw [show ((2 : Nat) : Int) = 2 from rfl] at h
  rw [h]
  unfold bfin
  rw [bytes_next _ _ n 2 0 (by omega) (by decide) (by decide) [] (by simp) (k + 4), bytes_next _ _ (n / 256) 2 1 (by omega) (by decide) (by decide) _ (by simp) (k + 3)]
  refine (bytes_end _ _ _ 2 (by decide) _ (k + 3)).trans ?_
  have e : two n = [((n / 256 % 256 : Nat) : Int), ((n % 256 : Nat) : Int)] := by
    simp only [two, List.cons.injEq, and_true]
    omega
  rw [e]
theorem bytes1_a (k n : Nat) (hn : n < 256) : acall T (k + 7) 22 0 [.v (.int .u32 n), .v (.int .i64 1)] [] = some ⟨sv [(n : Int)], [], 1⟩ := by
  have h := bytes_enter k n 1
  rw [show ((1 : Nat) : Int) = 1 from rfl] at h
  rw [h]
  unfold bfin
  rw [bytes_next _ _ n 1 0 (by omega) (by decide) (by decide) [] (by simp) (k + 4)]
  refine (bytes_end _ _ _ 1 (by decide) _ (k + 4)).trans ?_
  rw [Nat.mod_eq_of_lt hn]
def pst (l : List Int) : St := ⟨[(3, sv l)], [], 1, []⟩
noncomputable abbrev pfin (C : CT) (lf : Nat) (s : St) (N : Nat) : Option Res := FnR [.t 2] false false (Lh C lf (some s) [3] l_fuglemanref07_Slot_0 N [.b 0, .c l_fuglemanref07_Slot_1])
theorem pad_next (C : CT) (lf : Nat) (l : List Int) (h : l.length < 71) (N : Nat) (ks : List It) : Lh C lf (some (pst l)) [3] l_fuglemanref07_Slot_0 (N + 1) ks = Lh C lf (some (pst (l ++ [0]))) [3] l_fuglemanref07_Slot_0 N ks := by
  have c1 : (l.length : Int) < 71 := by omega
  have hp : l.length ≤ 9223372036854775806 := by omega
  have ha := so_app l [0]
  have e0 : (⟨#[0]⟩ : ByteArray) = strOfNums [0] := rfl
  have hs := so_size l
  have hs2 : (strOfNums [0]).size = 1 := so_size [0]
  unfold pst
  rw [lh_as l_fuglemanref07_Slot_0.eq_1]
  simp -implicitDefEqProofs only [eqs, eqd, aCall, Sym.reach, Sym.pos, Sym.sub, ↓reduceIte, reduceCtorEq, Nat.reduceEqDiff, Nat.reduceAdd, Nat.reduceSub, Nat.reduceMul, Nat.reduceLT, Nat.reduceLeDiff, Nat.reduceBEq, Nat.reduceBNe, Nat.reduceGT, Int.reduceEq, Int.reduceLT, Int.reduceLE, Int.reduceToNat, Int.reduceAdd, Int.reduceSub, Int.reduceMul, Int.reduceNeg, Int.reduceBEq, Int.reduceBNe, nx_nil, sv, c1, e0, hp, ha, hs, hs2]
theorem pad_run (C : CT) (lf : Nat) : ∀ (m : Nat) (l : List Int) (N : Nat) (ks : List It), l.length + m = 71 → m ≤ N → Lh C lf (some (pst l)) [3] l_fuglemanref07_Slot_0 N ks = Lh C lf (some (pst (l ++ List.replicate m 0))) [3] l_fuglemanref07_Slot_0 (N - m) ks
  | 0, l, N, ks, h, hN => by rw [List.replicate_zero, List.append_nil]; rfl
  | m + 1, l, N, ks, h, hN => by
    obtain ⟨N, rfl⟩ : ∃ M, N = M + 1 := ⟨N - 1, by omega⟩
    rw [pad_next C lf l (by omega) N ks, pad_run C lf m (l ++ [0]) N ks (by rw [List.length_append]; simp; omega) (by omega), List.append_assoc, show N + 1 - (m + 1) = N - m by omega]
    rfl
theorem slot_a (k : Nat) (hk : 2009 ≤ k) (r : Rec) (hr : r.In) : acall T (k + 5) 8 0 [.agg r.av] [] = some ⟨sv (sealL (b0 r)), [], 1⟩ := by
  obtain ⟨n, i, s⟩ := r
  obtain ⟨h1, h2, h3⟩ := hr
  simp only at h1 h2 h3
  have hm : By (numsOf s) := by_nums s
  have hb := by_b0 (r := ⟨n, i, s⟩) ⟨h1, h2, h3⟩
  have hbl := b0_len (r := ⟨n, i, s⟩) ⟨h1, h2, h3⟩
  have e0 : b0 ⟨n, i, s⟩ = four n ++ two i ++ [(s.size : Int)] ++ numsOf s ++ List.replicate (64 - s.size) 0 := rfl
  rw [e0] at hb hbl ⊢
  obtain ⟨m, rfl, hm'⟩ : ∃ m, s = strOfNums m ∧ numsOf s = m := ⟨numsOf s, (nums_so s).symm, rfl⟩
  rw [hm'] at hm hb hbl ⊢
  have hs := so_size m
  rw [hs] at h3 hb hbl ⊢
  clear hm' e0
  obtain ⟨q, rfl⟩ : ∃ q, k = q + 100 := ⟨k - 100, by omega⟩
  have p1 := bytes4_a (q + 97) n h1
  have p2 := bytes2_a (q + 97) i h2
  have p3 := bytes1_a (q + 97) m.length (by omega)
  have l4 : (four n).length = 4 := rfl
  have l2 : (two i).length = 2 := rfl
  have l7 : (four n ++ two i ++ [(m.length : Int)] ++ m).length = 7 + m.length := by simp only [List.length_append, l4, l2, List.length_cons, List.length_nil]
  have pr := pad_run (acall T (q + 104)) (q + 104) (64 - m.length) (four n ++ two i ++ [(m.length : Int)] ++ m) (q + 103) [.b 0, .c l_fuglemanref07_Slot_1] (by rw [l7]; omega) (by omega)
  have a1 := so_le (four n) (two i) (by rw [l4, l2]; decide)
  have a2 := so_le (four n ++ two i) [(m.length : Int)] (by simp [l4, l2])
  have a3 := so_le (four n ++ two i ++ [(m.length : Int)]) m (by simp [l4, l2]; omega)
  rw [hs] at a3
  have p8 := rsealed_a (q + 100) hk _ hb (by rw [hbl]; decide)
  have w1 : IntKind.u32.wrap (m.length : Int) = m.length := wu32 (by omega) (by omega)
  have w2 : IntKind.u32.wrap (i : Int) = i := wu32 (by omega) (by omega)
  have c1 : ¬ ((71 : Nat) : Int) < 71 := by decide
  have fin : pfin (acall T (q + 104)) (q + 104) (pst (four n ++ two i ++ [(m.length : Int)] ++ m ++ List.replicate (64 - m.length) 0)) (q + 103 - (64 - m.length)) = some ⟨sv (sealL (four n ++ two i ++ [(m.length : Int)] ++ m ++ List.replicate (64 - m.length) 0)), [], 1⟩ := by
    have hs2 := so_size (four n ++ two i ++ [(m.length : Int)] ++ m ++ List.replicate (64 - m.length) 0)
    rw [hbl] at hs2
    unfold pfin pst
    rw [lh_as l_fuglemanref07_Slot_0.eq_1]
    simp only [sv] at p8 ⊢
    generalize q + 103 - (64 - m.length) = N
    generalize sealL (four n ++ two i ++ [(m.length : Int)] ++ m ++ List.replicate (64 - m.length) 0) = z at *
    generalize strOfNums (four n ++ two i ++ [(m.length : Int)] ++ m ++ List.replicate (64 - m.length) 0) = z2 at *
    simp -implicitDefEqProofs only [eqs, eqd, aCall, Sym.reach, Sym.pos, Sym.sub, ↓reduceIte, reduceCtorEq, Nat.reduceEqDiff, Nat.reduceAdd, Nat.reduceSub, Nat.reduceMul, Nat.reduceLT, Nat.reduceLeDiff, Nat.reduceBEq, Nat.reduceBNe, Nat.reduceGT, Int.reduceEq, Int.reduceLT, Int.reduceLE, Int.reduceToNat, Int.reduceAdd, Int.reduceSub, Int.reduceMul, Int.reduceNeg, Int.reduceBEq, Int.reduceBNe, nx_nil, l_fuglemanref07_Slot_1, hs2, c1, p8, natLit]
  rw [← fin]
  unfold pfin
  rw [← pr]
  clear fin pr p8
  have lp : ∀ (ks : List It) (s : St), Lp (acall T (q + 104)) (q + 104) [3] l_fuglemanref07_Slot_0 (q + 104) ks s = Lh (acall T (q + 104)) (q + 104) (canon [3] s) [3] l_fuglemanref07_Slot_0 (q + 103) ks := fun ks s => lp_succ (n := q + 103)
  rw [acall_go (body := b_fuglemanref07_Slot) rfl rfl (Nat.zero_le _)]
  unfold pst
  have b1 := so_app (four n) (two i)
  have b2 := so_app (four n ++ two i) [(m.length : Int)]
  have b3 := so_app (four n ++ two i ++ [(m.length : Int)]) m
  simp only [sv, Rec.av] at p1 p2 p3 ⊢
  generalize strOfNums (four n ++ two i ++ [(m.length : Int)] ++ m) = y4 at *
  generalize strOfNums (four n ++ two i ++ [(m.length : Int)]) = y3 at *
  generalize strOfNums (four n ++ two i) = y2 at *
  generalize strOfNums (four n) = y1 at *
  generalize strOfNums (two i) = x2 at *
  generalize strOfNums [(m.length : Int)] = x3 at *
  generalize strOfNums m = x4 at *
  generalize m.length = u at *
  simp -implicitDefEqProofs only [eqs, eqd, aCall, Sym.reach, Sym.pos, Sym.sub, ↓reduceIte, reduceCtorEq, Nat.reduceEqDiff, Nat.reduceAdd, Nat.reduceSub, Nat.reduceMul, Nat.reduceLT, Nat.reduceLeDiff, Nat.reduceBEq, Nat.reduceBNe, Nat.reduceGT, Int.reduceEq, Int.reduceLT, Int.reduceLE, Int.reduceToNat, Int.reduceAdd, Int.reduceSub, Int.reduceMul, Int.reduceNeg, Int.reduceBEq, Int.reduceBNe, b_fuglemanref07_Slot, lp, hs, p1, p2, p3, a1, a2, a3, b1, b2, b3, w1, w2]
end Go.Proofs.YthdiljjbcaleoaaDoor.Ret

/- Texts that are read: the program's eye; trimmed texts. -/
namespace Go.Proofs.YthdiljjbcaleoaaDoor.Ret
open Go Go.Proofs.YthdiljjbcaleoaaDoor.Sym Go.Proofs.YthdiljjbcaleoaaDoor.Tab
set_option linter.unusedVariables false
set_option linter.unusedSimpArgs false
set_option maxHeartbeats 4000000
set_option maxRecDepth 20000
abbrev eo (l : List Int) (a : Nat) (b : Bool) : Sym.Obj := ⟨true, false, true, [sv l, .v (.int .i64 a), .v (.bool b)]⟩
theorem take_ok (k : Nat) (l : List Int) (hL : l.length ≤ 2000) (a n : Nat) (h : a + n ≤ l.length) : acall T (k + 1) 55 1 [.ptr 0 0, .v (.int .i64 n)] [eo l a false] = some ⟨sv ((l.drop a).take n), [eo l (a + n) false], 2⟩ := by
  rw [acall_go (body := b_octets_Eye_Take) rfl rfl (Nat.le_refl 1)]
  have hs := so_size l
  have c1 : ¬ (n : Int) < 0 := by omega
  have w1 : IntKind.i64.wrap ((l.length : Int) - a) = ((l.length - a : Nat) : Int) := by rw [w64 (by omega) (by omega)]; omega
  have c2 : ¬ ((l.length - a : Nat) : Int) < n := by omega
  have w2 : IntKind.i64.wrap ((a : Int) + n) = ((a + n : Nat) : Int) := by rw [w64 (by omega) (by omega)]; omega
  have w3 : IntKind.i64.wrap (((a + n : Nat) : Int) - n) = (a : Int) := by rw [w64 (by omega) (by omega)]; omega
  have c3 : (0 : Int) ≤ ((a + n : Nat) : Int) := by omega
  have c4 : a ≤ a + n := by omega
  have e1 := so_ext l a (a + n) h
  have e2 : (l.take (a + n)).drop a = (l.drop a).take n := by rw [List.drop_take, show a + n - a = n by omega]
  rw [e2] at e1
  simp only [eo, sv]
  generalize strOfNums ((l.drop a).take n) = z at *
  generalize strOfNums l = y at *
  generalize l.length - a = u at *
  generalize a + n = v at *
  generalize l.length = m at *
  simp -implicitDefEqProofs only [eqs, eqd, aCall, Sym.reach, Sym.pos, Sym.sub, lh_some, ↓reduceIte, reduceCtorEq, Nat.reduceEqDiff, Nat.reduceAdd, Nat.reduceSub, Nat.reduceMul, Nat.reduceLT, Nat.reduceLeDiff, Nat.reduceBEq, Nat.reduceBNe, Nat.reduceGT, Int.reduceEq, Int.reduceLT, Int.reduceLE, Int.reduceToNat, Int.reduceAdd, Int.reduceSub, Int.reduceMul, Int.reduceNeg, Int.reduceBEq, Int.reduceBNe, b_octets_Eye_Take, hs, c1, c2, w1, w2, w3, c3, c4, h, e1]
theorem take_no (k : Nat) (l : List Int) (hL : l.length ≤ 2000) (a n : Nat) (ha : a ≤ l.length) (h : l.length < a + n) : acall T (k + 1) 55 1 [.ptr 0 0, .v (.int .i64 n)] [eo l a false] = some ⟨.v (.string ByteArray.empty), [eo l a true], 2⟩ := by
  rw [acall_go (body := b_octets_Eye_Take) rfl rfl (Nat.le_refl 1)]
  have hs := so_size l
  have c1 : ¬ (n : Int) < 0 := by omega
  have w1 : IntKind.i64.wrap ((l.length : Int) - a) = ((l.length - a : Nat) : Int) := by rw [w64 (by omega) (by omega)]; omega
  have c2 : ((l.length - a : Nat) : Int) < n := by omega
  simp only [eo, sv]
  generalize strOfNums l = y at *
  generalize l.length - a = u at *
  generalize l.length = m at *
  simp -implicitDefEqProofs only [eqs, eqd, aCall, Sym.reach, Sym.pos, Sym.sub, lh_some, ↓reduceIte, reduceCtorEq, Nat.reduceEqDiff, Nat.reduceAdd, Nat.reduceSub, Nat.reduceMul, Nat.reduceLT, Nat.reduceLeDiff, Nat.reduceBEq, Nat.reduceBNe, Nat.reduceGT, Int.reduceEq, Int.reduceLT, Int.reduceLE, Int.reduceToNat, Int.reduceAdd, Int.reduceSub, Int.reduceMul, Int.reduceNeg, Int.reduceBEq, Int.reduceBNe, b_octets_Eye_Take, hs, c1, c2, w1]
def nst (l : List Int) (a m : Nat) (t : List Int) (v i : Nat) (d : Nat) : St := ⟨[(5, .v (.int .u32 v)), (11, .view 1 0 t.length 1 none), (12, .v (.int .i64 t.length)), (13, .v (.int .i64 i))], [eo l a false, ⟨true, true, true, bytesV t⟩], d, [0]⟩
theorem or8 (n c : Nat) (hc : c < 256) : bitsV .or .u32 ((n * 256 % 4294967296 : Nat) : Int) (c : Int) = ((n * 256 % 4294967296 + c : Nat) : Int) := by
  rw [bo32 _ _ (Nat.mod_lt _ (by decide)) (by omega)]
  have h : n * 256 % 4294967296 = 2 ^ 8 * (n % 16777216) := by omega
  rw [h, Nat.two_pow_add_eq_or_of_lt (i := 8) hc]
theorem num_next (C : CT) (lf : Nat) (l : List Int) (a m : Nat) (t : List Int) (ht : By t) (hL : t.length ≤ 4) (v i d : Nat) (hd : d = 1 ∨ d = 2) (hi : i < t.length) (N : Nat) (ks : List It) : Lh C lf (some (nst l a m t v i d)) [5, 11, 12, 13] l_octets_Eye_number_0 (N + 1) ks = Lh C lf (some (nst l a m t (v * 256 % 4294967296 + t[i].toNat) (i + 1) d)) [5, 11, 12, 13] l_octets_Eye_number_0 N ks := by
  have c1 : (i : Int) < t.length := by omega
  have c0 : (0 : Int) ≤ i := by omega
  have w1 : IntKind.i64.wrap ((i : Int) + 1) = ((i + 1 : Nat) : Int) := by rw [w64 (by omega) (by omega)]; omega
  obtain ⟨b1, b2⟩ := ht.get hi
  obtain ⟨c, hc⟩ : ∃ c : Nat, t[i] = c := ⟨t[i].toNat, by omega⟩
  have hx : (bytesV t)[i]? = some (.v (.int .u8 (c : Int))) := by rw [bytesV, List.getElem?_map, List.getElem?_eq_getElem hi, hc]; rfl
  rw [hc] at b1 b2 ⊢
  rw [Int.toNat_natCast]
  have w2 : IntKind.u32.wrap (c : Int) = c := wu32 (by omega) (by omega)
  have w3 : IntKind.u32.wrap ((v : Int) * 2 ^ min 8 IntKind.u32.bits) = ((v * 256 % 4294967296 : Nat) : Int) := by
    show IntKind.u32.wrap ((v : Int) * 256) = _
    rw [u32w]
    omega
  have ho := or8 v c (by omega)
  have f0 : (bytesV t).all flat0 = true := all_bytesF
  unfold nst
  rw [lh_as l_octets_Eye_number_0.eq_1]
  simp only [eo, sv]
  clear hc
  generalize strOfNums l = y at *
  generalize bytesV t = cs at *
  generalize t.length = n at *
  generalize v * 256 % 4294967296 = q at *
  generalize q + c = q2 at *
  rcases hd with rfl | rfl
  · simp -implicitDefEqProofs only [eqs, eqd, aCall, Sym.reach, Sym.pos, Sym.sub, ↓reduceIte, reduceCtorEq, Nat.reduceEqDiff, Nat.reduceAdd, Nat.reduceSub, Nat.reduceMul, Nat.reduceLT, Nat.reduceLeDiff, Nat.reduceBEq, Nat.reduceBNe, Nat.reduceGT, Int.reduceEq, Int.reduceLT, Int.reduceLE, Int.reduceToNat, Int.reduceAdd, Int.reduceSub, Int.reduceMul, Int.reduceNeg, Int.reduceBEq, Int.reduceBNe, nx_nil, c1, c0, w1, w2, w3, hx, ho, f0, Int.toNat_natCast, Nat.mul_one, Nat.zero_add]
  · simp -implicitDefEqProofs only [eqs, eqd, aCall, Sym.reach, Sym.pos, Sym.sub, ↓reduceIte, reduceCtorEq, Nat.reduceEqDiff, Nat.reduceAdd, Nat.reduceSub, Nat.reduceMul, Nat.reduceLT, Nat.reduceLeDiff, Nat.reduceBEq, Nat.reduceBNe, Nat.reduceGT, Int.reduceEq, Int.reduceLT, Int.reduceLE, Int.reduceToNat, Int.reduceAdd, Int.reduceSub, Int.reduceMul, Int.reduceNeg, Int.reduceBEq, Int.reduceBNe, nx_nil, c1, c0, w1, w2, w3, hx, ho, f0, Int.toNat_natCast, Nat.mul_one, Nat.zero_add]
noncomputable abbrev nfin (C : CT) (lf : Nat) (s : St) (N : Nat) : Option Res := FnR [.t 4] false true (Lh C lf (some s) [5, 11, 12, 13] l_octets_Eye_number_0 N [.b 0, .c l_octets_Eye_number_1])
theorem num_end (C : CT) (lf : Nat) (l : List Int) (a m : Nat) (t : List Int) (v d : Nat) (N : Nat) : nfin C lf (nst l a m t v t.length d) N = some ⟨.v (.int .u32 v), [eo l a false], 2⟩ := by
  have c1 : ¬ (t.length : Int) < t.length := by omega
  have f0 : (bytesV t).all flat0 = true := all_bytesF
  unfold nfin nst
  rw [lh_as l_octets_Eye_number_0.eq_1]
  simp only [eo, sv]
  generalize strOfNums l = y at *
  generalize bytesV t = cs at *
  generalize t.length = n at *
  simp -implicitDefEqProofs only [eqs, eqd, aCall, Sym.reach, Sym.pos, Sym.sub, ↓reduceIte, reduceCtorEq, Nat.reduceEqDiff, Nat.reduceAdd, Nat.reduceSub, Nat.reduceMul, Nat.reduceLT, Nat.reduceLeDiff, Nat.reduceBEq, Nat.reduceBNe, Nat.reduceGT, Int.reduceEq, Int.reduceLT, Int.reduceLE, Int.reduceToNat, Int.reduceAdd, Int.reduceSub, Int.reduceMul, Int.reduceNeg, Int.reduceBEq, Int.reduceBNe, nx_nil, l_octets_Eye_number_1, c1, f0]
theorem num_run (C : CT) (lf : Nat) (l : List Int) (a m : Nat) (t : List Int) (ht : By t) (hL : t.length ≤ 4) (d : Nat) (hd : d = 1 ∨ d = 2) : ∀ (j i v N : Nat), i + j = t.length → j ≤ N → nfin C lf (nst l a m t v i d) N = some ⟨.v (.int .u32 ((t.drop i).foldl (fun n c => n * 256 % 4294967296 + c.toNat) v : Nat)), [eo l a false], 2⟩
  | 0, i, v, N, hi, hN => by
    obtain rfl : i = t.length := by omega
    rw [List.drop_length]
    exact num_end C lf l a m t v d N
  | j + 1, i, v, N, hi, hN => by
    obtain ⟨N, rfl⟩ : ∃ M, N = M + 1 := ⟨N - 1, by omega⟩
    have h := num_run C lf l a m t ht hL d hd j (i + 1) (v * 256 % 4294967296 + t[i].toNat) N (by omega) (by omega)
    unfold nfin at h ⊢
    rw [num_next C lf l a m t ht hL v i d hd (by omega) N, h, List.drop_eq_getElem_cons (l := t) (i := i) (by omega)]
    rfl
theorem number_a (k : Nat) (hk : 10 ≤ k) (l : List Int) (hl : By l) (hL : l.length ≤ 2000) (a c : Nat) (hc : c ≤ 4) (h : a + c ≤ l.length) : acall T (k + 2) 67 1 [.ptr 0 0, .v (.int .i64 c)] [eo l a false] = some ⟨.v (.int .u32 (num ((l.drop a).take c) : Nat)), [eo l (a + c) false], 2⟩ := by
  have ht : By ((l.drop a).take c) := (hl.drop a).take c
  have hlen : ((l.drop a).take c).length = c := by rw [List.length_take, List.length_drop]; omega
  have p1 := take_ok k l hL a c h
  have key := num_run (acall T (k + 1)) (k + 1) l (a + c) c ((l.drop a).take c) ht (by omega) 2 (Or.inr rfl) c 0 0 k (by omega) (by omega)
  have e0 := bytes_cells ht
  have e1 := so_size ((l.drop a).take c)
  rw [List.drop_zero] at key
  have en : num ((l.drop a).take c) = ((l.drop a).take c).foldl (fun n c => n * 256 % 4294967296 + c.toNat) 0 := rfl
  rw [en, acall_go (body := b_octets_Eye_number) rfl rfl (Nat.le_refl 1), ← key]
  clear key en
  have f0 : (bytesV ((l.drop a).take c)).all flat0 = true := all_bytesF
  have lp : ∀ (ks : List It) (s : St), Lp (acall T (k + 1)) (k + 1) [5, 11, 12, 13] l_octets_Eye_number_0 (k + 1) ks s = Lh (acall T (k + 1)) (k + 1) (canon [5, 11, 12, 13] s) [5, 11, 12, 13] l_octets_Eye_number_0 k ks := fun ks s => lp_succ (n := k)
  unfold nfin nst
  simp only [eo, sv] at p1 ⊢
  generalize (l.drop a).take c = t at *
  generalize strOfNums t = z at *
  generalize strOfNums l = y at *
  generalize bytesV t = cs at *
  generalize t.length = n at *
  simp -implicitDefEqProofs only [eqs, eqd, aCall, Sym.reach, Sym.pos, Sym.sub, ↓reduceIte, reduceCtorEq, Nat.reduceEqDiff, Nat.reduceAdd, Nat.reduceSub, Nat.reduceMul, Nat.reduceLT, Nat.reduceLeDiff, Nat.reduceBEq, Nat.reduceBNe, Nat.reduceGT, Int.reduceEq, Int.reduceLT, Int.reduceLE, Int.reduceToNat, Int.reduceAdd, Int.reduceSub, Int.reduceMul, Int.reduceNeg, Int.reduceBEq, Int.reduceBNe, b_octets_Eye_number, lp, p1, e0, e1, f0, Int.natCast_zero]
end Go.Proofs.YthdiljjbcaleoaaDoor.Ret

/- A slot's record: the program's. -/
namespace Go.Proofs.YthdiljjbcaleoaaDoor.Ret
open Go Go.Proofs.YthdiljjbcaleoaaDoor.Sym Go.Proofs.YthdiljjbcaleoaaDoor.Tab
set_option linter.unusedVariables false
set_option linter.unusedSimpArgs false
set_option maxHeartbeats 4000000
set_option maxRecDepth 20000
theorem num2_lt {m : List Int} (hm : By m) (hl : m.length ≤ 2) : num m < 65536 := by
  match m, hl with
  | [], _ => decide
  | [a], _ =>
    have := hm a (by simp)
    simp only [num, List.foldl_cons, List.foldl_nil]
    omega
  | [a, b], _ =>
    have := hm a (by simp)
    have := hm b (by simp)
    simp only [num, List.foldl_cons, List.foldl_nil]
    omega
theorem num1_eq {l : List Int} (hl : By l) {a : Nat} (h : a < l.length) : ((num ((l.drop a).take 1) : Nat) : Int) = l[a] := by
  obtain ⟨b1, b2⟩ := hl.get h
  rw [List.drop_eq_getElem_cons h]
  simp only [List.take_succ_cons, List.take_zero, num, List.foldl_cons, List.foldl_nil]
  omega
theorem neweye_a (k : Nat) (l : List Int) : acall T (k + 1) 49 0 [sv l] [] = some ⟨.ptr 0 0, [⟨true, true, true, [sv l, .v (.int .i64 0), .v (.bool false)]⟩], 1⟩ := by
  rw [acall_go (body := b_octets_NewEye) rfl rfl (Nat.zero_le _)]
  simp -implicitDefEqProofs only [eqs, eqd, aCall, Sym.reach, Sym.pos, Sym.sub, lh_some, ↓reduceIte, reduceCtorEq, Nat.reduceEqDiff, Nat.reduceAdd, Nat.reduceSub, Nat.reduceMul, Nat.reduceLT, Nat.reduceLeDiff, Nat.reduceBEq, Nat.reduceBNe, Nat.reduceGT, Int.reduceEq, Int.reduceLT, Int.reduceLE, Int.reduceToNat, Int.reduceAdd, Int.reduceSub, Int.reduceMul, Int.reduceNeg, Int.reduceBEq, Int.reduceBNe, b_octets_NewEye, sv]
theorem efour_a (k : Nat) (hk : 10 ≤ k) (l : List Int) (hl : By l) (hL : l.length ≤ 2000) (a : Nat) (h : a + 4 ≤ l.length) : acall T (k + 3) 50 1 [.ptr 0 0] [eo l a false] = some ⟨.v (.int .u32 (num ((l.drop a).take 4) : Nat)), [eo l (a + 4) false], 2⟩ := by
  have h1 := number_a k hk l hl hL a 4 (by decide) h
  rw [show ((4 : Nat) : Int) = 4 from rfl] at h1
  rw [acall_go (body := b_octets_Eye_Four) rfl rfl (Nat.le_refl 1)]
  simp only [eo, sv] at h1 ⊢
  generalize ((num ((l.drop a).take 4) : Nat) : Int) = x at *
  generalize a + 4 = a2 at *
  simp -implicitDefEqProofs only [eqs, eqd, aCall, Sym.reach, Sym.pos, Sym.sub, lh_some, ↓reduceIte, reduceCtorEq, Nat.reduceEqDiff, Nat.reduceAdd, Nat.reduceSub, Nat.reduceMul, Nat.reduceLT, Nat.reduceLeDiff, Nat.reduceBEq, Nat.reduceBNe, Nat.reduceGT, Int.reduceEq, Int.reduceLT, Int.reduceLE, Int.reduceToNat, Int.reduceAdd, Int.reduceSub, Int.reduceMul, Int.reduceNeg, Int.reduceBEq, Int.reduceBNe, b_octets_Eye_Four, h1]
theorem etwo_a (k : Nat) (hk : 10 ≤ k) (l : List Int) (hl : By l) (hL : l.length ≤ 2000) (a : Nat) (h : a + 2 ≤ l.length) : acall T (k + 3) 51 1 [.ptr 0 0] [eo l a false] = some ⟨.v (.int .u16 (num ((l.drop a).take 2) : Nat)), [eo l (a + 2) false], 2⟩ := by
  have h1 := number_a k hk l hl hL a 2 (by decide) h
  rw [show ((2 : Nat) : Int) = 2 from rfl] at h1
  have hlt := num2_lt ((hl.drop a).take 2) (by rw [List.length_take]; omega)
  rw [acall_go (body := b_octets_Eye_Two) rfl rfl (Nat.le_refl 1)]
  simp only [eo, sv] at h1 ⊢
  generalize num ((l.drop a).take 2) = n at *
  have w1 : IntKind.u16.wrap (n : Int) = n := wu16 (by omega) (by omega)
  generalize a + 2 = a2 at *
  simp -implicitDefEqProofs only [eqs, eqd, aCall, Sym.reach, Sym.pos, Sym.sub, lh_some, ↓reduceIte, reduceCtorEq, Nat.reduceEqDiff, Nat.reduceAdd, Nat.reduceSub, Nat.reduceMul, Nat.reduceLT, Nat.reduceLeDiff, Nat.reduceBEq, Nat.reduceBNe, Nat.reduceGT, Int.reduceEq, Int.reduceLT, Int.reduceLE, Int.reduceToNat, Int.reduceAdd, Int.reduceSub, Int.reduceMul, Int.reduceNeg, Int.reduceBEq, Int.reduceBNe, b_octets_Eye_Two, h1, w1]
theorem ebyte_a (k : Nat) (hk : 10 ≤ k) (l : List Int) (hl : By l) (hL : l.length ≤ 2000) (a : Nat) (h : a < l.length) : acall T (k + 3) 68 1 [.ptr 0 0] [eo l a false] = some ⟨.v (.int .u8 l[a]), [eo l (a + 1) false], 2⟩ := by
  have h1 := number_a k hk l hl hL a 1 (by decide) h
  rw [show ((1 : Nat) : Int) = 1 from rfl, num1_eq hl h] at h1
  obtain ⟨b1, b2⟩ := hl.get h
  rw [acall_go (body := b_octets_Eye_Byte) rfl rfl (Nat.le_refl 1)]
  simp only [eo, sv] at h1 ⊢
  generalize l[a] = x at *
  have w1 : IntKind.u8.wrap x = x := wu8 (by omega) (by omega)
  generalize a + 1 = a2 at *
  simp -implicitDefEqProofs only [eqs, eqd, aCall, Sym.reach, Sym.pos, Sym.sub, lh_some, ↓reduceIte, reduceCtorEq, Nat.reduceEqDiff, Nat.reduceAdd, Nat.reduceSub, Nat.reduceMul, Nat.reduceLT, Nat.reduceLeDiff, Nat.reduceBEq, Nat.reduceBNe, Nat.reduceGT, Int.reduceEq, Int.reduceLT, Int.reduceLE, Int.reduceToNat, Int.reduceAdd, Int.reduceSub, Int.reduceMul, Int.reduceNeg, Int.reduceBEq, Int.reduceBNe, b_octets_Eye_Byte, h1, w1]
theorem esmall_ok (k : Nat) (hk : 10 ≤ k) (l : List Int) (hl : By l) (hL : l.length ≤ 2000) (a : Nat) (h : a < l.length) (n : Nat) (hn : l[a] = n) (h2 : a + 1 + n ≤ l.length) : acall T (k + 4) 52 1 [.ptr 0 0] [eo l a false] = some ⟨sv ((l.drop (a + 1)).take n), [eo l (a + 1 + n) false], 2⟩ := by
  have h1 := ebyte_a k hk l hl hL a h
  have h3 := take_ok (k + 2) l hL (a + 1) n h2
  obtain ⟨b1, b2⟩ := hl.get h
  rw [hn] at h1 b1 b2
  have w1 : IntKind.i64.wrap (n : Int) = n := w64 (by omega) (by omega)
  rw [acall_go (body := b_octets_Eye_Small) rfl rfl (Nat.le_refl 1)]
  simp only [eo, sv] at h1 h3 ⊢
  generalize strOfNums ((l.drop (a + 1)).take n) = z at *
  generalize strOfNums l = y at *
  clear hn
  generalize a + 1 + n = a3 at *
  generalize a + 1 = a2 at *
  simp -implicitDefEqProofs only [eqs, eqd, aCall, Sym.reach, Sym.pos, Sym.sub, lh_some, ↓reduceIte, reduceCtorEq, Nat.reduceEqDiff, Nat.reduceAdd, Nat.reduceSub, Nat.reduceMul, Nat.reduceLT, Nat.reduceLeDiff, Nat.reduceBEq, Nat.reduceBNe, Nat.reduceGT, Int.reduceEq, Int.reduceLT, Int.reduceLE, Int.reduceToNat, Int.reduceAdd, Int.reduceSub, Int.reduceMul, Int.reduceNeg, Int.reduceBEq, Int.reduceBNe, b_octets_Eye_Small, h1, h3, w1]
theorem esmall_no (k : Nat) (hk : 10 ≤ k) (l : List Int) (hl : By l) (hL : l.length ≤ 2000) (a : Nat) (h : a < l.length) (n : Nat) (hn : l[a] = n) (h2 : l.length < a + 1 + n) : acall T (k + 4) 52 1 [.ptr 0 0] [eo l a false] = some ⟨.v (.string ByteArray.empty), [eo l (a + 1) true], 2⟩ := by
  have h1 := ebyte_a k hk l hl hL a h
  have h3 := take_no (k + 2) l hL (a + 1) n (by omega) h2
  obtain ⟨b1, b2⟩ := hl.get h
  rw [hn] at h1 b1 b2
  have w1 : IntKind.i64.wrap (n : Int) = n := w64 (by omega) (by omega)
  rw [acall_go (body := b_octets_Eye_Small) rfl rfl (Nat.le_refl 1)]
  simp only [eo, sv] at h1 h3 ⊢
  generalize strOfNums l = y at *
  clear hn
  generalize a + 1 = a2 at *
  simp -implicitDefEqProofs only [eqs, eqd, aCall, Sym.reach, Sym.pos, Sym.sub, lh_some, ↓reduceIte, reduceCtorEq, Nat.reduceEqDiff, Nat.reduceAdd, Nat.reduceSub, Nat.reduceMul, Nat.reduceLT, Nat.reduceLeDiff, Nat.reduceBEq, Nat.reduceBNe, Nat.reduceGT, Int.reduceEq, Int.reduceLT, Int.reduceLE, Int.reduceToNat, Int.reduceAdd, Int.reduceSub, Int.reduceMul, Int.reduceNeg, Int.reduceBEq, Int.reduceBNe, b_octets_Eye_Small, h1, h3, w1]
theorem blind_a (k : Nat) (l : List Int) (a : Nat) (b : Bool) : acall T (k + 1) 53 1 [.ptr 0 0] [eo l a b] = some ⟨.v (.bool b), [eo l a b], 0⟩ := by
  rw [acall_go (body := b_octets_Eye_Blind) rfl rfl (Nat.le_refl 1)]
  simp -implicitDefEqProofs only [eqs, eqd, aCall, Sym.reach, Sym.pos, Sym.sub, lh_some, ↓reduceIte, reduceCtorEq, Nat.reduceEqDiff, Nat.reduceAdd, Nat.reduceSub, Nat.reduceMul, Nat.reduceLT, Nat.reduceLeDiff, Nat.reduceBEq, Nat.reduceBNe, Nat.reduceGT, Int.reduceEq, Int.reduceLT, Int.reduceLE, Int.reduceToNat, Int.reduceAdd, Int.reduceSub, Int.reduceMul, Int.reduceNeg, Int.reduceBEq, Int.reduceBNe, b_octets_Eye_Blind, eo, sv]
theorem left_a (k : Nat) (l : List Int) (hL : l.length ≤ 2000) (a : Nat) (h : a ≤ l.length) : acall T (k + 2) 56 1 [.ptr 0 0] [eo l a false] = some ⟨.v (.int .i64 ((l.length - a : Nat) : Int)), [eo l a false], 1⟩ := by
  have h1 := blind_a k l a false
  have hs := so_size l
  have w1 : IntKind.i64.wrap ((l.length : Int) - a) = ((l.length - a : Nat) : Int) := by rw [w64 (by omega) (by omega)]; omega
  rw [acall_go (body := b_octets_Eye_Left) rfl rfl (Nat.le_refl 1)]
  simp only [eo, sv] at h1 ⊢
  generalize strOfNums l = y at *
  generalize l.length - a = u at *
  generalize l.length = m at *
  simp -implicitDefEqProofs only [eqs, eqd, aCall, Sym.reach, Sym.pos, Sym.sub, lh_some, ↓reduceIte, reduceCtorEq, Nat.reduceEqDiff, Nat.reduceAdd, Nat.reduceSub, Nat.reduceMul, Nat.reduceLT, Nat.reduceLeDiff, Nat.reduceBEq, Nat.reduceBNe, Nat.reduceGT, Int.reduceEq, Int.reduceLT, Int.reduceLE, Int.reduceToNat, Int.reduceAdd, Int.reduceSub, Int.reduceMul, Int.reduceNeg, Int.reduceBEq, Int.reduceBNe, b_octets_Eye_Left, h1, hs, w1]
/-! trimmed -/
def trst (l : List Int) : St := ⟨[(0, sv l), (1, .v (.int .u8 0))], [], 0, []⟩
noncomputable abbrev trR (C : CT) (lf : Nat) (s : St) (N : Nat) : Option Res := FnR [.t 4] false false (Lh C lf (some s) [0, 1] l_strings_trimRightByte_0 N [.b 0, .c l_strings_trimRightByte_1])
noncomputable abbrev trL (C : CT) (lf : Nat) (s : St) (N : Nat) : Option Res := FnR [.t 4] false false (Lh C lf (some s) [0, 1] l_strings_trimLeftByte_0 N [.b 0, .c l_strings_trimLeftByte_1])
theorem last_ix {l : List Int} (hl : By l) {n : Nat} (h : l.length = n + 1) : aIxStr (sv l) (.v (.int .i64 n)) = some (.v (.int .u8 (l[n]'(by omega)))) := so_ix hl (by omega)
theorem trR_run (C : CT) (lf : Nat) : ∀ (n : Nat) (l : List Int), By l → l.length = n → n ≤ 2000 → ∀ N, n ≤ N → ∃ m, trR C lf (trst l) N = some ⟨sv m, [], 0⟩ ∧ By m ∧ m.length ≤ l.length ∧ (l.all (· == 0) = true → m = []) ∧ (l.all (· == 0) = false → m.all (· == 0) = false)
  | 0, l, hl, hn, hN0, N, hN => by
    obtain rfl : l = [] := List.length_eq_zero_iff.1 hn
    refine ⟨[], ?_, hl, Nat.le_refl _, fun _ => rfl, fun h => by simp at h⟩
    have hs : (strOfNums []).size = 0 := so_size []
    unfold trR trst
    rw [lh_as l_strings_trimRightByte_0.eq_1]
    simp only [sv]
    generalize strOfNums [] = y at *
    simp -implicitDefEqProofs only [eqs, eqd, aCall, Sym.reach, Sym.pos, Sym.sub, ↓reduceIte, reduceCtorEq, Nat.reduceEqDiff, Nat.reduceAdd, Nat.reduceSub, Nat.reduceMul, Nat.reduceLT, Nat.reduceLeDiff, Nat.reduceBEq, Nat.reduceBNe, Nat.reduceGT, Int.reduceEq, Int.reduceLT, Int.reduceLE, Int.reduceToNat, Int.reduceAdd, Int.reduceSub, Int.reduceMul, Int.reduceNeg, Int.reduceBEq, Int.reduceBNe, nx_nil, l_strings_trimRightByte_1, hs]
  | n + 1, l, hl, hn, hN0, N, hN => by
    obtain ⟨N, rfl⟩ : ∃ M, N = M + 1 := ⟨N - 1, by omega⟩
    have hs : (strOfNums l).size = n + 1 := by rw [so_size, hn]
    have hx := last_ix hl hn
    have e : l = l.take n ++ [l[n]] := by rw [← List.take_succ_eq_append_getElem (by omega), List.take_of_length_le (by omega)]
    have c1 : (0 : Int) < ((n + 1 : Nat) : Int) := by omega
    have w1 : IntKind.i64.wrap (((n + 1 : Nat) : Int) - 1) = n := by rw [w64 (by omega) (by omega)]; omega
    by_cases hz : l[n] = 0
    · obtain ⟨m, h1, h2, h3, h4, h5⟩ := trR_run C lf n (l.take n) (hl.take n) (by rw [List.length_take]; omega) (by omega) N (by omega)
      have ha : l.all (· == 0) = (l.take n).all (· == 0) := by
        conv => lhs; rw [e]
        rw [List.all_append]
        simp [hz]
      refine ⟨m, ?_, h2, by rw [List.length_take] at h3; omega, fun h => h4 (by rw [← ha]; exact h), fun h => h5 (by rw [← ha]; exact h)⟩
      rw [← h1]
      have he := so_ext l 0 n (by omega)
      rw [List.drop_zero] at he
      have c2 : (0 : Int) ≤ (n : Int) := by omega
      have c3 : n ≤ n + 1 := by omega
      rw [hz] at hx
      unfold trR trst
      rw [lh_as l_strings_trimRightByte_0.eq_1]
      simp only [sv] at hx ⊢
      clear h1 h3 h4 h5 hz e ha
      generalize strOfNums (l.take n) = y2 at *
      generalize strOfNums l = y at *
      generalize n + 1 = n1 at *
      simp -implicitDefEqProofs only [eqs, eqd, aCall, Sym.reach, Sym.pos, Sym.sub, ↓reduceIte, reduceCtorEq, Nat.reduceEqDiff, Nat.reduceAdd, Nat.reduceSub, Nat.reduceMul, Nat.reduceLT, Nat.reduceLeDiff, Nat.reduceBEq, Nat.reduceBNe, Nat.reduceGT, Int.reduceEq, Int.reduceLT, Int.reduceLE, Int.reduceToNat, Int.reduceAdd, Int.reduceSub, Int.reduceMul, Int.reduceNeg, Int.reduceBEq, Int.reduceBNe, nx_nil, hs, hx, c1, w1, he, c2, c3, Int.toNat_natCast]
    · refine ⟨l, ?_, hl, Nat.le_refl _, fun h => absurd ((List.all_eq_true.1 h) l[n] (List.getElem_mem _)) (by simpa using hz), fun h => h⟩
      have hz2 : (l[n] == 0) = false := by simpa using hz
      unfold trR trst
      rw [lh_as l_strings_trimRightByte_0.eq_1]
      generalize l[n] = x at *
      simp only [sv] at hx ⊢
      generalize strOfNums l = y at *
      clear e
      generalize n + 1 = n1 at *
      simp -implicitDefEqProofs only [eqs, eqd, aCall, Sym.reach, Sym.pos, Sym.sub, ↓reduceIte, reduceCtorEq, Nat.reduceEqDiff, Nat.reduceAdd, Nat.reduceSub, Nat.reduceMul, Nat.reduceLT, Nat.reduceLeDiff, Nat.reduceBEq, Nat.reduceBNe, Nat.reduceGT, Int.reduceEq, Int.reduceLT, Int.reduceLE, Int.reduceToNat, Int.reduceAdd, Int.reduceSub, Int.reduceMul, Int.reduceNeg, Int.reduceBEq, Int.reduceBNe, nx_nil, l_strings_trimRightByte_1, hs, hx, c1, w1, hz2]
theorem trL_run (C : CT) (lf : Nat) : ∀ (n : Nat) (l : List Int), By l → l.length = n → n ≤ 2000 → ∀ N, n ≤ N → ∃ m, trL C lf (trst l) N = some ⟨sv m, [], 0⟩ ∧ By m ∧ (l.all (· == 0) = true → m = []) ∧ (l.all (· == 0) = false → m ≠ [])
  | 0, l, hl, hn, hN0, N, hN => by
    obtain rfl : l = [] := List.length_eq_zero_iff.1 hn
    refine ⟨[], ?_, hl, fun _ => rfl, fun h => by simp at h⟩
    have hs : (strOfNums []).size = 0 := so_size []
    unfold trL trst
    rw [lh_as l_strings_trimLeftByte_0.eq_1]
    simp only [sv]
    generalize strOfNums [] = y at *
    simp -implicitDefEqProofs only [eqs, eqd, aCall, Sym.reach, Sym.pos, Sym.sub, ↓reduceIte, reduceCtorEq, Nat.reduceEqDiff, Nat.reduceAdd, Nat.reduceSub, Nat.reduceMul, Nat.reduceLT, Nat.reduceLeDiff, Nat.reduceBEq, Nat.reduceBNe, Nat.reduceGT, Int.reduceEq, Int.reduceLT, Int.reduceLE, Int.reduceToNat, Int.reduceAdd, Int.reduceSub, Int.reduceMul, Int.reduceNeg, Int.reduceBEq, Int.reduceBNe, nx_nil, l_strings_trimLeftByte_1, hs]
  | n + 1, l, hl, hn, hN0, N, hN => by
    obtain ⟨N, rfl⟩ : ∃ M, N = M + 1 := ⟨N - 1, by omega⟩
    have hs : (strOfNums l).size = n + 1 := by rw [so_size, hn]
    match l, hl, hn, hs with
    | x :: l, hl, hn, hs =>
    have hn' : l.length = n := by simpa using hn
    have hx := so_ix hl (i := 0) (by simp)
    rw [List.getElem_cons_zero, Int.natCast_zero] at hx
    have c1 : (0 : Int) < ((n + 1 : Nat) : Int) := by omega
    by_cases hz : x = 0
    · obtain ⟨m, h1, h2, h4, h5⟩ := trL_run C lf n l (fun y hy => hl y (List.mem_cons_of_mem _ hy)) hn' (by omega) N (by omega)
      have ha : (x :: l).all (· == 0) = l.all (· == 0) := by simp [hz]
      refine ⟨m, ?_, h2, fun h => h4 (by rw [← ha]; exact h), fun h => h5 (by rw [← ha]; exact h)⟩
      rw [← h1]
      have he := so_ext (x :: l) 1 (n + 1) (by simp; omega)
      have e2 : ((x :: l).take (n + 1)).drop 1 = l := by rw [List.take_succ_cons, List.drop_succ_cons, List.drop_zero, List.take_of_length_le (by omega)]
      rw [e2] at he
      have c3 : 1 ≤ n + 1 := by omega
      rw [hz] at hx he hs ⊢
      unfold trL trst
      rw [lh_as l_strings_trimLeftByte_0.eq_1]
      simp only [sv] at hx ⊢
      clear h1 h4 h5 hz e2 ha
      generalize strOfNums (0 :: l) = y at *
      generalize strOfNums l = y2 at *
      generalize n + 1 = n1 at *
      simp -implicitDefEqProofs only [eqs, eqd, aCall, Sym.reach, Sym.pos, Sym.sub, ↓reduceIte, reduceCtorEq, Nat.reduceEqDiff, Nat.reduceAdd, Nat.reduceSub, Nat.reduceMul, Nat.reduceLT, Nat.reduceLeDiff, Nat.reduceBEq, Nat.reduceBNe, Nat.reduceGT, Int.reduceEq, Int.reduceLT, Int.reduceLE, Int.reduceToNat, Int.reduceAdd, Int.reduceSub, Int.reduceMul, Int.reduceNeg, Int.reduceBEq, Int.reduceBNe, nx_nil, hs, hx, c1, he, c3, Int.toNat_natCast]
    · refine ⟨x :: l, ?_, hl, fun h => by simp [hz] at h, fun h => by simp⟩
      have hz2 : (x == 0) = false := by simpa using hz
      unfold trL trst
      rw [lh_as l_strings_trimLeftByte_0.eq_1]
      simp only [sv] at hx ⊢
      generalize strOfNums (x :: l) = y at *
      generalize n + 1 = n1 at *
      simp -implicitDefEqProofs only [eqs, eqd, aCall, Sym.reach, Sym.pos, Sym.sub, ↓reduceIte, reduceCtorEq, Nat.reduceEqDiff, Nat.reduceAdd, Nat.reduceSub, Nat.reduceMul, Nat.reduceLT, Nat.reduceLeDiff, Nat.reduceBEq, Nat.reduceBNe, Nat.reduceGT, Int.reduceEq, Int.reduceLT, Int.reduceLE, Int.reduceToNat, Int.reduceAdd, Int.reduceSub, Int.reduceMul, Int.reduceNeg, Int.reduceBEq, Int.reduceBNe, nx_nil, l_strings_trimLeftByte_1, hs, hx, c1, hz2]
end Go.Proofs.YthdiljjbcaleoaaDoor.Ret

/- A slot's record: the program's, whole. -/
namespace Go.Proofs.YthdiljjbcaleoaaDoor.Ret
open Go Go.Proofs.YthdiljjbcaleoaaDoor.Sym Go.Proofs.YthdiljjbcaleoaaDoor.Tab
set_option linter.unusedVariables false
set_option linter.unusedSimpArgs false
set_option maxHeartbeats 4000000
set_option maxRecDepth 20000
theorem trimR_a (k : Nat) (hk : 2001 ≤ k) (l : List Int) (hl : By l) (hL : l.length ≤ 2000) : ∃ m, acall T (k + 2) 70 0 [sv l, .v (.int .u8 0)] [] = some ⟨sv m, [], 0⟩ ∧ By m ∧ m.length ≤ l.length ∧ (l.all (· == 0) = true → m = []) ∧ (l.all (· == 0) = false → m.all (· == 0) = false) := by
  obtain ⟨m, h1, h2⟩ := trR_run (acall T (k + 1)) (k + 1) l.length l hl rfl hL k (by omega)
  refine ⟨m, ?_, h2⟩
  rw [acall_go (body := b_strings_trimRightByte) rfl rfl (Nat.zero_le _), ← h1]
  have lp : ∀ (ks : List It) (s : St), Lp (acall T (k + 1)) (k + 1) [0, 1] l_strings_trimRightByte_0 (k + 1) ks s = Lh (acall T (k + 1)) (k + 1) (canon [0, 1] s) [0, 1] l_strings_trimRightByte_0 k ks := fun ks s => lp_succ (n := k)
  unfold trR trst
  simp -implicitDefEqProofs only [eqs, eqd, aCall, Sym.reach, Sym.pos, Sym.sub, ↓reduceIte, reduceCtorEq, Nat.reduceEqDiff, Nat.reduceAdd, Nat.reduceSub, Nat.reduceMul, Nat.reduceLT, Nat.reduceLeDiff, Nat.reduceBEq, Nat.reduceBNe, Nat.reduceGT, Int.reduceEq, Int.reduceLT, Int.reduceLE, Int.reduceToNat, Int.reduceAdd, Int.reduceSub, Int.reduceMul, Int.reduceNeg, Int.reduceBEq, Int.reduceBNe, b_strings_trimRightByte, sv, lp]
theorem trimL_a (k : Nat) (hk : 2001 ≤ k) (l : List Int) (hl : By l) (hL : l.length ≤ 2000) : ∃ m, acall T (k + 2) 69 0 [sv l, .v (.int .u8 0)] [] = some ⟨sv m, [], 0⟩ ∧ By m ∧ (l.all (· == 0) = true → m = []) ∧ (l.all (· == 0) = false → m ≠ []) := by
  obtain ⟨m, h1, h2⟩ := trL_run (acall T (k + 1)) (k + 1) l.length l hl rfl hL k (by omega)
  refine ⟨m, ?_, h2⟩
  rw [acall_go (body := b_strings_trimLeftByte) rfl rfl (Nat.zero_le _), ← h1]
  have lp : ∀ (ks : List It) (s : St), Lp (acall T (k + 1)) (k + 1) [0, 1] l_strings_trimLeftByte_0 (k + 1) ks s = Lh (acall T (k + 1)) (k + 1) (canon [0, 1] s) [0, 1] l_strings_trimLeftByte_0 k ks := fun ks s => lp_succ (n := k)
  unfold trL trst
  simp -implicitDefEqProofs only [eqs, eqd, aCall, Sym.reach, Sym.pos, Sym.sub, ↓reduceIte, reduceCtorEq, Nat.reduceEqDiff, Nat.reduceAdd, Nat.reduceSub, Nat.reduceMul, Nat.reduceLT, Nat.reduceLeDiff, Nat.reduceBEq, Nat.reduceBNe, Nat.reduceGT, Int.reduceEq, Int.reduceLT, Int.reduceLE, Int.reduceToNat, Int.reduceAdd, Int.reduceSub, Int.reduceMul, Int.reduceNeg, Int.reduceBEq, Int.reduceBNe, b_strings_trimLeftByte, sv, lp]
theorem so_nil (l : List Int) : decide (strOfNums l = ByteArray.empty) = l.isEmpty := by
  cases l with
  | nil => rfl
  | cons x l =>
    have : strOfNums (x :: l) ≠ ByteArray.empty := fun h => by
      have := congrArg ByteArray.size h
      rw [so_size] at this
      simp at this
    simp [this]
theorem trim_a (k : Nat) (hk : 2001 ≤ k) (l : List Int) (hl : By l) (hL : l.length ≤ 2000) : ∃ m d, acall T (k + 3) 54 0 [sv l, .v (.string ⟨#[0]⟩)] [] = some ⟨sv m, [], d⟩ ∧ (d = 0 ∨ d = 1) ∧ m.isEmpty = l.all (· == 0) := by
  rcases h : l with _ | ⟨x, t⟩
  · refine ⟨[], 0, ?_, Or.inl rfl, rfl⟩
    have hn := so_nil []
    rw [acall_go (body := b_strings_Trim) rfl rfl (Nat.zero_le _)]
    simp only [sv]
    generalize strOfNums [] = y at *
    simp only [List.isEmpty_nil] at hn
    simp -implicitDefEqProofs only [eqs, eqd, aCall, Sym.reach, Sym.pos, Sym.sub, lh_some, ↓reduceIte, reduceCtorEq, Nat.reduceEqDiff, Nat.reduceAdd, Nat.reduceSub, Nat.reduceMul, Nat.reduceLT, Nat.reduceLeDiff, Nat.reduceBEq, Nat.reduceBNe, Nat.reduceGT, Int.reduceEq, Int.reduceLT, Int.reduceLE, Int.reduceToNat, Int.reduceAdd, Int.reduceSub, Int.reduceMul, Int.reduceNeg, Int.reduceBEq, Int.reduceBNe, b_strings_Trim, g_strings_Trim_0, hn]
  · rw [← h]
    obtain ⟨m, h1, h2, h3, h4, h5⟩ := trimR_a k hk l hl hL
    obtain ⟨m2, g1, g2, g4, g5⟩ := trimL_a k hk m h2 (by omega)
    have hn := so_nil l
    have hne : l.isEmpty = false := by rw [h]; rfl
    rw [hne] at hn
    refine ⟨m2, 1, ?_, Or.inr rfl, ?_⟩
    · rw [acall_go (body := b_strings_Trim) rfl rfl (Nat.zero_le _)]
      have hs0 : (⟨#[0]⟩ : ByteArray).size = 1 := rfl
      have hx0 : aIxStr (.v (.string ⟨#[0]⟩)) (.v (.int .i64 0)) = some (.v (.int .u8 0)) := rfl
      have hn0 : decide ((⟨#[0]⟩ : ByteArray) = ByteArray.empty) = false := by decide
      simp only [sv] at h1 g1 ⊢
      generalize strOfNums l = y at *
      generalize strOfNums m = y1 at *
      generalize strOfNums m2 = y2 at *
      generalize (⟨#[0]⟩ : ByteArray) = z at *
      simp -implicitDefEqProofs only [eqs, eqd, aCall, Sym.reach, Sym.pos, Sym.sub, lh_some, ↓reduceIte, reduceCtorEq, Nat.reduceEqDiff, Nat.reduceAdd, Nat.reduceSub, Nat.reduceMul, Nat.reduceLT, Nat.reduceLeDiff, Nat.reduceBEq, Nat.reduceBNe, Nat.reduceGT, Int.reduceEq, Int.reduceLT, Int.reduceLE, Int.reduceToNat, Int.reduceAdd, Int.reduceSub, Int.reduceMul, Int.reduceNeg, Int.reduceBEq, Int.reduceBNe, g_strings_Trim_0, b_strings_Trim, g_strings_Trim_0, hn, hs0, hx0, hn0, h1, g1]
    · cases ha : l.all (· == 0)
      · have := h5 ha
        have := g5 this
        cases m2
        · exact absurd rfl this
        · rfl
      · have := h4 ha
        rw [this] at g4
        rw [g4 rfl]
        rfl
theorem open_a (k : Nat) (hk : 2001 ≤ k) (l : List Int) (hl : By l) (hL : l.length ≤ 1000) (h2 : 2 ≤ l.length) : acall T (k + 4) 48 0 [sv l] [] = some ⟨if crcL 65535 l = 0 then .tup [sv (l.take (l.length - 2)), .v (.bool true)] else .tup [.v (.string ByteArray.empty), .v (.bool false)], [], 0⟩ := by
  have p1 := sum_a k hk l hl (by omega)
  have hs := so_size l
  have c1 : ¬ (l.length : Int) < 2 := by omega
  have w1 : IntKind.i64.wrap ((l.length : Int) - 2) = ((l.length - 2 : Nat) : Int) := by rw [w64 (by omega) (by omega)]; omega
  have e1 := so_ext l 0 (l.length - 2) (by omega)
  rw [List.drop_zero] at e1
  have c2 : (0 : Int) ≤ ((l.length - 2 : Nat) : Int) := by omega
  have c3 : l.length - 2 ≤ l.length := by omega
  rw [acall_go (body := b_crc_Open) rfl rfl (Nat.zero_le _)]
  by_cases c : crcL 65535 l = 0
  · rw [if_pos c]
    rw [c, Int.natCast_zero] at p1
    simp only [sv] at p1 ⊢
    generalize strOfNums (l.take (l.length - 2)) = z at *
    generalize strOfNums l = y at *
    generalize l.length - 2 = u at *
    generalize l.length = m at *
    simp -implicitDefEqProofs only [eqs, eqd, aCall, Sym.reach, Sym.pos, Sym.sub, lh_some, ↓reduceIte, reduceCtorEq, Nat.reduceEqDiff, Nat.reduceAdd, Nat.reduceSub, Nat.reduceMul, Nat.reduceLT, Nat.reduceLeDiff, Nat.reduceBEq, Nat.reduceBNe, Nat.reduceGT, Int.reduceEq, Int.reduceLT, Int.reduceLE, Int.reduceToNat, Int.reduceAdd, Int.reduceSub, Int.reduceMul, Int.reduceNeg, Int.reduceBEq, Int.reduceBNe, b_crc_Open, p1, hs, c1, w1, e1, c2, c3]
  · rw [if_neg c]
    have hc : (((crcL 65535 l : Nat) : Int) != 0) = true := by
      rw [bne_iff_ne]
      omega
    simp only [sv] at p1 ⊢
    generalize strOfNums l = y at *
    generalize ((crcL 65535 l : Nat) : Int) = q at *
    generalize l.length = m at *
    simp -implicitDefEqProofs only [eqs, eqd, aCall, Sym.reach, Sym.pos, Sym.sub, lh_some, ↓reduceIte, reduceCtorEq, Nat.reduceEqDiff, Nat.reduceAdd, Nat.reduceSub, Nat.reduceMul, Nat.reduceLT, Nat.reduceLeDiff, Nat.reduceBEq, Nat.reduceBNe, Nat.reduceGT, Int.reduceEq, Int.reduceLT, Int.reduceLE, Int.reduceToNat, Int.reduceAdd, Int.reduceSub, Int.reduceMul, Int.reduceNeg, Int.reduceBEq, Int.reduceBNe, b_crc_Open, p1, hs, c1, hc]
def oav : Option Rec → List AV
  | none => [.v (.int .u32 0), .v (.int .u16 0), .v (.string ByteArray.empty)]
  | some r => r.av
def pav (o : Option Rec) : AV := .tup [.agg (oav o), .v (.bool o.isSome)]
theorem mark_a {l : List Int} (hl : By l) (h : l.length = 74) : decide (strOfNums (l.take 1) = (⟨#[165]⟩ : ByteArray)) = decide (l[0]? = some 165) := by
  match l, h with
  | x :: l, h =>
    have hx := hl x (by simp)
    have e : (⟨#[165]⟩ : ByteArray) = strOfNums [165] := rfl
    rw [e, List.take_succ_cons, List.take_zero, List.getElem?_cons_zero]
    by_cases c : x = 165
    · subst c; simp
    · have : ¬ strOfNums [x] = strOfNums [165] := fun h => by
        have := so_inj (.cons hx .nil) (.cons (by decide) .nil) h
        simp at this
        exact c this
      simp [this, c]
theorem parse_a (k : Nat) (hk : 2001 ≤ k) (l : List Int) (hl : By l) (h74 : l.length = 74) : acall T (k + 6) 36 0 [sv l] [] = some ⟨pav (prs l), [], 1⟩ := by
  have p1 := open_a (k + 1) (by omega) (l.drop 1) (hl.drop 1) (by rw [List.length_drop]; omega) (by rw [List.length_drop]; omega)
  rw [List.length_drop, h74] at p1
  have hs : (strOfNums l).size = 74 := by rw [so_size, h74]
  have e1 := so_ext l 1 74 (by omega)
  rw [List.take_of_length_le (by omega)] at e1
  have e2 := so_ext l 0 1 (by omega)
  rw [List.drop_zero] at e2
  have em := mark_a hl h74
  rw [acall_go (body := b_retain_parse) rfl rfl (Nat.zero_le _)]
  by_cases c : crcL 65535 (l.drop 1) = 0
  · rw [if_pos c] at p1
    by_cases c0 : l[0]? = some 165
    · rw [decide_eq_true c0] at em
      have hi : By ((l.drop 1).take 71) := (hl.drop 1).take 71
      have hil : ((l.drop 1).take 71).length = 71 := by rw [List.length_take, List.length_drop]; omega
      have hp : prs l = if ((l.drop 1).take 71).getD 6 0 ≤ 64 ∧ (((l.drop 1).take 71).drop (7 + (((l.drop 1).take 71).getD 6 0).toNat)).all (· == 0) = true then some ⟨num (((l.drop 1).take 71).take 4), num ((((l.drop 1).take 71).drop 4).take 2), strOfNums ((((l.drop 1).take 71).drop 7).take (((l.drop 1).take 71).getD 6 0).toNat)⟩ else none := by
        show (if _ then _ else _) = _
        simp only [c, c0, true_and]
      rw [hp]
      rw [show 74 - 1 - 2 = 71 from rfl] at p1
      generalize (l.drop 1).take 71 = i at *
      have hq : i[6]'(by omega) = i.getD 6 0 := by rw [List.getD_eq_getElem?_getD, List.getElem?_eq_getElem (by omega)]; rfl
      obtain ⟨b1, b2⟩ := hi.get (i := 6) (by omega)
      rw [hq] at b1 b2
      obtain ⟨n, hn⟩ : ∃ n : Nat, i.getD 6 0 = n := ⟨(i.getD 6 0).toNat, by omega⟩
      rw [hn] at hq b1 b2 ⊢
      rw [Int.toNat_natCast]
      have q0 := neweye_a (k + 4) i
      have q1 := efour_a (k + 2) (by omega) i hi (by omega) 0 (by omega)
      have q2 := etwo_a (k + 2) (by omega) i hi (by omega) 4 (by omega)
      rw [List.drop_zero] at q1
      by_cases hs64 : n ≤ 64
      · have q3 := esmall_ok (k + 1) (by omega) i hi (by omega) 6 (by omega) n hq (by omega)
        have q4 := blind_a (k + 4) i (7 + n) false
        have q5 := left_a (k + 3) i (by omega) (7 + n) (by omega)
        have q6 := take_ok (k + 4) i (by omega) (7 + n) (71 - (7 + n)) (by omega)
        rw [List.take_of_length_le (by rw [List.length_drop]; omega)] at q6
        obtain ⟨m, d, q7, hd, q8⟩ := trim_a (k + 2) (by omega) (i.drop (7 + n)) (hi.drop _) (by rw [List.length_drop]; omega)
        have q9 := so_nil m
        rw [q8] at q9
        rw [hil] at q5
        have w7 : 6 + 1 + n = 7 + n := by omega
        rw [w7] at q3
        have w8 : 7 + n + (71 - (7 + n)) = 71 := by omega
        rw [w8] at q6
        by_cases z : (i.drop (7 + n)).all (· == 0) = true
        · rw [z] at q9
          rw [if_pos ⟨by omega, z⟩]
          clear hp z q8 hq hn
          simp only [pav, oav, Rec.av, eo, sv, Nat.zero_add, Nat.reduceAdd, Int.natCast_zero, natLit] at p1 q0 q1 q2 q3 q4 q5 q6 q7 ⊢
          generalize ((num (i.take 4) : Nat) : Int) = x1 at *
          generalize ((num ((i.drop 4).take 2) : Nat) : Int) = x2 at *
          generalize strOfNums ((i.drop 7).take n) = y1 at *
          generalize strOfNums (i.drop (7 + n)) = y2 at *
          generalize strOfNums (l.drop 1) = y3 at *
          generalize strOfNums (l.take 1) = y4 at *
          generalize strOfNums m = y5 at *
          generalize strOfNums l = y6 at *
          generalize strOfNums i = y7 at *
          generalize ((71 - (7 + n) : Nat) : Int) = v at *
          generalize ((7 + n : Nat) : Int) = u at *
          rcases hd with rfl | rfl
          · simp -implicitDefEqProofs (maxSteps := 1000000) only [eqs, eqd, aCall, Sym.reach, Sym.pos, Sym.sub, lh_some, ↓reduceIte, reduceCtorEq, Nat.reduceEqDiff, Nat.reduceAdd, Nat.reduceSub, Nat.reduceMul, Nat.reduceLT, Nat.reduceLeDiff, Nat.reduceBEq, Nat.reduceBNe, Nat.reduceGT, Int.reduceEq, Int.reduceLT, Int.reduceLE, Int.reduceToNat, Int.reduceAdd, Int.reduceSub, Int.reduceMul, Int.reduceNeg, Int.reduceBEq, Int.reduceBNe, b_retain_parse, p1, q0, q1, q2, q3, q4, q5, q6, q7, q9, hs, e1, e2, em, Option.isSome_some]
          · simp -implicitDefEqProofs (maxSteps := 1000000) only [eqs, eqd, aCall, Sym.reach, Sym.pos, Sym.sub, lh_some, ↓reduceIte, reduceCtorEq, Nat.reduceEqDiff, Nat.reduceAdd, Nat.reduceSub, Nat.reduceMul, Nat.reduceLT, Nat.reduceLeDiff, Nat.reduceBEq, Nat.reduceBNe, Nat.reduceGT, Int.reduceEq, Int.reduceLT, Int.reduceLE, Int.reduceToNat, Int.reduceAdd, Int.reduceSub, Int.reduceMul, Int.reduceNeg, Int.reduceBEq, Int.reduceBNe, b_retain_parse, p1, q0, q1, q2, q3, q4, q5, q6, q7, q9, hs, e1, e2, em, Option.isSome_some]
        · rw [Bool.not_eq_true] at z
          rw [z] at q9
          rw [if_neg (fun h => by rw [z] at h; cases h.2)]
          clear hp z q8 hq hn
          simp only [pav, oav, Rec.av, eo, sv, Nat.zero_add, Nat.reduceAdd, Int.natCast_zero, natLit] at p1 q0 q1 q2 q3 q4 q5 q6 q7 ⊢
          generalize ((num (i.take 4) : Nat) : Int) = x1 at *
          generalize ((num ((i.drop 4).take 2) : Nat) : Int) = x2 at *
          generalize strOfNums (l.drop 1) = y3 at *
          generalize strOfNums (l.take 1) = y4 at *
          generalize strOfNums l = y6 at *
          generalize strOfNums i = y7 at *
          generalize strOfNums ((i.drop 7).take n) = y1 at *
          generalize strOfNums (i.drop (7 + n)) = y2 at *
          generalize strOfNums m = y5 at *
          generalize ((71 - (7 + n) : Nat) : Int) = v at *
          generalize ((7 + n : Nat) : Int) = u at *
          rcases hd with rfl | rfl
          · simp -implicitDefEqProofs (maxSteps := 1000000) only [eqs, eqd, aCall, Sym.reach, Sym.pos, Sym.sub, lh_some, ↓reduceIte, reduceCtorEq, Nat.reduceEqDiff, Nat.reduceAdd, Nat.reduceSub, Nat.reduceMul, Nat.reduceLT, Nat.reduceLeDiff, Nat.reduceBEq, Nat.reduceBNe, Nat.reduceGT, Int.reduceEq, Int.reduceLT, Int.reduceLE, Int.reduceToNat, Int.reduceAdd, Int.reduceSub, Int.reduceMul, Int.reduceNeg, Int.reduceBEq, Int.reduceBNe, b_retain_parse, p1, q0, q1, q2, q3, q4, q5, q6, q7, q9, hs, e1, e2, em, Option.isSome_none]
          · simp -implicitDefEqProofs (maxSteps := 1000000) only [eqs, eqd, aCall, Sym.reach, Sym.pos, Sym.sub, lh_some, ↓reduceIte, reduceCtorEq, Nat.reduceEqDiff, Nat.reduceAdd, Nat.reduceSub, Nat.reduceMul, Nat.reduceLT, Nat.reduceLeDiff, Nat.reduceBEq, Nat.reduceBNe, Nat.reduceGT, Int.reduceEq, Int.reduceLT, Int.reduceLE, Int.reduceToNat, Int.reduceAdd, Int.reduceSub, Int.reduceMul, Int.reduceNeg, Int.reduceBEq, Int.reduceBNe, b_retain_parse, p1, q0, q1, q2, q3, q4, q5, q6, q7, q9, hs, e1, e2, em, Option.isSome_none]
      · have q3 := esmall_no (k + 1) (by omega) i hi (by omega) 6 (by omega) n hq (by omega)
        have q4 := blind_a (k + 4) i 7 true
        rw [if_neg (fun h => hs64 (by omega))]
        clear hp hq hn
        simp only [pav, oav, Rec.av, eo, sv, Nat.zero_add, Nat.reduceAdd, Int.natCast_zero, natLit] at p1 q0 q1 q2 q3 q4 ⊢
        generalize ((num (i.take 4) : Nat) : Int) = x1 at *
        generalize ((num ((i.drop 4).take 2) : Nat) : Int) = x2 at *
        generalize strOfNums (l.drop 1) = y3 at *
        generalize strOfNums (l.take 1) = y4 at *
        generalize strOfNums l = y6 at *
        generalize strOfNums i = y7 at *
        simp -implicitDefEqProofs (maxSteps := 1000000) only [eqs, eqd, aCall, Sym.reach, Sym.pos, Sym.sub, lh_some, ↓reduceIte, reduceCtorEq, Nat.reduceEqDiff, Nat.reduceAdd, Nat.reduceSub, Nat.reduceMul, Nat.reduceLT, Nat.reduceLeDiff, Nat.reduceBEq, Nat.reduceBNe, Nat.reduceGT, Int.reduceEq, Int.reduceLT, Int.reduceLE, Int.reduceToNat, Int.reduceAdd, Int.reduceSub, Int.reduceMul, Int.reduceNeg, Int.reduceBEq, Int.reduceBNe, b_retain_parse, p1, q0, q1, q2, q3, q4, hs, e1, e2, em, Option.isSome_none]
    · rw [decide_eq_false c0] at em
      rw [prs_mark c0]
      rw [show 74 - 1 - 2 = 71 from rfl] at p1
      simp only [pav, oav, Rec.av, sv] at p1 ⊢
      generalize strOfNums (l.drop 1) = y3 at *
      generalize strOfNums (l.take 1) = y4 at *
      generalize strOfNums l = y6 at *
      generalize strOfNums ((l.drop 1).take 71) = y7 at *
      simp -implicitDefEqProofs (maxSteps := 1000000) only [eqs, eqd, aCall, Sym.reach, Sym.pos, Sym.sub, lh_some, ↓reduceIte, reduceCtorEq, Nat.reduceEqDiff, Nat.reduceAdd, Nat.reduceSub, Nat.reduceMul, Nat.reduceLT, Nat.reduceLeDiff, Nat.reduceBEq, Nat.reduceBNe, Nat.reduceGT, Int.reduceEq, Int.reduceLT, Int.reduceLE, Int.reduceToNat, Int.reduceAdd, Int.reduceSub, Int.reduceMul, Int.reduceNeg, Int.reduceBEq, Int.reduceBNe, b_retain_parse, p1, hs, e1, e2, em, Option.isSome_none]
  · rw [if_neg c] at p1
    have hp : prs l = none := if_neg fun h => c h.1
    rw [hp]
    simp only [pav, oav, Rec.av, sv] at p1 ⊢
    generalize strOfNums (l.drop 1) = y3 at *
    generalize strOfNums l = y6 at *
    simp -implicitDefEqProofs (maxSteps := 1000000) only [eqs, eqd, aCall, Sym.reach, Sym.pos, Sym.sub, lh_some, ↓reduceIte, reduceCtorEq, Nat.reduceEqDiff, Nat.reduceAdd, Nat.reduceSub, Nat.reduceMul, Nat.reduceLT, Nat.reduceLeDiff, Nat.reduceBEq, Nat.reduceBNe, Nat.reduceGT, Int.reduceEq, Int.reduceLT, Int.reduceLE, Int.reduceToNat, Int.reduceAdd, Int.reduceSub, Int.reduceMul, Int.reduceNeg, Int.reduceBEq, Int.reduceBNe, b_retain_parse, p1, hs, e1, Option.isSome_none]
/-! the newest -/
abbrev so (d : Sto) (c : Option Nat) : Sym.Obj := ⟨true, false, false, [.view 1 0 d.b.length 1 c, .v (.bool d.dark), .v (.bool d.armed), .v (.int .i64 d.left), .v (.int .i64 d.wrote)]⟩
theorem slen_a (k : Nat) (d : Sto) (c : Option Nat) : acall T (k + 1) 27 1 [.ptr 0 0] [so d c, ro d.b] = some ⟨.v (.int .i64 d.b.length), [so d c, ro d.b], 0⟩ := by
  rw [acall_go (body := b_store_Store_Len) rfl rfl (Nat.le_succ 1)]
  have f0 : (bytesV d.b).all flat0 = true := all_bytesF
  simp only [so, ro]
  generalize bytesV d.b = cs at *
  generalize d.b.length = n at *
  simp -implicitDefEqProofs only [eqs, eqd, aCall, Sym.reach, Sym.pos, Sym.sub, lh_some, ↓reduceIte, reduceCtorEq, Nat.reduceEqDiff, Nat.reduceAdd, Nat.reduceSub, Nat.reduceMul, Nat.reduceLT, Nat.reduceLeDiff, Nat.reduceBEq, Nat.reduceBNe, Nat.reduceGT, Int.reduceEq, Int.reduceLT, Int.reduceLE, Int.reduceToNat, Int.reduceAdd, Int.reduceSub, Int.reduceMul, Int.reduceNeg, Int.reduceBEq, Int.reduceBNe, b_store_Store_Len, f0]
theorem there_yes (k : Nat) (d : Sto) (c : Option Nat) (hL : d.b.length ≤ 1000) (a n : Nat) (h : a + n ≤ d.b.length) : acall T (k + 2) 37 1 [.ptr 0 0, .v (.int .i64 a), .v (.int .i64 n)] [so d c, ro d.b] = some ⟨.v (.bool true), [so d c, ro d.b], 0⟩ := by
  rw [acall_go (body := b_store_Store_there) rfl rfl (Nat.le_succ 1)]
  have h1 := slen_a k d c
  have f0 : (bytesV d.b).all flat0 = true := all_bytesF
  have c1 : (0 : Int) ≤ a := by omega
  have c2 : (a : Int) ≤ d.b.length := by omega
  have c3 : (0 : Int) ≤ n := by omega
  have w1 : IntKind.i64.wrap ((d.b.length : Int) - a) = ((d.b.length - a : Nat) : Int) := by rw [w64 (by omega) (by omega)]; omega
  have c4 : (n : Int) ≤ ((d.b.length - a : Nat) : Int) := by omega
  simp only [so, ro] at h1 ⊢
  generalize bytesV d.b = cs at *
  generalize d.b.length - a = u at *
  generalize d.b.length = m at *
  simp -implicitDefEqProofs only [eqs, eqd, aCall, Sym.reach, Sym.pos, Sym.sub, lh_some, ↓reduceIte, reduceCtorEq, Nat.reduceEqDiff, Nat.reduceAdd, Nat.reduceSub, Nat.reduceMul, Nat.reduceLT, Nat.reduceLeDiff, Nat.reduceBEq, Nat.reduceBNe, Nat.reduceGT, Int.reduceEq, Int.reduceLT, Int.reduceLE, Int.reduceToNat, Int.reduceAdd, Int.reduceSub, Int.reduceMul, Int.reduceNeg, Int.reduceBEq, Int.reduceBNe, b_store_Store_there, h1, f0, c1, c2, c3, c4, w1]
theorem there_no (k : Nat) (d : Sto) (c : Option Nat) (hL : d.b.length ≤ 1000) (a n : Nat) (h : d.b.length < a + n) : acall T (k + 2) 37 1 [.ptr 0 0, .v (.int .i64 a), .v (.int .i64 n)] [so d c, ro d.b] = some ⟨.v (.bool false), [so d c, ro d.b], 0⟩ := by
  rw [acall_go (body := b_store_Store_there) rfl rfl (Nat.le_succ 1)]
  have h1 := slen_a k d c
  have f0 : (bytesV d.b).all flat0 = true := all_bytesF
  have c1 : (0 : Int) ≤ a := by omega
  have c3 : (0 : Int) ≤ n := by omega
  by_cases c2 : (a : Int) ≤ d.b.length
  · have w1 : IntKind.i64.wrap ((d.b.length : Int) - a) = ((d.b.length - a : Nat) : Int) := by rw [w64 (by omega) (by omega)]; omega
    have c4 : ¬ (n : Int) ≤ ((d.b.length - a : Nat) : Int) := by omega
    simp only [so, ro] at h1 ⊢
    generalize bytesV d.b = cs at *
    generalize d.b.length - a = u at *
    generalize d.b.length = m at *
    simp -implicitDefEqProofs only [eqs, eqd, aCall, Sym.reach, Sym.pos, Sym.sub, lh_some, ↓reduceIte, reduceCtorEq, Nat.reduceEqDiff, Nat.reduceAdd, Nat.reduceSub, Nat.reduceMul, Nat.reduceLT, Nat.reduceLeDiff, Nat.reduceBEq, Nat.reduceBNe, Nat.reduceGT, Int.reduceEq, Int.reduceLT, Int.reduceLE, Int.reduceToNat, Int.reduceAdd, Int.reduceSub, Int.reduceMul, Int.reduceNeg, Int.reduceBEq, Int.reduceBNe, b_store_Store_there, h1, f0, c1, c2, c3, c4, w1]
  · simp only [so, ro] at h1 ⊢
    generalize bytesV d.b = cs at *
    generalize d.b.length = m at *
    simp -implicitDefEqProofs only [eqs, eqd, aCall, Sym.reach, Sym.pos, Sym.sub, lh_some, ↓reduceIte, reduceCtorEq, Nat.reduceEqDiff, Nat.reduceAdd, Nat.reduceSub, Nat.reduceMul, Nat.reduceLT, Nat.reduceLeDiff, Nat.reduceBEq, Nat.reduceBNe, Nat.reduceGT, Int.reduceEq, Int.reduceLT, Int.reduceLE, Int.reduceToNat, Int.reduceAdd, Int.reduceSub, Int.reduceMul, Int.reduceNeg, Int.reduceBEq, Int.reduceBNe, b_store_Store_there, h1, f0, c1, c2]
theorem read_yes (k : Nat) (d : Sto) (c : Option Nat) (hc : c.getD d.b.length = d.b.length) (hL : d.b.length ≤ 1000) (a n : Nat) (h : a + n ≤ d.b.length) : acall T (k + 3) 26 1 [.ptr 0 0, .v (.int .i64 a), .v (.int .i64 n)] [so d c, ro d.b] = some ⟨.tup [sv ((d.b.drop a).take n), .v (.bool true)], [so d c, ro d.b], 0⟩ := by
  rw [acall_go (body := b_store_Store_Read) rfl rfl (Nat.le_succ 1)]
  have h1 := there_yes k d c hL a n h
  have f0 : (bytesV d.b).all flat0 = true := all_bytesF
  have c1 : (0 : Int) ≤ a := by omega
  have w1 : IntKind.i64.wrap ((a : Int) + n) = ((a + n : Nat) : Int) := by rw [w64 (by omega) (by omega)]; omega
  have c3 : (0 : Int) ≤ ((a + n : Nat) : Int) := by omega
  have c4 : a ≤ a + n := by omega
  have e1 : a + n - a = n := by omega
  have hl : (bytesV d.b).length = d.b.length := bytesV_length
  have e2 : ((bytesV d.b).drop a).take n = bytesV ((d.b.drop a).take n) := by rw [bytesV_drop, bytesV_take]
  have e3 : toNums (bytesV ((d.b.drop a).take n)) = some ((d.b.drop a).take n) := toNums_bytes
  simp only [so, ro, sv] at h1 ⊢
  generalize (d.b.drop a).take n = w at *
  generalize bytesV w = cs2 at *
  generalize bytesV d.b = cs at *
  generalize hv : a + n = v at *
  generalize d.b.length = m at *
  simp -implicitDefEqProofs only [eqs, eqd, aCall, Sym.reach, Sym.pos, Sym.sub, lh_some, ↓reduceIte, reduceCtorEq, Nat.reduceEqDiff, Nat.reduceAdd, Nat.reduceSub, Nat.reduceMul, Nat.reduceLT, Nat.reduceLeDiff, Nat.reduceBEq, Nat.reduceBNe, Nat.reduceGT, Int.reduceEq, Int.reduceLT, Int.reduceLE, Int.reduceToNat, Int.reduceAdd, Int.reduceSub, Int.reduceMul, Int.reduceNeg, Int.reduceBEq, Int.reduceBNe, b_store_Store_Read, hv, h1, f0, c1, c3, c4, w1, e1, e2, e3, hl, hc, h, Int.toNat_natCast, Nat.mul_one, Nat.zero_add]
theorem read_no (k : Nat) (d : Sto) (c : Option Nat) (hL : d.b.length ≤ 1000) (a n : Nat) (h : d.b.length < a + n) : acall T (k + 3) 26 1 [.ptr 0 0, .v (.int .i64 a), .v (.int .i64 n)] [so d c, ro d.b] = some ⟨.tup [.v (.string ByteArray.empty), .v (.bool false)], [so d c, ro d.b], 0⟩ := by
  rw [acall_go (body := b_store_Store_Read) rfl rfl (Nat.le_succ 1)]
  have h1 := there_no k d c hL a n h
  have f0 : (bytesV d.b).all flat0 = true := all_bytesF
  simp only [so, ro] at h1 ⊢
  generalize bytesV d.b = cs at *
  generalize d.b.length = m at *
  simp -implicitDefEqProofs only [eqs, eqd, aCall, Sym.reach, Sym.pos, Sym.sub, lh_some, ↓reduceIte, reduceCtorEq, Nat.reduceEqDiff, Nat.reduceAdd, Nat.reduceSub, Nat.reduceMul, Nat.reduceLT, Nat.reduceLeDiff, Nat.reduceBEq, Nat.reduceBNe, Nat.reduceGT, Int.reduceEq, Int.reduceLT, Int.reduceLE, Int.reduceToNat, Int.reduceAdd, Int.reduceSub, Int.reduceMul, Int.reduceNeg, Int.reduceBEq, Int.reduceBNe, b_store_Store_Read, h1, f0]
end Go.Proofs.YthdiljjbcaleoaaDoor.Ret

/- The newest record: the program's. -/
namespace Go.Proofs.YthdiljjbcaleoaaDoor.Ret
open Go Go.Proofs.YthdiljjbcaleoaaDoor.Sym Go.Proofs.YthdiljjbcaleoaaDoor.Tab
set_option linter.unusedVariables false
set_option linter.unusedSimpArgs false
set_option maxHeartbeats 4000000
set_option maxRecDepth 20000
def nres : Option (Nat × Rec) → AV
  | none => .tup [.v (.int .i64 0), .agg (oav none), .v (.bool false)]
  | some (i, r) => .tup [.v (.int .i64 i), .agg r.av, .v (.bool true)]
structure Sto.Ok (d : Sto) (c : Option Nat) : Prop where
  by_ : By d.b
  len : d.b.length ≤ 1000
  cap : c.getD d.b.length = d.b.length
  left : d.left ≤ 1000
theorem newest_a (k : Nat) (hk : 2001 ≤ k) (d : Sto) (c : Option Nat) (h : d.Ok c) : acall T (k + 7) 25 1 [.ptr 0 0] [so d c, ro d.b] = some ⟨nres (nwL d.b), [so d c, ro d.b], 1⟩ := by
  have f0 : (bytesV d.b).all flat0 = true := all_bytesF
  rw [acall_go (body := b_retain_newest) rfl rfl (Nat.le_succ 1)]
  by_cases c0 : d.b.length < 74
  · have r0 := read_no (k + 3) d c h.len 0 74 (by omega)
    have hn : nwL d.b = none := if_pos (by omega)
    rw [hn]
    simp only [so, ro, nres, oav, natLit, Int.natCast_zero] at r0 ⊢
    generalize bytesV d.b = cs at *
    generalize d.b.length = m at *
    simp -implicitDefEqProofs only [eqs, eqd, aCall, Sym.reach, Sym.pos, Sym.sub, lh_some, ↓reduceIte, reduceCtorEq, Nat.reduceEqDiff, Nat.reduceAdd, Nat.reduceSub, Nat.reduceMul, Nat.reduceLT, Nat.reduceLeDiff, Nat.reduceBEq, Nat.reduceBNe, Nat.reduceGT, Int.reduceEq, Int.reduceLT, Int.reduceLE, Int.reduceToNat, Int.reduceAdd, Int.reduceSub, Int.reduceMul, Int.reduceNeg, Int.reduceBEq, Int.reduceBNe, g_retain_newest_0, g_retain_newest_1, b_retain_newest, g_retain_newest_0, g_retain_newest_1, l_retain_newest_0, l_retain_newest_1, f0, r0]
  have r0 := read_yes (k + 3) d c h.cap h.len 0 74 (by omega)
  have e0 : (d.b.drop 0).take 74 = slotAt d.b 0 := rfl
  rw [e0] at r0
  have p0 := parse_a k hk (slotAt d.b 0) (by_slotAt h.by_ 0) (slot_len' (by omega))
  by_cases c1 : d.b.length < 148
  · have r1 := read_no (k + 3) d c h.len 74 74 (by omega)
    have hn : nwL d.b = none := if_pos (by omega)
    rw [hn]
    cases q0 : prs (slotAt d.b 0) with
    | none =>
      rw [q0] at p0
      simp only [so, ro, nres, oav, sv, pav, natLit, Int.natCast_zero, Option.isSome_none, Option.isSome_some] at r0 r1 p0 ⊢
      generalize strOfNums (slotAt d.b 0) = y0 at *
      generalize bytesV d.b = cs at *
      generalize d.b.length = m at *
      simp -implicitDefEqProofs (maxSteps := 1000000) only [eqs, eqd, aCall, Sym.reach, Sym.pos, Sym.sub, lh_some, ↓reduceIte, reduceCtorEq, Nat.reduceEqDiff, Nat.reduceAdd, Nat.reduceSub, Nat.reduceMul, Nat.reduceLT, Nat.reduceLeDiff, Nat.reduceBEq, Nat.reduceBNe, Nat.reduceGT, Int.reduceEq, Int.reduceLT, Int.reduceLE, Int.reduceToNat, Int.reduceAdd, Int.reduceSub, Int.reduceMul, Int.reduceNeg, Int.reduceBEq, Int.reduceBNe, g_retain_newest_0, g_retain_newest_1, b_retain_newest, g_retain_newest_0, g_retain_newest_1, l_retain_newest_0, l_retain_newest_1, f0, r0, r1, p0]
    | some x =>
      rw [q0] at p0
      simp only [so, ro, nres, oav, sv, pav, Rec.av, natLit, Int.natCast_zero, Option.isSome_none, Option.isSome_some] at r0 r1 p0 ⊢
      generalize strOfNums (slotAt d.b 0) = y0 at *
      generalize bytesV d.b = cs at *
      generalize d.b.length = m at *
      simp -implicitDefEqProofs (maxSteps := 1000000) only [eqs, eqd, aCall, Sym.reach, Sym.pos, Sym.sub, lh_some, ↓reduceIte, reduceCtorEq, Nat.reduceEqDiff, Nat.reduceAdd, Nat.reduceSub, Nat.reduceMul, Nat.reduceLT, Nat.reduceLeDiff, Nat.reduceBEq, Nat.reduceBNe, Nat.reduceGT, Int.reduceEq, Int.reduceLT, Int.reduceLE, Int.reduceToNat, Int.reduceAdd, Int.reduceSub, Int.reduceMul, Int.reduceNeg, Int.reduceBEq, Int.reduceBNe, g_retain_newest_0, g_retain_newest_1, b_retain_newest, g_retain_newest_0, g_retain_newest_1, l_retain_newest_0, l_retain_newest_1, f0, r0, r1, p0]
  have r1 := read_yes (k + 3) d c h.cap h.len 74 74 (by omega)
  have e1 : (d.b.drop 74).take 74 = slotAt d.b 1 := rfl
  rw [e1] at r1
  have p1 := parse_a k hk (slotAt d.b 1) (by_slotAt h.by_ 1) (slot_len' (by omega))
  have hn : nwL d.b = nw (prs (slotAt d.b 0)) (prs (slotAt d.b 1)) := if_neg c1
  rw [hn]
  cases q0 : prs (slotAt d.b 0) with
  | none =>
    cases q1 : prs (slotAt d.b 1) with
    | none =>
      rw [q0] at p0
      rw [q1] at p1
      simp only [so, ro, nw, nres, oav, sv, pav, Rec.av, natLit, Int.natCast_zero, Option.isSome_none, Option.isSome_some] at r0 r1 p0 p1 ⊢
      generalize strOfNums (slotAt d.b 0) = y0 at *
      generalize strOfNums (slotAt d.b 1) = y1 at *
      generalize bytesV d.b = cs at *
      generalize d.b.length = m at *
      simp -implicitDefEqProofs (maxSteps := 1000000) only [eqs, eqd, aCall, Sym.reach, Sym.pos, Sym.sub, lh_some, ↓reduceIte, reduceCtorEq, Nat.reduceEqDiff, Nat.reduceAdd, Nat.reduceSub, Nat.reduceMul, Nat.reduceLT, Nat.reduceLeDiff, Nat.reduceBEq, Nat.reduceBNe, Nat.reduceGT, Int.reduceEq, Int.reduceLT, Int.reduceLE, Int.reduceToNat, Int.reduceAdd, Int.reduceSub, Int.reduceMul, Int.reduceNeg, Int.reduceBEq, Int.reduceBNe, g_retain_newest_0, g_retain_newest_1, b_retain_newest, g_retain_newest_0, g_retain_newest_1, l_retain_newest_0, l_retain_newest_1, f0, r0, r1, p0, p1]
    | some x =>
      rw [q0] at p0
      rw [q1] at p1
      simp only [so, ro, nw, nres, oav, sv, pav, Rec.av, natLit, Int.natCast_zero, Option.isSome_none, Option.isSome_some, Int.natCast_one] at r0 r1 p0 p1 ⊢
      generalize strOfNums (slotAt d.b 0) = y0 at *
      generalize strOfNums (slotAt d.b 1) = y1 at *
      generalize bytesV d.b = cs at *
      generalize d.b.length = m at *
      simp -implicitDefEqProofs (maxSteps := 1000000) only [eqs, eqd, aCall, Sym.reach, Sym.pos, Sym.sub, lh_some, ↓reduceIte, reduceCtorEq, Nat.reduceEqDiff, Nat.reduceAdd, Nat.reduceSub, Nat.reduceMul, Nat.reduceLT, Nat.reduceLeDiff, Nat.reduceBEq, Nat.reduceBNe, Nat.reduceGT, Int.reduceEq, Int.reduceLT, Int.reduceLE, Int.reduceToNat, Int.reduceAdd, Int.reduceSub, Int.reduceMul, Int.reduceNeg, Int.reduceBEq, Int.reduceBNe, g_retain_newest_0, g_retain_newest_1, b_retain_newest, g_retain_newest_0, g_retain_newest_1, l_retain_newest_0, l_retain_newest_1, f0, r0, r1, p0, p1]
  | some x =>
    cases q1 : prs (slotAt d.b 1) with
    | none =>
      rw [q0] at p0
      rw [q1] at p1
      simp only [so, ro, nw, nres, oav, sv, pav, Rec.av, natLit, Int.natCast_zero, Option.isSome_none, Option.isSome_some] at r0 r1 p0 p1 ⊢
      generalize strOfNums (slotAt d.b 0) = y0 at *
      generalize strOfNums (slotAt d.b 1) = y1 at *
      generalize bytesV d.b = cs at *
      generalize d.b.length = m at *
      simp -implicitDefEqProofs (maxSteps := 1000000) only [eqs, eqd, aCall, Sym.reach, Sym.pos, Sym.sub, lh_some, ↓reduceIte, reduceCtorEq, Nat.reduceEqDiff, Nat.reduceAdd, Nat.reduceSub, Nat.reduceMul, Nat.reduceLT, Nat.reduceLeDiff, Nat.reduceBEq, Nat.reduceBNe, Nat.reduceGT, Int.reduceEq, Int.reduceLT, Int.reduceLE, Int.reduceToNat, Int.reduceAdd, Int.reduceSub, Int.reduceMul, Int.reduceNeg, Int.reduceBEq, Int.reduceBNe, g_retain_newest_0, g_retain_newest_1, b_retain_newest, g_retain_newest_0, g_retain_newest_1, l_retain_newest_0, l_retain_newest_1, f0, r0, r1, p0, p1]
    | some y =>
      rw [q0] at p0
      rw [q1] at p1
      by_cases g : x.seq < y.seq
      · have g1 : (x.seq : Int) < y.seq := by omega
        simp only [so, ro, nw, if_pos g, nres, oav, sv, pav, Rec.av, natLit, Int.natCast_zero, Option.isSome_none, Option.isSome_some, Int.natCast_one] at r0 r1 p0 p1 ⊢
        generalize strOfNums (slotAt d.b 0) = y0 at *
        generalize strOfNums (slotAt d.b 1) = y1 at *
        generalize bytesV d.b = cs at *
        generalize d.b.length = m at *
        simp -implicitDefEqProofs (maxSteps := 1000000) only [eqs, eqd, aCall, Sym.reach, Sym.pos, Sym.sub, lh_some, ↓reduceIte, reduceCtorEq, Nat.reduceEqDiff, Nat.reduceAdd, Nat.reduceSub, Nat.reduceMul, Nat.reduceLT, Nat.reduceLeDiff, Nat.reduceBEq, Nat.reduceBNe, Nat.reduceGT, Int.reduceEq, Int.reduceLT, Int.reduceLE, Int.reduceToNat, Int.reduceAdd, Int.reduceSub, Int.reduceMul, Int.reduceNeg, Int.reduceBEq, Int.reduceBNe, g_retain_newest_0, g_retain_newest_1, b_retain_newest, g_retain_newest_0, g_retain_newest_1, l_retain_newest_0, l_retain_newest_1, f0, r0, r1, p0, p1, g1]
      · have g1 : ¬ (x.seq : Int) < y.seq := by omega
        simp only [so, ro, nw, if_neg g, nres, oav, sv, pav, Rec.av, natLit, Int.natCast_zero, Option.isSome_none, Option.isSome_some] at r0 r1 p0 p1 ⊢
        generalize strOfNums (slotAt d.b 0) = y0 at *
        generalize strOfNums (slotAt d.b 1) = y1 at *
        generalize bytesV d.b = cs at *
        generalize d.b.length = m at *
        simp -implicitDefEqProofs (maxSteps := 1000000) only [eqs, eqd, aCall, Sym.reach, Sym.pos, Sym.sub, lh_some, ↓reduceIte, reduceCtorEq, Nat.reduceEqDiff, Nat.reduceAdd, Nat.reduceSub, Nat.reduceMul, Nat.reduceLT, Nat.reduceLeDiff, Nat.reduceBEq, Nat.reduceBNe, Nat.reduceGT, Int.reduceEq, Int.reduceLT, Int.reduceLE, Int.reduceToNat, Int.reduceAdd, Int.reduceSub, Int.reduceMul, Int.reduceNeg, Int.reduceBEq, Int.reduceBNe, g_retain_newest_0, g_retain_newest_1, b_retain_newest, g_retain_newest_0, g_retain_newest_1, l_retain_newest_0, l_retain_newest_1, f0, r0, r1, p0, p1, g1]
def lres (o : Option (Nat × Rec)) : AV := .tup [.agg (oav (o.map (·.2))), .v (.bool o.isSome)]
theorem load_a (k : Nat) (hk : 2001 ≤ k) (d : Sto) (c : Option Nat) (h : d.Ok c) : acall T (k + 8) 12 1 [.ptr 0 0] [so d c, ro d.b] = some ⟨lres (nwL d.b), [so d c, ro d.b], 1⟩ := by
  have f0 : (bytesV d.b).all flat0 = true := all_bytesF
  have h1 := newest_a k hk d c h
  rw [acall_go (body := b_retain_Load) rfl rfl (Nat.le_succ 1)]
  generalize nwL d.b = o at *
  cases o with
  | none =>
    simp only [so, ro, nres, lres, oav, Option.map_none, Option.isSome_none] at h1 ⊢
    generalize bytesV d.b = cs at *
    generalize d.b.length = m at *
    simp -implicitDefEqProofs only [eqs, eqd, aCall, Sym.reach, Sym.pos, Sym.sub, lh_some, ↓reduceIte, reduceCtorEq, Nat.reduceEqDiff, Nat.reduceAdd, Nat.reduceSub, Nat.reduceMul, Nat.reduceLT, Nat.reduceLeDiff, Nat.reduceBEq, Nat.reduceBNe, Nat.reduceGT, Int.reduceEq, Int.reduceLT, Int.reduceLE, Int.reduceToNat, Int.reduceAdd, Int.reduceSub, Int.reduceMul, Int.reduceNeg, Int.reduceBEq, Int.reduceBNe, b_retain_Load, f0, h1]
  | some p =>
    obtain ⟨i, r⟩ := p
    simp only [so, ro, nres, lres, oav, Rec.av, Option.map_some, Option.isSome_some] at h1 ⊢
    generalize bytesV d.b = cs at *
    generalize d.b.length = m at *
    simp -implicitDefEqProofs only [eqs, eqd, aCall, Sym.reach, Sym.pos, Sym.sub, lh_some, ↓reduceIte, reduceCtorEq, Nat.reduceEqDiff, Nat.reduceAdd, Nat.reduceSub, Nat.reduceMul, Nat.reduceLT, Nat.reduceLeDiff, Nat.reduceBEq, Nat.reduceBNe, Nat.reduceGT, Int.reduceEq, Int.reduceLT, Int.reduceLE, Int.reduceToNat, Int.reduceAdd, Int.reduceSub, Int.reduceMul, Int.reduceNeg, Int.reduceBEq, Int.reduceBNe, b_retain_Load, f0, h1]
end Go.Proofs.YthdiljjbcaleoaaDoor.Ret

/- Bytes written to a store. -/
namespace Go.Proofs.YthdiljjbcaleoaaDoor.Ret
open Go Go.Proofs.YthdiljjbcaleoaaDoor.Sym Go.Proofs.YthdiljjbcaleoaaDoor.Tab
set_option linter.unusedVariables false
set_option linter.unusedSimpArgs false
set_option maxHeartbeats 4000000
set_option maxRecDepth 20000
theorem off_a (k : Nat) (d : Sto) (c : Option Nat) : acall T (k + 1) 17 1 [.ptr 0 0] [so d c, ro d.b] = some ⟨.tup [], [so { d with dark := true, armed := false, left := 0 } c, ro d.b], 2⟩ := by
  have f0 : (bytesV d.b).all flat0 = true := all_bytesF
  rw [acall_go (body := b_store_Store_Off) rfl rfl (Nat.le_succ 1)]
  simp only [so, ro, Int.natCast_zero]
  generalize bytesV d.b = cs at *
  generalize d.b.length = m at *
  simp -implicitDefEqProofs only [eqs, eqd, aCall, Sym.reach, Sym.pos, Sym.sub, lh_some, ↓reduceIte, reduceCtorEq, Nat.reduceEqDiff, Nat.reduceAdd, Nat.reduceSub, Nat.reduceMul, Nat.reduceLT, Nat.reduceLeDiff, Nat.reduceBEq, Nat.reduceBNe, Nat.reduceGT, Int.reduceEq, Int.reduceLT, Int.reduceLE, Int.reduceToNat, Int.reduceAdd, Int.reduceSub, Int.reduceMul, Int.reduceNeg, Int.reduceBEq, Int.reduceBNe, b_store_Store_Off, g_store_Store_Off_0, f0]
theorem on_a (k : Nat) (d : Sto) (c : Option Nat) : acall T (k + 1) 19 1 [.ptr 0 0] [so d c, ro d.b] = some ⟨.tup [], [so { d with dark := false } c, ro d.b], 2⟩ := by
  have f0 : (bytesV d.b).all flat0 = true := all_bytesF
  rw [acall_go (body := b_store_Store_On) rfl rfl (Nat.le_succ 1)]
  simp only [so, ro, Int.natCast_zero]
  generalize bytesV d.b = cs at *
  generalize d.b.length = m at *
  simp -implicitDefEqProofs only [eqs, eqd, aCall, Sym.reach, Sym.pos, Sym.sub, lh_some, ↓reduceIte, reduceCtorEq, Nat.reduceEqDiff, Nat.reduceAdd, Nat.reduceSub, Nat.reduceMul, Nat.reduceLT, Nat.reduceLeDiff, Nat.reduceBEq, Nat.reduceBNe, Nat.reduceGT, Int.reduceEq, Int.reduceLT, Int.reduceLE, Int.reduceToNat, Int.reduceAdd, Int.reduceSub, Int.reduceMul, Int.reduceNeg, Int.reduceBEq, Int.reduceBNe, b_store_Store_On, f0]
theorem arm_a (k : Nat) (d : Sto) (c : Option Nat) (n : Nat) : acall T (k + 1) 16 1 [.ptr 0 0, .v (.int .i64 n)] [so d c, ro d.b] = some ⟨.tup [], [so { d with armed := true, left := n } c, ro d.b], 2⟩ := by
  have f0 : (bytesV d.b).all flat0 = true := all_bytesF
  rw [acall_go (body := b_store_Store_Arm) rfl rfl (Nat.le_succ 1)]
  simp only [so, ro, Int.natCast_zero]
  generalize bytesV d.b = cs at *
  generalize d.b.length = m at *
  have h : (if (n : Int) < 0 then (0 : Int) else n) = n := if_neg (by omega)
  simp -implicitDefEqProofs only [eqs, eqd, aCall, Sym.reach, Sym.pos, Sym.sub, lh_some, ↓reduceIte, reduceCtorEq, Nat.reduceEqDiff, Nat.reduceAdd, Nat.reduceSub, Nat.reduceMul, Nat.reduceLT, Nat.reduceLeDiff, Nat.reduceBEq, Nat.reduceBNe, Nat.reduceGT, Int.reduceEq, Int.reduceLT, Int.reduceLE, Int.reduceToNat, Int.reduceAdd, Int.reduceSub, Int.reduceMul, Int.reduceNeg, Int.reduceBEq, Int.reduceBNe, b_store_Store_Arm, g_store_Store_Arm_0, f0, h]
theorem power_a (k : Nat) (d : Sto) (c : Option Nat) : acall T (k + 1) 29 1 [.ptr 0 0] [so d c, ro d.b] = some ⟨.v (.bool !d.dark), [so d c, ro d.b], 0⟩ := by
  have f0 : (bytesV d.b).all flat0 = true := all_bytesF
  rw [acall_go (body := b_store_Store_Power) rfl rfl (Nat.le_succ 1)]
  simp only [so, ro, Int.natCast_zero]
  generalize bytesV d.b = cs at *
  generalize d.b.length = m at *
  simp -implicitDefEqProofs only [eqs, eqd, aCall, Sym.reach, Sym.pos, Sym.sub, lh_some, ↓reduceIte, reduceCtorEq, Nat.reduceEqDiff, Nat.reduceAdd, Nat.reduceSub, Nat.reduceMul, Nat.reduceLT, Nat.reduceLeDiff, Nat.reduceBEq, Nat.reduceBNe, Nat.reduceGT, Int.reduceEq, Int.reduceLT, Int.reduceLE, Int.reduceToNat, Int.reduceAdd, Int.reduceSub, Int.reduceMul, Int.reduceNeg, Int.reduceBEq, Int.reduceBNe, b_store_Store_Power, f0]
theorem armed_a (k : Nat) (d : Sto) (c : Option Nat) : acall T (k + 1) 28 1 [.ptr 0 0] [so d c, ro d.b] = some ⟨.tup [.v (.int .i64 (if d.armed = true then (d.left : Int) else 0)), .v (.bool d.armed)], [so d c, ro d.b], 0⟩ := by
  have f0 : (bytesV d.b).all flat0 = true := all_bytesF
  rw [acall_go (body := b_store_Store_Armed) rfl rfl (Nat.le_succ 1)]
  simp only [so, ro, Int.natCast_zero]
  generalize bytesV d.b = cs at *
  generalize d.b.length = m at *
  cases d.armed
  · simp -implicitDefEqProofs only [eqs, eqd, aCall, Sym.reach, Sym.pos, Sym.sub, lh_some, ↓reduceIte, reduceCtorEq, Nat.reduceEqDiff, Nat.reduceAdd, Nat.reduceSub, Nat.reduceMul, Nat.reduceLT, Nat.reduceLeDiff, Nat.reduceBEq, Nat.reduceBNe, Nat.reduceGT, Int.reduceEq, Int.reduceLT, Int.reduceLE, Int.reduceToNat, Int.reduceAdd, Int.reduceSub, Int.reduceMul, Int.reduceNeg, Int.reduceBEq, Int.reduceBNe, b_store_Store_Armed, f0]
  · simp -implicitDefEqProofs only [eqs, eqd, aCall, Sym.reach, Sym.pos, Sym.sub, lh_some, ↓reduceIte, reduceCtorEq, Nat.reduceEqDiff, Nat.reduceAdd, Nat.reduceSub, Nat.reduceMul, Nat.reduceLT, Nat.reduceLeDiff, Nat.reduceBEq, Nat.reduceBNe, Nat.reduceGT, Int.reduceEq, Int.reduceLT, Int.reduceLE, Int.reduceToNat, Int.reduceAdd, Int.reduceSub, Int.reduceMul, Int.reduceNeg, Int.reduceBEq, Int.reduceBNe, b_store_Store_Armed, f0]
theorem write_a (k : Nat) (d : Sto) (c : Option Nat) (hd : d.Ok c) (a : Nat) (m : List Int) (hm : By m) (h : a + m.length ≤ d.b.length) : acall T (k + 3) 35 1 [.ptr 0 0, .v (.int .i64 a), sv m] [so d c, ro d.b] = some ⟨.v (.int .i64 (wr d a m).1), [so (wr d a m).2 c, ro (wr d a m).2.b], 2⟩ := by
  have f0 : (bytesV d.b).all flat0 = true := all_bytesF
  have h1 := there_yes k d c hd.len a m.length h
  have hs := so_size m
  rw [acall_go (body := b_store_Store_Write) rfl rfl (Nat.le_succ 1)]
  unfold wr
  cases hk : d.dark with
  | true =>
    rw [if_pos rfl]
    simp only [so, ro, sv, hk] at h1 ⊢
    generalize strOfNums m = y at *
    generalize bytesV d.b = cs at *
    generalize d.b.length = q at *
    simp -implicitDefEqProofs only [eqs, eqd, aCall, Sym.reach, Sym.pos, Sym.sub, lh_some, ↓reduceIte, reduceCtorEq, Nat.reduceEqDiff, Nat.reduceAdd, Nat.reduceSub, Nat.reduceMul, Nat.reduceLT, Nat.reduceLeDiff, Nat.reduceBEq, Nat.reduceBNe, Nat.reduceGT, Int.reduceEq, Int.reduceLT, Int.reduceLE, Int.reduceToNat, Int.reduceAdd, Int.reduceSub, Int.reduceMul, Int.reduceNeg, Int.reduceBEq, Int.reduceBNe, g_store_Store_Write_0, g_store_Store_Write_1, g_store_Store_Write_2, b_store_Store_Write, g_store_Store_Write_0, g_store_Store_Write_1, g_store_Store_Write_2, h1, hs, f0]
  | false =>
    rw [if_neg (by decide)]
    have hlen := hd.len
    have c5 : (0 : Int) ≤ (a : Int) := by omega
    have c6 : a ≤ d.b.length := by omega
    have hcap := hd.cap
    have hbl : (bytesV d.b).length = d.b.length := bytesV_length
    cases ha : d.armed with
    | false =>
      have hcan : d.can m.length = m.length := by unfold Sto.can; rw [ha]; rfl
      rw [if_neg (by rw [hcan]; omega)]
      have e1 := so_ext m 0 m.length (Nat.le_refl _)
      rw [List.drop_zero, List.take_length] at e1
      have e2 := bytes_cells hm
      have e3 : Nat.min m.length (d.b.length - a) = m.length := Nat.min_eq_left (by omega)
      have e4 : (bytesV m).take m.length = bytesV m := bytes_full m
      have e5 : putL (bytesV d.b) a (bytesV m) = bytesV (putI d.b a m) := putL_bytes
      have fm : (bytesV m).all flat0 = true := all_bytesF
      have am : (bytesV m).all atom = true := all_bytesA
      have fp : (bytesV (putI d.b a m)).all flat0 = true := all_bytesF
      have c7 : (0 : Int) ≤ (m.length : Int) := by omega
      have c8 : ¬ (m.length : Int) < m.length := by omega
      have c9 : a + (d.b.length - a) ≤ d.b.length := by omega
      have ew : IntKind.i64.wrap (d.wrote + (m.length : Int)) = i64 (d.wrote + m.length) := rfl
      simp only [so, ro, sv, hk, ha, putI_len, Bool.false_eq_true, if_false] at h1 ⊢
      clear hcan
      generalize hy : strOfNums m = y at *
      generalize bytesV (putI d.b a m) = cs2 at *
      generalize bytesV d.b = cs at *
      generalize bytesV m = cs3 at *
      generalize m.length = n at *
      generalize hu : d.b.length - a = u at *
      generalize d.b.length = q at *
      simp -implicitDefEqProofs only [eqs, eqd, aCall, Sym.reach, Sym.pos, Sym.sub, lh_some, ↓reduceIte, reduceCtorEq, Nat.reduceEqDiff, Nat.reduceAdd, Nat.reduceSub, Nat.reduceMul, Nat.reduceLT, Nat.reduceLeDiff, Nat.reduceBEq, Nat.reduceBNe, Nat.reduceGT, Int.reduceEq, Int.reduceLT, Int.reduceLE, Int.reduceToNat, Int.reduceAdd, Int.reduceSub, Int.reduceMul, Int.reduceNeg, Int.reduceBEq, Int.reduceBNe, g_store_Store_Write_0, g_store_Store_Write_1, g_store_Store_Write_2, b_store_Store_Write, g_store_Store_Write_0, g_store_Store_Write_1, g_store_Store_Write_2, h1, hs, f0, c5, c6, hcap, hbl, e1, e2, e3, e4, e5, fm, am, fp, c7, c8, c9, hu, ew, Int.toNat_natCast]
    | true =>
      by_cases hl : d.left < m.length
      · have hcan : d.can m.length = d.left := by unfold Sto.can; rw [ha]; exact Nat.min_eq_right (by omega)
        rw [hcan, if_pos hl]
        have e1 := so_ext m 0 d.left (by omega)
        rw [List.drop_zero] at e1
        have e2 := bytes_cells (hm.take d.left)
        have lt : (m.take d.left).length = d.left := by rw [List.length_take]; omega
        have e3 : Nat.min d.left (d.b.length - a) = d.left := Nat.min_eq_left (by omega)
        have e4 : (bytesV (m.take d.left)).take d.left = bytesV (m.take d.left) := by
          have := bytes_full (m.take d.left)
          rw [lt] at this
          exact this
        have e5 : putL (bytesV d.b) a (bytesV (m.take d.left)) = bytesV (putI d.b a (m.take d.left)) := putL_bytes
        have e6 := so_size (m.take d.left)
        rw [lt] at e6
        have fm : (bytesV (m.take d.left)).all flat0 = true := all_bytesF
        have am : (bytesV (m.take d.left)).all atom = true := all_bytesA
        have fp : (bytesV (putI d.b a (m.take d.left))).all flat0 = true := all_bytesF
        have c7 : (0 : Int) ≤ (d.left : Int) := by omega
        have c8 : (d.left : Int) < m.length := by omega
        have c9 : a + (d.b.length - a) ≤ d.b.length := by omega
        have c10 : d.left ≤ m.length := by omega
        have w1 : IntKind.i64.wrap ((d.left : Int) - d.left) = 0 := by rw [w64 (by omega) (by omega)]; omega
        have ew : IntKind.i64.wrap (d.wrote + (d.left : Int)) = i64 (d.wrote + d.left) := rfl
        have ho := off_a (k + 1) ⟨putI d.b a (m.take d.left), false, true, 0, i64 (d.wrote + d.left)⟩ c
        simp only [so, ro, sv, hk, ha, putI_len, Bool.false_eq_true, if_false, Int.natCast_zero] at h1 ho ⊢
        clear hcan lt
        generalize hy : strOfNums m = y at *
        generalize bytesV (putI d.b a (m.take d.left)) = cs2 at *
        generalize bytesV d.b = cs at *
        generalize bytesV (m.take d.left) = cs3 at *
        generalize strOfNums (m.take d.left) = y3 at *
        generalize m.length = n at *
        generalize hu : d.b.length - a = u at *
        generalize d.b.length = q at *
        generalize d.left = v at *
        simp -implicitDefEqProofs only [eqs, eqd, aCall, Sym.reach, Sym.pos, Sym.sub, lh_some, ↓reduceIte, reduceCtorEq, Nat.reduceEqDiff, Nat.reduceAdd, Nat.reduceSub, Nat.reduceMul, Nat.reduceLT, Nat.reduceLeDiff, Nat.reduceBEq, Nat.reduceBNe, Nat.reduceGT, Int.reduceEq, Int.reduceLT, Int.reduceLE, Int.reduceToNat, Int.reduceAdd, Int.reduceSub, Int.reduceMul, Int.reduceNeg, Int.reduceBEq, Int.reduceBNe, g_store_Store_Write_0, g_store_Store_Write_1, g_store_Store_Write_2, b_store_Store_Write, g_store_Store_Write_0, g_store_Store_Write_1, g_store_Store_Write_2, h1, hs, f0, c5, c6, hcap, hbl, e1, e2, e3, e4, e5, e6, fm, am, fp, c7, c8, c9, c10, hu, ew, w1, ho, Int.toNat_natCast]
      · have hcan : d.can m.length = m.length := by unfold Sto.can; rw [ha]; exact Nat.min_eq_left (by omega)
        rw [if_neg (by rw [hcan]; omega)]
        have e1 := so_ext m 0 m.length (Nat.le_refl _)
        rw [List.drop_zero, List.take_length] at e1
        have e2 := bytes_cells hm
        have e3 : Nat.min m.length (d.b.length - a) = m.length := Nat.min_eq_left (by omega)
        have e4 : (bytesV m).take m.length = bytesV m := bytes_full m
        have e5 : putL (bytesV d.b) a (bytesV m) = bytesV (putI d.b a m) := putL_bytes
        have fm : (bytesV m).all flat0 = true := all_bytesF
        have am : (bytesV m).all atom = true := all_bytesA
        have fp : (bytesV (putI d.b a m)).all flat0 = true := all_bytesF
        have c7 : (0 : Int) ≤ (m.length : Int) := by omega
        have c8 : ¬ (m.length : Int) < m.length := by omega
        have c9 : a + (d.b.length - a) ≤ d.b.length := by omega
        have c10 : ¬ (d.left : Int) < m.length := by omega
        have ew : IntKind.i64.wrap (d.wrote + (m.length : Int)) = i64 (d.wrote + m.length) := rfl
        by_cases hbig : (d.left : Int) ≤ 9223372036854775807
        · have w1 : IntKind.i64.wrap ((d.left : Int) - m.length) = ((d.left - m.length : Nat) : Int) := by rw [w64 (by omega) (by omega)]; omega
          simp only [so, ro, sv, hk, ha, putI_len, Bool.false_eq_true, if_true] at h1 ⊢
          clear hcan
          generalize hy : strOfNums m = y at *
          generalize bytesV (putI d.b a m) = cs2 at *
          generalize bytesV d.b = cs at *
          generalize bytesV m = cs3 at *
          generalize d.left - m.length = v2 at *
          generalize m.length = n at *
          generalize hu : d.b.length - a = u at *
          generalize d.b.length = q at *
          simp -implicitDefEqProofs only [eqs, eqd, aCall, Sym.reach, Sym.pos, Sym.sub, lh_some, ↓reduceIte, reduceCtorEq, Nat.reduceEqDiff, Nat.reduceAdd, Nat.reduceSub, Nat.reduceMul, Nat.reduceLT, Nat.reduceLeDiff, Nat.reduceBEq, Nat.reduceBNe, Nat.reduceGT, Int.reduceEq, Int.reduceLT, Int.reduceLE, Int.reduceToNat, Int.reduceAdd, Int.reduceSub, Int.reduceMul, Int.reduceNeg, Int.reduceBEq, Int.reduceBNe, g_store_Store_Write_0, g_store_Store_Write_1, g_store_Store_Write_2, b_store_Store_Write, g_store_Store_Write_0, g_store_Store_Write_1, g_store_Store_Write_2, h1, hs, f0, c5, c6, hcap, hbl, e1, e2, e3, e4, e5, fm, am, fp, c7, c8, c9, c10, hu, ew, w1, Int.toNat_natCast]
        · exact absurd hd.left (by omega)
end Go.Proofs.YthdiljjbcaleoaaDoor.Ret

/- A commit: the program's. -/
namespace Go.Proofs.YthdiljjbcaleoaaDoor.Ret
open Go Go.Proofs.YthdiljjbcaleoaaDoor.Sym Go.Proofs.YthdiljjbcaleoaaDoor.Tab
set_option linter.unusedVariables false
set_option linter.unusedSimpArgs false
set_option maxHeartbeats 4000000
set_option maxRecDepth 20000
theorem wr_len (d : Sto) (a : Nat) (m : List Int) : (wr d a m).2.b.length = d.b.length := by
  unfold wr
  split
  · rfl
  split <;> simp only [putI_len]
theorem wr_ok {d : Sto} {c : Option Nat} (h : d.Ok c) (a : Nat) {m : List Int} (hm : By m) : (wr d a m).2.Ok c := by
  have hl := wr_len d a m
  refine ⟨?_, by rw [hl]; exact h.len, by rw [hl]; exact h.cap, ?_⟩
  · unfold wr
    split
    · exact h.by_
    split
    · exact h.by_.putI (hm.take _) _
    · exact h.by_.putI hm _
  · unfold wr
    have := h.left
    split
    · exact this
    split
    · exact Nat.zero_le _
    · show (if d.armed = true then d.left - m.length else d.left) ≤ 1000
      split <;> omega
theorem size_a (k : Nat) : acall T (k + 1) 15 0 [] [] = some ⟨.v (.int .i64 148), [], 0⟩ := by
  rw [acall_go (body := b_retain_Size) rfl rfl (Nat.zero_le _)]
  simp -implicitDefEqProofs only [eqs, eqd, aCall, Sym.reach, Sym.pos, Sym.sub, lh_some, ↓reduceIte, reduceCtorEq, Nat.reduceEqDiff, Nat.reduceAdd, Nat.reduceSub, Nat.reduceMul, Nat.reduceLT, Nat.reduceLeDiff, Nat.reduceBEq, Nat.reduceBNe, Nat.reduceGT, Int.reduceEq, Int.reduceLT, Int.reduceLE, Int.reduceToNat, Int.reduceAdd, Int.reduceSub, Int.reduceMul, Int.reduceNeg, Int.reduceBEq, Int.reduceBNe, b_retain_Size]
def cres (e : Int) (s inc : Nat) (data : ByteArray) : AV := .tup [.agg (if e = 0 then Rec.av ⟨s, inc, data⟩ else oav none), .v (.int .i64 e)]
/-- The three writes of a commit, from a loop's head on. -/
def cst (d : Sto) (c : Option Nat) (s inc : Nat) (data z : ByteArray) (j i : Nat) : St := ⟨[(0, .ptr 0 0), (3, .ptr 1 0), (4, .ptr 2 0), (6, .v (.int .i64 j)), (39, .view 3 0 3 2 (some 3)), (40, .v (.int .i64 3)), (41, .v (.int .i64 i))],
  [⟨true, false, false, [.view 4 0 d.b.length 1 c, .v (.bool d.dark), .v (.bool d.armed), .v (.int .i64 d.left), .v (.int .i64 d.wrote)]⟩, ⟨true, true, true, [.v (.int .u32 s), .v (.int .u16 inc), .v (.string data)]⟩, ⟨true, true, true, [.v (.int .u32 0), .v (.int .u16 0), .v (.string ByteArray.empty)]⟩,
   ⟨true, true, true, [.v (.int .i64 0), .v (.string ⟨#[0]⟩), .v (.int .i64 1), .v (.string z), .v (.int .i64 0), .v (.string ⟨#[165]⟩)]⟩, ro d.b], if i = 0 then 1 else 2, [0]⟩
noncomputable abbrev cfin (C : CT) (lf : Nat) (s : St) (N : Nat) : Option Res := FnR [.cell 4 (some 3), .t 5] false true (Lh C lf (some s) [0, 3, 4, 6, 39, 40, 41] l_retain_commit_0 N [.b 0, .c l_retain_commit_1])
theorem commit_round (k lf : Nat) (d : Sto) (c : Option Nat) (hd : d.Ok c) (s inc : Nat) (data : ByteArray) (w : List Int) (hw : By w) (j i : Nat) (hi : i < 3) (N : Nat) (A : Nat) (m : List Int) (hm : By m) (hm2 : i = 0 ∧ m = [0] ∧ A = 74 * j ∨ i = 1 ∧ m = w ∧ A = 74 * j + 1 ∨ i = 2 ∧ m = [165] ∧ A = 74 * j) (h : A + m.length ≤ d.b.length) :
    cfin (acall T (k + 3)) lf (cst d c s inc data (strOfNums w) j i) (N + 1) = if (wr d A m).1 = 0 then cfin (acall T (k + 3)) lf (cst (wr d A m).2 c s inc data (strOfNums w) j (i + 1)) N else some ⟨.tup [.agg (oav none), .v (.int .i64 (wr d A m).1)], [so (wr d A m).2 c, ro (wr d A m).2.b], 2⟩ := by
  have p := write_a k d c hd A m hm h
  have hl := wr_len d A m
  have hlen := hd.len
  have f0 : (bytesV d.b).all flat0 = true := all_bytesF
  have f1 : (bytesV (wr d A m).2.b).all flat0 = true := all_bytesF
  have wb : IntKind.i64.wrap ((j : Int) * 74) = ((74 * j : Nat) : Int) := by rw [w64 (by omega) (by omega)]; omega
  have wc : IntKind.i64.wrap (((74 * j : Nat) : Int) + 0) = ((74 * j : Nat) : Int) := by rw [w64 (by omega) (by omega)]; omega
  have wd : IntKind.i64.wrap (((74 * j : Nat) : Int) + 1) = ((74 * j + 1 : Nat) : Int) := by rw [w64 (by omega) (by omega)]; omega
  have z0 : (⟨#[0]⟩ : ByteArray) = strOfNums [0] := rfl
  have z1 : (⟨#[165]⟩ : ByteArray) = strOfNums [165] := rfl
  unfold cfin cst
  rw [lh_as l_retain_commit_0.eq_1]
  simp only [so, ro, sv, oav] at p ⊢
  rw [hl] at p ⊢
  by_cases he : (wr d A m).1 = 0
  · have he2 : ((wr d A m).1 != 0) = false := by simpa using he
    rw [if_pos he]
    rcases hm2 with ⟨rfl, rfl, rfl⟩ | ⟨rfl, rfl, rfl⟩ | ⟨rfl, rfl, rfl⟩
    · generalize wr d (74 * j) [0] = r at *
      obtain ⟨e, d2⟩ := r
      simp only at p he he2 f1 ⊢
      generalize bytesV d.b = cs at *
      generalize bytesV d2.b = cs2 at *
      generalize d.b.length = q at *
      generalize strOfNums w = y at *
      rw [z0, z1]
      generalize strOfNums [0] = y0 at *
      generalize strOfNums [165] = y1 at *
      generalize 74 * j = A at *
      simp -implicitDefEqProofs only [eqs, eqd, aCall, Sym.reach, Sym.pos, Sym.sub, ↓reduceIte, reduceCtorEq, Nat.reduceEqDiff, Nat.reduceAdd, Nat.reduceSub, Nat.reduceMul, Nat.reduceLT, Nat.reduceLeDiff, Nat.reduceBEq, Nat.reduceBNe, Nat.reduceGT, Int.reduceEq, Int.reduceLT, Int.reduceLE, Int.reduceToNat, Int.reduceAdd, Int.reduceSub, Int.reduceMul, Int.reduceNeg, Int.reduceBEq, Int.reduceBNe, nx_nil, p, f0, f1, wb, wc, wd, he2]
    · generalize wr d (74 * j + 1) m = r at *
      obtain ⟨e, d2⟩ := r
      simp only at p he he2 f1 ⊢
      generalize bytesV d.b = cs at *
      generalize bytesV d2.b = cs2 at *
      generalize d.b.length = q at *
      generalize strOfNums m = y at *
      rw [z0, z1]
      generalize strOfNums [0] = y0 at *
      generalize strOfNums [165] = y1 at *
      generalize hA2 : 74 * j + 1 = A2 at *
      generalize 74 * j = A at *
      simp -implicitDefEqProofs only [eqs, eqd, aCall, Sym.reach, Sym.pos, Sym.sub, ↓reduceIte, reduceCtorEq, Nat.reduceEqDiff, Nat.reduceAdd, Nat.reduceSub, Nat.reduceMul, Nat.reduceLT, Nat.reduceLeDiff, Nat.reduceBEq, Nat.reduceBNe, Nat.reduceGT, Int.reduceEq, Int.reduceLT, Int.reduceLE, Int.reduceToNat, Int.reduceAdd, Int.reduceSub, Int.reduceMul, Int.reduceNeg, Int.reduceBEq, Int.reduceBNe, nx_nil, p, f0, f1, wb, wc, wd, he2]
    · generalize wr d (74 * j) [165] = r at *
      obtain ⟨e, d2⟩ := r
      simp only at p he he2 f1 ⊢
      generalize bytesV d.b = cs at *
      generalize bytesV d2.b = cs2 at *
      generalize d.b.length = q at *
      generalize strOfNums w = y at *
      rw [z0, z1]
      generalize strOfNums [0] = y0 at *
      generalize strOfNums [165] = y1 at *
      generalize 74 * j = A at *
      simp -implicitDefEqProofs only [eqs, eqd, aCall, Sym.reach, Sym.pos, Sym.sub, ↓reduceIte, reduceCtorEq, Nat.reduceEqDiff, Nat.reduceAdd, Nat.reduceSub, Nat.reduceMul, Nat.reduceLT, Nat.reduceLeDiff, Nat.reduceBEq, Nat.reduceBNe, Nat.reduceGT, Int.reduceEq, Int.reduceLT, Int.reduceLE, Int.reduceToNat, Int.reduceAdd, Int.reduceSub, Int.reduceMul, Int.reduceNeg, Int.reduceBEq, Int.reduceBNe, nx_nil, p, f0, f1, wb, wc, wd, he2]
  · have he2 : ((wr d A m).1 != 0) = true := by simpa using he
    rw [if_neg he]
    rcases hm2 with ⟨rfl, rfl, rfl⟩ | ⟨rfl, rfl, rfl⟩ | ⟨rfl, rfl, rfl⟩
    · generalize wr d (74 * j) [0] = r at *
      obtain ⟨e, d2⟩ := r
      simp only at p he he2 f1 ⊢
      generalize bytesV d.b = cs at *
      generalize bytesV d2.b = cs2 at *
      generalize d.b.length = q at *
      generalize strOfNums w = y at *
      rw [z0, z1]
      generalize strOfNums [0] = y0 at *
      generalize strOfNums [165] = y1 at *
      generalize 74 * j = A at *
      simp -implicitDefEqProofs only [eqs, eqd, aCall, Sym.reach, Sym.pos, Sym.sub, ↓reduceIte, reduceCtorEq, Nat.reduceEqDiff, Nat.reduceAdd, Nat.reduceSub, Nat.reduceMul, Nat.reduceLT, Nat.reduceLeDiff, Nat.reduceBEq, Nat.reduceBNe, Nat.reduceGT, Int.reduceEq, Int.reduceLT, Int.reduceLE, Int.reduceToNat, Int.reduceAdd, Int.reduceSub, Int.reduceMul, Int.reduceNeg, Int.reduceBEq, Int.reduceBNe, nx_nil, p, f0, f1, wb, wc, wd, he2]
    · generalize wr d (74 * j + 1) m = r at *
      obtain ⟨e, d2⟩ := r
      simp only at p he he2 f1 ⊢
      generalize bytesV d.b = cs at *
      generalize bytesV d2.b = cs2 at *
      generalize d.b.length = q at *
      generalize strOfNums m = y at *
      rw [z0, z1]
      generalize strOfNums [0] = y0 at *
      generalize strOfNums [165] = y1 at *
      generalize hA2 : 74 * j + 1 = A2 at *
      generalize 74 * j = A at *
      simp -implicitDefEqProofs only [eqs, eqd, aCall, Sym.reach, Sym.pos, Sym.sub, ↓reduceIte, reduceCtorEq, Nat.reduceEqDiff, Nat.reduceAdd, Nat.reduceSub, Nat.reduceMul, Nat.reduceLT, Nat.reduceLeDiff, Nat.reduceBEq, Nat.reduceBNe, Nat.reduceGT, Int.reduceEq, Int.reduceLT, Int.reduceLE, Int.reduceToNat, Int.reduceAdd, Int.reduceSub, Int.reduceMul, Int.reduceNeg, Int.reduceBEq, Int.reduceBNe, nx_nil, p, f0, f1, wb, wc, wd, he2]
    · generalize wr d (74 * j) [165] = r at *
      obtain ⟨e, d2⟩ := r
      simp only at p he he2 f1 ⊢
      generalize bytesV d.b = cs at *
      generalize bytesV d2.b = cs2 at *
      generalize d.b.length = q at *
      generalize strOfNums w = y at *
      rw [z0, z1]
      generalize strOfNums [0] = y0 at *
      generalize strOfNums [165] = y1 at *
      generalize 74 * j = A at *
      simp -implicitDefEqProofs only [eqs, eqd, aCall, Sym.reach, Sym.pos, Sym.sub, ↓reduceIte, reduceCtorEq, Nat.reduceEqDiff, Nat.reduceAdd, Nat.reduceSub, Nat.reduceMul, Nat.reduceLT, Nat.reduceLeDiff, Nat.reduceBEq, Nat.reduceBNe, Nat.reduceGT, Int.reduceEq, Int.reduceLT, Int.reduceLE, Int.reduceToNat, Int.reduceAdd, Int.reduceSub, Int.reduceMul, Int.reduceNeg, Int.reduceBEq, Int.reduceBNe, nx_nil, p, f0, f1, wb, wc, wd, he2]
theorem commit_done (C : CT) (lf : Nat) (d : Sto) (c : Option Nat) (s inc : Nat) (data z : ByteArray) (j N : Nat) : cfin C lf (cst d c s inc data z j 3) N = some ⟨.tup [.agg (Rec.av ⟨s, inc, data⟩), .v (.int .i64 0)], [so d c, ro d.b], 2⟩ := by
  have f0 : (bytesV d.b).all flat0 = true := all_bytesF
  unfold cfin cst
  rw [lh_as l_retain_commit_0.eq_1]
  simp only [so, ro, sv, oav, Rec.av]
  generalize bytesV d.b = cs at *
  generalize d.b.length = q at *
  simp -implicitDefEqProofs only [eqs, eqd, aCall, Sym.reach, Sym.pos, Sym.sub, ↓reduceIte, reduceCtorEq, Nat.reduceEqDiff, Nat.reduceAdd, Nat.reduceSub, Nat.reduceMul, Nat.reduceLT, Nat.reduceLeDiff, Nat.reduceBEq, Nat.reduceBNe, Nat.reduceGT, Int.reduceEq, Int.reduceLT, Int.reduceLE, Int.reduceToNat, Int.reduceAdd, Int.reduceSub, Int.reduceMul, Int.reduceNeg, Int.reduceBEq, Int.reduceBNe, nx_nil, l_retain_commit_1, f0]
end Go.Proofs.YthdiljjbcaleoaaDoor.Ret

/- A commit, whole; a boot; new stores: the program's. -/
namespace Go.Proofs.YthdiljjbcaleoaaDoor.Ret
open Go Go.Proofs.YthdiljjbcaleoaaDoor.Sym Go.Proofs.YthdiljjbcaleoaaDoor.Tab
set_option linter.unusedVariables false
set_option linter.unusedSimpArgs false
set_option maxHeartbeats 4000000
set_option maxRecDepth 20000
theorem commit_run (k lf : Nat) (d : Sto) (c : Option Nat) (hd : d.Ok c) (s inc : Nat) (data : ByteArray) (w : List Int) (hw : By w) (hw2 : w.length = 73) (j : Nat) (hj : 74 * j + 74 ≤ d.b.length) (N : Nat) :
    cfin (acall T (k + 3)) lf (cst d c s inc data (strOfNums w) j 0) (N + 3) = some ⟨cres (wr3 d (74 * j) w).1 s inc data, [so (wr3 d (74 * j) w).2 c, ro (wr3 d (74 * j) w).2.b], 2⟩ := by
  have b0 : By [0] := .cons (by decide) .nil
  have b1 : By [165] := .cons (by decide) .nil
  have r1 := commit_round k lf d c hd s inc data w hw j 0 (by decide) (N + 2) (74 * j) [0] b0 (Or.inl ⟨rfl, rfl, rfl⟩) (by simp; omega)
  have l1 := wr_len d (74 * j) [0]
  have o1 := wr_ok hd (74 * j) b0
  rw [r1]
  unfold wr3 cres
  simp only
  by_cases e1 : (wr d (74 * j) [0]).1 = 0
  · rw [if_pos e1, if_neg (show ¬ ((wr d (74 * j) [0]).1 ≠ 0) from fun h => h e1)]
    generalize (wr d (74 * j) [0]).2 = d1 at *
    have r2 := commit_round k lf d1 c o1 s inc data w hw j 1 (by decide) (N + 1) (74 * j + 1) w hw (Or.inr (Or.inl ⟨rfl, rfl, rfl⟩)) (by omega)
    have l2 := wr_len d1 (74 * j + 1) w
    have o2 := wr_ok o1 (74 * j + 1) hw
    rw [r2]
    by_cases e2 : (wr d1 (74 * j + 1) w).1 = 0
    · rw [if_pos e2, if_neg (show ¬ ((wr d1 (74 * j + 1) w).1 ≠ 0) from fun h => h e2)]
      generalize (wr d1 (74 * j + 1) w).2 = d2 at *
      have r3 := commit_round k lf d2 c o2 s inc data w hw j 2 (by decide) N (74 * j) [165] b1 (Or.inr (Or.inr ⟨rfl, rfl, rfl⟩)) (by simp; omega)
      rw [r3]
      by_cases e3 : (wr d2 (74 * j) [165]).1 = 0
      · rw [if_pos e3, e3, if_pos rfl]
        exact commit_done _ _ _ c s inc data _ j N
      · rw [if_neg e3, if_neg e3]
    · rw [if_neg e2, if_pos e2, if_neg e2]
  · rw [if_neg e1, if_pos e1, if_neg e1]
theorem toAt_le (b : List Int) : toAt (nwL b) ≤ 1 := by
  unfold toAt
  split <;> omega
theorem nw_lt {b : List Int} {i : Nat} {r : Rec} (h : nwL b = some (i, r)) : i ≤ 1 := by
  unfold nwL at h
  split at h
  · cases h
  · rcases nw_at h with ⟨rfl, _⟩ | ⟨rfl, _⟩ <;> decide
theorem nw_in {b : List Int} (hb : By b) {i : Nat} {r : Rec} (h : nwL b = some (i, r)) : r.In := by
  unfold nwL at h
  split at h
  · cases h
  · rcases nw_at h with ⟨rfl, h1, _⟩ | ⟨rfl, h1, _⟩
    · exact prs_in (by_slotAt hb 0) h1
    · exact prs_in (by_slotAt hb 1) h1
theorem was_in {b : List Int} (hb : By b) : (wasR (nwL b)).In := by
  cases h : nwL b with
  | none => exact ⟨by decide, by decide, by decide⟩
  | some p => exact nw_in hb h
theorem commit_a (k : Nat) (hk : 2001 ≤ k) (d : Sto) (c : Option Nat) (hd : d.Ok c) (s0 : Int) (inc : Nat) (data : ByteArray) (hi : inc < 65536) (hdt : data.size ≤ 64) : acall T (k + 10) 24 1 [.ptr 0 0, .agg [.v (.int .u32 s0), .v (.int .u16 inc), .v (.string data)]] [so d c, ro d.b] = some ⟨cres (cmt d inc data).1 ((wasR (nwL d.b)).seq + 1) inc data, [so (cmt d inc data).2 c, ro (cmt d inc data).2.b], 2⟩ := by
  have f0 : (bytesV d.b).all flat0 = true := all_bytesF
  have h1 := newest_a (k + 2) (by omega) d c hd
  have h2 := slen_a (k + 8) d c
  have h3 := size_a (k + 8)
  have hin := was_in hd.by_
  rw [acall_go (body := b_retain_commit) rfl rfl (Nat.le_succ 1)]
  unfold cmt
  by_cases c1 : (wasR (nwL d.b)).seq = 4294967295
  · rw [if_pos c1]
    cases hn : nwL d.b with
    | none => rw [hn] at c1; cases c1
    | some p =>
      obtain ⟨i, r⟩ := p
      rw [hn] at h1 c1
      have c1' : r.seq = 4294967295 := c1
      have c2 : ((r.seq : Int) == 4294967295) = true := by rw [beq_iff_eq]; omega
      simp only [so, ro, nres, cres, oav, Rec.av] at h1 h2 ⊢
      generalize bytesV d.b = cs at *
      generalize d.b.length = q at *
      simp -implicitDefEqProofs only [eqs, eqd, aCall, Sym.reach, Sym.pos, Sym.sub, lh_some, ↓reduceIte, reduceCtorEq, Nat.reduceEqDiff, Nat.reduceAdd, Nat.reduceSub, Nat.reduceMul, Nat.reduceLT, Nat.reduceLeDiff, Nat.reduceBEq, Nat.reduceBNe, Nat.reduceGT, Int.reduceEq, Int.reduceLT, Int.reduceLE, Int.reduceToNat, Int.reduceAdd, Int.reduceSub, Int.reduceMul, Int.reduceNeg, Int.reduceBEq, Int.reduceBNe, b_retain_commit, f0, h1, h2, c2, Int.reduceEq]
  · rw [if_neg c1]
    by_cases c3 : d.b.length < 148
    · rw [if_pos c3]
      have hn : nwL d.b = none := if_pos c3
      rw [hn] at h1 ⊢
      have c4 : (d.b.length : Int) < 148 := by omega
      simp only [so, ro, nres, cres, oav, Rec.av] at h1 h2 ⊢
      generalize bytesV d.b = cs at *
      generalize d.b.length = q at *
      simp -implicitDefEqProofs only [eqs, eqd, aCall, Sym.reach, Sym.pos, Sym.sub, lh_some, ↓reduceIte, reduceCtorEq, Nat.reduceEqDiff, Nat.reduceAdd, Nat.reduceSub, Nat.reduceMul, Nat.reduceLT, Nat.reduceLeDiff, Nat.reduceBEq, Nat.reduceBNe, Nat.reduceGT, Int.reduceEq, Int.reduceLT, Int.reduceLE, Int.reduceToNat, Int.reduceAdd, Int.reduceSub, Int.reduceMul, Int.reduceNeg, Int.reduceBEq, Int.reduceBNe, b_retain_commit, f0, h1, h2, h3, c4, Int.reduceEq]
    · rw [if_neg c3]
      have c4 : ¬ (d.b.length : Int) < 148 := by omega
      have hs := hin.seq
      have hr : (⟨(wasR (nwL d.b)).seq + 1, inc, data⟩ : Rec).In := ⟨by show (wasR (nwL d.b)).seq + 1 < 4294967296; omega, hi, hdt⟩
      have h4 := body_a (k + 4) (by omega) _ hr
      have ht := toAt_le d.b
      have key := commit_run (k + 6) (k + 9) d c hd ((wasR (nwL d.b)).seq + 1) inc data (sealL (b0 ⟨(wasR (nwL d.b)).seq + 1, inc, data⟩)) (by_seal (by_b0 hr)) (by rw [seal_len, b0_len hr]) (toAt (nwL d.b)) (by omega) (k + 5)
      rw [← key]
      clear key
      generalize sealL (b0 ⟨(wasR (nwL d.b)).seq + 1, inc, data⟩) = z at *
      have lp : ∀ (ks : List It) (s : St), Lp (acall T (k + 9)) (k + 9) [0, 3, 4, 6, 39, 40, 41] l_retain_commit_0 (k + 9) ks s = Lh (acall T (k + 9)) (k + 9) (canon [0, 3, 4, 6, 39, 40, 41] s) [0, 3, 4, 6, 39, 40, 41] l_retain_commit_0 (k + 8) ks := fun ks s => lp_succ (n := k + 8)
      unfold cfin cst
      cases hn : nwL d.b with
      | none =>
        rw [hn] at h1 h4
        simp only [so, ro, sv, nres, oav, Rec.av, wasR, toAt, Rec.z, Nat.zero_add, Int.natCast_one, Int.natCast_zero] at h1 h2 h4 ⊢
        generalize bytesV d.b = cs at *
        generalize d.b.length = q at *
        generalize strOfNums z = y at *
        simp -implicitDefEqProofs only [eqs, eqd, aCall, Sym.reach, Sym.pos, Sym.sub, ↓reduceIte, reduceCtorEq, Nat.reduceEqDiff, Nat.reduceAdd, Nat.reduceSub, Nat.reduceMul, Nat.reduceLT, Nat.reduceLeDiff, Nat.reduceBEq, Nat.reduceBNe, Nat.reduceGT, Int.reduceEq, Int.reduceLT, Int.reduceLE, Int.reduceToNat, Int.reduceAdd, Int.reduceSub, Int.reduceMul, Int.reduceNeg, Int.reduceBEq, Int.reduceBNe, b_retain_commit, f0, h1, h2, h3, h4, c4, lp, Int.reduceEq]
      | some p =>
        obtain ⟨i, r⟩ := p
        have hi1 := nw_lt hn
        rw [hn] at h1 h4 c1 hs
        simp only [wasR] at c1 hs
        have c2 : ((r.seq : Int) == 4294967295) = false := by rw [beq_eq_false_iff_ne]; omega
        have w1 : IntKind.u32.wrap ((r.seq : Int) + 1) = ((r.seq + 1 : Nat) : Int) := by rw [wu32 (by omega) (by omega)]; omega
        have w2 : IntKind.i64.wrap (1 - (i : Int)) = ((1 - i : Nat) : Int) := by rw [w64 (by omega) (by omega)]; omega
        simp only [so, ro, sv, nres, oav, Rec.av, wasR, toAt] at h1 h2 h4 ⊢
        generalize bytesV d.b = cs at *
        generalize d.b.length = q at *
        generalize strOfNums z = y at *
        generalize r.seq + 1 = s1 at *
        generalize 1 - i = j at *
        simp -implicitDefEqProofs only [eqs, eqd, aCall, Sym.reach, Sym.pos, Sym.sub, ↓reduceIte, reduceCtorEq, Nat.reduceEqDiff, Nat.reduceAdd, Nat.reduceSub, Nat.reduceMul, Nat.reduceLT, Nat.reduceLeDiff, Nat.reduceBEq, Nat.reduceBNe, Nat.reduceGT, Int.reduceEq, Int.reduceLT, Int.reduceLE, Int.reduceToNat, Int.reduceAdd, Int.reduceSub, Int.reduceMul, Int.reduceNeg, Int.reduceBEq, Int.reduceBNe, b_retain_commit, f0, h1, h2, h3, h4, c2, c4, w1, w2, lp, Int.reduceEq]
end Go.Proofs.YthdiljjbcaleoaaDoor.Ret

/- Commits, boots, new stores: the program's. -/
namespace Go.Proofs.YthdiljjbcaleoaaDoor.Ret
open Go Go.Proofs.YthdiljjbcaleoaaDoor.Sym Go.Proofs.YthdiljjbcaleoaaDoor.Tab
set_option linter.unusedVariables false
set_option linter.unusedSimpArgs false
set_option maxHeartbeats 4000000
set_option maxRecDepth 20000
theorem comm_long (k : Nat) (d : Sto) (c : Option Nat) (inc : Int) (data : ByteArray) (h : 64 < data.size) : acall T (k + 1) 10 1 [.ptr 0 0, .v (.int .u16 inc), .v (.string data)] [so d c, ro d.b] = some ⟨.v (.int .i64 2), [so d c, ro d.b], 2⟩ := by
  have f0 : (bytesV d.b).all flat0 = true := all_bytesF
  have c1 : (64 : Int) < data.size := by omega
  rw [acall_go (body := b_retain_Commit) rfl rfl (Nat.le_succ 1)]
  simp only [so, ro]
  generalize bytesV d.b = cs at *
  generalize d.b.length = q at *
  simp -implicitDefEqProofs only [eqs, eqd, aCall, Sym.reach, Sym.pos, Sym.sub, lh_some, ↓reduceIte, reduceCtorEq, Nat.reduceEqDiff, Nat.reduceAdd, Nat.reduceSub, Nat.reduceMul, Nat.reduceLT, Nat.reduceLeDiff, Nat.reduceBEq, Nat.reduceBNe, Nat.reduceGT, Int.reduceEq, Int.reduceLT, Int.reduceLE, Int.reduceToNat, Int.reduceAdd, Int.reduceSub, Int.reduceMul, Int.reduceNeg, Int.reduceBEq, Int.reduceBNe, b_retain_Commit, f0, c1]
theorem cmt_len (d : Sto) (inc : Nat) (data : ByteArray) : (cmt d inc data).2.b.length = d.b.length := by
  unfold cmt
  split
  · rfl
  split
  · rfl
  unfold wr3
  simp only
  split
  · exact wr_len ..
  split
  · rw [wr_len, wr_len]
  · rw [wr_len, wr_len, wr_len]
theorem comm_a (k : Nat) (hk : 2001 ≤ k) (d : Sto) (c : Option Nat) (hd : d.Ok c) (inc : Nat) (data : ByteArray) (hi : inc < 65536) (h : data.size ≤ 64) : acall T (k + 11) 10 1 [.ptr 0 0, .v (.int .u16 inc), .v (.string data)] [so d c, ro d.b] = some ⟨.v (.int .i64 (cmt d inc data).1), [so (cmt d inc data).2 c, ro (cmt d inc data).2.b], 2⟩ := by
  have f0 : (bytesV d.b).all flat0 = true := all_bytesF
  have f1 : (bytesV (cmt d inc data).2.b).all flat0 = true := all_bytesF
  have h1 := commit_a k hk d c hd 0 inc data hi h
  have hl := cmt_len d inc data
  have c1 : ¬ (64 : Int) < data.size := by omega
  rw [acall_go (body := b_retain_Commit) rfl rfl (Nat.le_succ 1)]
  generalize cmt d inc data = p at *
  obtain ⟨e, d2⟩ := p
  by_cases he : e = 0
  · subst he
    simp only [so, ro, cres, oav, Rec.av, if_true] at h1 f1 hl ⊢
    rw [hl] at h1 ⊢
    generalize bytesV d.b = cs at *
    generalize bytesV d2.b = cs2 at *
    generalize d.b.length = q at *
    simp -implicitDefEqProofs only [eqs, eqd, aCall, Sym.reach, Sym.pos, Sym.sub, lh_some, ↓reduceIte, reduceCtorEq, Nat.reduceEqDiff, Nat.reduceAdd, Nat.reduceSub, Nat.reduceMul, Nat.reduceLT, Nat.reduceLeDiff, Nat.reduceBEq, Nat.reduceBNe, Nat.reduceGT, Int.reduceEq, Int.reduceLT, Int.reduceLE, Int.reduceToNat, Int.reduceAdd, Int.reduceSub, Int.reduceMul, Int.reduceNeg, Int.reduceBEq, Int.reduceBNe, b_retain_Commit, f0, f1, c1, h1]
  · simp only [so, ro, cres, oav, Rec.av, if_neg he] at h1 f1 hl ⊢
    rw [hl] at h1 ⊢
    generalize bytesV d.b = cs at *
    generalize bytesV d2.b = cs2 at *
    generalize d.b.length = q at *
    simp -implicitDefEqProofs only [eqs, eqd, aCall, Sym.reach, Sym.pos, Sym.sub, lh_some, ↓reduceIte, reduceCtorEq, Nat.reduceEqDiff, Nat.reduceAdd, Nat.reduceSub, Nat.reduceMul, Nat.reduceLT, Nat.reduceLeDiff, Nat.reduceBEq, Nat.reduceBNe, Nat.reduceGT, Int.reduceEq, Int.reduceLT, Int.reduceLE, Int.reduceToNat, Int.reduceAdd, Int.reduceSub, Int.reduceMul, Int.reduceNeg, Int.reduceBEq, Int.reduceBNe, b_retain_Commit, f0, f1, c1, h1]
def btE (d : Sto) : Int × Sto := if (wasR (nwL d.b)).inc = 65535 then (13, d) else cmt d ((wasR (nwL d.b)).inc + 1) (wasR (nwL d.b)).data
theorem boot_a (k : Nat) (hk : 2001 ≤ k) (d : Sto) (c : Option Nat) (hd : d.Ok c) : acall T (k + 11) 11 1 [.ptr 0 0] [so d c, ro d.b] = some ⟨cres (btE d).1 ((wasR (nwL d.b)).seq + 1) ((wasR (nwL d.b)).inc + 1) (wasR (nwL d.b)).data, [so (btE d).2 c, ro (btE d).2.b], 2⟩ := by
  have f0 : (bytesV d.b).all flat0 = true := all_bytesF
  have h1 := newest_a (k + 3) (by omega) d c hd
  have hin := was_in hd.by_
  rw [acall_go (body := b_retain_Boot) rfl rfl (Nat.le_succ 1)]
  unfold btE
  cases hn : nwL d.b with
  | none =>
    have h2 := commit_a k hk d c hd 0 1 ByteArray.empty (by decide) (by decide)
    have hl := cmt_len d 1 ByteArray.empty
    have f1 : (bytesV (cmt d 1 ByteArray.empty).2.b).all flat0 = true := all_bytesF
    rw [hn] at h1 h2
    have e1 : (wasR (none : Option (Nat × Rec))).inc = 0 := rfl
    have e2 : (wasR (none : Option (Nat × Rec))).data = ByteArray.empty := rfl
    have e3 : (wasR (none : Option (Nat × Rec))).seq = 0 := rfl
    rw [e3] at h2
    rw [e1, e2, e3, if_neg (by decide), Nat.zero_add]
    rw [Nat.zero_add] at h2
    generalize cmt d 1 ByteArray.empty = p at *
    obtain ⟨e, d2⟩ := p
    by_cases he : e = 0
    · subst he
      simp only [so, ro, nres, cres, oav, Rec.av, if_true, Int.natCast_one] at h1 h2 f1 hl ⊢
      rw [hl] at h2 ⊢
      generalize bytesV d.b = cs at *
      generalize bytesV d2.b = cs2 at *
      generalize d.b.length = q at *
      simp -implicitDefEqProofs only [eqs, eqd, aCall, Sym.reach, Sym.pos, Sym.sub, lh_some, ↓reduceIte, reduceCtorEq, Nat.reduceEqDiff, Nat.reduceAdd, Nat.reduceSub, Nat.reduceMul, Nat.reduceLT, Nat.reduceLeDiff, Nat.reduceBEq, Nat.reduceBNe, Nat.reduceGT, Int.reduceEq, Int.reduceLT, Int.reduceLE, Int.reduceToNat, Int.reduceAdd, Int.reduceSub, Int.reduceMul, Int.reduceNeg, Int.reduceBEq, Int.reduceBNe, b_retain_Boot, f0, f1, h1, h2]
    · simp only [so, ro, nres, cres, oav, Rec.av, if_neg he, Int.natCast_one] at h1 h2 f1 hl ⊢
      rw [hl] at h2 ⊢
      generalize bytesV d.b = cs at *
      generalize bytesV d2.b = cs2 at *
      generalize d.b.length = q at *
      simp -implicitDefEqProofs only [eqs, eqd, aCall, Sym.reach, Sym.pos, Sym.sub, lh_some, ↓reduceIte, reduceCtorEq, Nat.reduceEqDiff, Nat.reduceAdd, Nat.reduceSub, Nat.reduceMul, Nat.reduceLT, Nat.reduceLeDiff, Nat.reduceBEq, Nat.reduceBNe, Nat.reduceGT, Int.reduceEq, Int.reduceLT, Int.reduceLE, Int.reduceToNat, Int.reduceAdd, Int.reduceSub, Int.reduceMul, Int.reduceNeg, Int.reduceBEq, Int.reduceBNe, b_retain_Boot, f0, f1, h1, h2]
  | some p =>
    obtain ⟨i, r⟩ := p
    have e1 : (wasR (some (i, r))).inc = r.inc := rfl
    have e2 : (wasR (some (i, r))).data = r.data := rfl
    have e3 : (wasR (some (i, r))).seq = r.seq := rfl
    rw [hn] at h1 hin
    have hin2 : r.inc < 65536 := hin.inc
    have hin3 : r.data.size ≤ 64 := hin.data
    rw [e1, e2, e3]
    by_cases hc : r.inc = 65535
    · rw [if_pos hc]
      have c2 : ((r.inc : Int) == 65535) = true := by rw [beq_iff_eq]; omega
      simp only [so, ro, nres, cres, oav, Rec.av] at h1 ⊢
      generalize bytesV d.b = cs at *
      generalize d.b.length = q at *
      simp -implicitDefEqProofs only [eqs, eqd, aCall, Sym.reach, Sym.pos, Sym.sub, lh_some, ↓reduceIte, reduceCtorEq, Nat.reduceEqDiff, Nat.reduceAdd, Nat.reduceSub, Nat.reduceMul, Nat.reduceLT, Nat.reduceLeDiff, Nat.reduceBEq, Nat.reduceBNe, Nat.reduceGT, Int.reduceEq, Int.reduceLT, Int.reduceLE, Int.reduceToNat, Int.reduceAdd, Int.reduceSub, Int.reduceMul, Int.reduceNeg, Int.reduceBEq, Int.reduceBNe, b_retain_Boot, f0, h1, c2, Int.reduceEq]
    · rw [if_neg hc]
      have c2 : ((r.inc : Int) == 65535) = false := by rw [beq_eq_false_iff_ne]; omega
      have w1 : IntKind.u16.wrap ((r.inc : Int) + 1) = ((r.inc + 1 : Nat) : Int) := by rw [wu16 (by omega) (by omega)]; omega
      have h2 := commit_a k hk d c hd r.seq (r.inc + 1) r.data (by omega) hin3
      have hl := cmt_len d (r.inc + 1) r.data
      have f1 : (bytesV (cmt d (r.inc + 1) r.data).2.b).all flat0 = true := all_bytesF
      rw [hn, e3] at h2
      generalize cmt d (r.inc + 1) r.data = p at *
      obtain ⟨e, d2⟩ := p
      generalize r.inc + 1 = i1 at *
      by_cases he : e = 0
      · subst he
        simp only [so, ro, nres, cres, oav, Rec.av, if_true] at h1 h2 f1 hl ⊢
        rw [hl] at h2 ⊢
        generalize bytesV d.b = cs at *
        generalize bytesV d2.b = cs2 at *
        generalize d.b.length = q at *
        simp -implicitDefEqProofs only [eqs, eqd, aCall, Sym.reach, Sym.pos, Sym.sub, lh_some, ↓reduceIte, reduceCtorEq, Nat.reduceEqDiff, Nat.reduceAdd, Nat.reduceSub, Nat.reduceMul, Nat.reduceLT, Nat.reduceLeDiff, Nat.reduceBEq, Nat.reduceBNe, Nat.reduceGT, Int.reduceEq, Int.reduceLT, Int.reduceLE, Int.reduceToNat, Int.reduceAdd, Int.reduceSub, Int.reduceMul, Int.reduceNeg, Int.reduceBEq, Int.reduceBNe, b_retain_Boot, f0, f1, h1, h2, c2, w1]
      · simp only [so, ro, nres, cres, oav, Rec.av, if_neg he] at h1 h2 f1 hl ⊢
        rw [hl] at h2 ⊢
        generalize bytesV d.b = cs at *
        generalize bytesV d2.b = cs2 at *
        generalize d.b.length = q at *
        simp -implicitDefEqProofs only [eqs, eqd, aCall, Sym.reach, Sym.pos, Sym.sub, lh_some, ↓reduceIte, reduceCtorEq, Nat.reduceEqDiff, Nat.reduceAdd, Nat.reduceSub, Nat.reduceMul, Nat.reduceLT, Nat.reduceLeDiff, Nat.reduceBEq, Nat.reduceBNe, Nat.reduceGT, Int.reduceEq, Int.reduceLT, Int.reduceLE, Int.reduceToNat, Int.reduceAdd, Int.reduceSub, Int.reduceMul, Int.reduceNeg, Int.reduceBEq, Int.reduceBNe, b_retain_Boot, f0, f1, h1, h2, c2, w1]
/-! new ones -/
abbrev soF (d : Sto) (c : Option Nat) : Sym.Obj := ⟨true, true, false, [.view 1 0 d.b.length 1 c, .v (.bool d.dark), .v (.bool d.armed), .v (.int .i64 d.left), .v (.int .i64 d.wrote)]⟩
abbrev roF (l : List Int) : Sym.Obj := ⟨true, true, true, bytesV l⟩
def newS : Sto := ⟨List.replicate 148 0, false, false, 0, 0⟩
def ofS (l : List Int) : Sto := ⟨l, false, false, 0, 0⟩
theorem new_a (k : Nat) : acall T (k + 1) 14 0 [.v (.int .i64 148)] [] = some ⟨.ptr 0 0, [soF newS (some 148), roF newS.b], 1⟩ := by
  rw [acall_go (body := b_store_New) rfl rfl (Nat.zero_le _)]
  have h : newS.b = List.replicate 148 0 := rfl
  have h0 : newS.b.length = 148 := rfl
  have h1 : newS.dark = false := rfl
  have h2 : newS.armed = false := rfl
  have h3 : newS.left = 0 := rfl
  have h4 : newS.wrote = 0 := rfl
  have hr : List.replicate 148 (AV.v (.int .u8 0)) = bytesV newS.b := reps_bytes
  have f0 : (bytesV newS.b).all flat0 = true := all_bytesF
  simp only [soF, roF, h0, h1, h2, h3, h4, Int.natCast_zero]
  generalize bytesV newS.b = cs at *
  simp -implicitDefEqProofs only [eqs, eqd, aCall, Sym.reach, Sym.pos, Sym.sub, lh_some, ↓reduceIte, reduceCtorEq, Nat.reduceEqDiff, Nat.reduceAdd, Nat.reduceSub, Nat.reduceMul, Nat.reduceLT, Nat.reduceLeDiff, Nat.reduceBEq, Nat.reduceBNe, Nat.reduceGT, Int.reduceEq, Int.reduceLT, Int.reduceLE, Int.reduceToNat, Int.reduceAdd, Int.reduceSub, Int.reduceMul, Int.reduceNeg, Int.reduceBEq, Int.reduceBNe, b_store_New, hr, f0]
theorem of_a (k : Nat) (l : List Int) (hl : By l) (hL : l.length ≤ 1000) : acall T (k + 1) 9 0 [sv l] [] = some ⟨.ptr 0 0, [soF (ofS l) none, roF l], 1⟩ := by
  rw [acall_go (body := b_store_Of) rfl rfl (Nat.zero_le _)]
  have h1 := so_size l
  have hm : (if (1000 : Int) < l.length then (1000 : Int) else l.length) = l.length := if_neg (by omega)
  have c1 : (0 : Int) ≤ l.length := by omega
  have e1 := so_ext l 0 l.length (Nat.le_refl _)
  rw [List.drop_zero, List.take_length] at e1
  have e2 := bytes_cells hl
  have f0 : (bytesV l).all flat0 = true := all_bytesF
  simp only [soF, roF, ofS, sv, Int.natCast_zero]
  generalize bytesV l = cs at *
  generalize strOfNums l = y at *
  generalize l.length = n at *
  simp -implicitDefEqProofs only [eqs, eqd, aCall, Sym.reach, Sym.pos, Sym.sub, lh_some, ↓reduceIte, reduceCtorEq, Nat.reduceEqDiff, Nat.reduceAdd, Nat.reduceSub, Nat.reduceMul, Nat.reduceLT, Nat.reduceLeDiff, Nat.reduceBEq, Nat.reduceBNe, Nat.reduceGT, Int.reduceEq, Int.reduceLT, Int.reduceLE, Int.reduceToNat, Int.reduceAdd, Int.reduceSub, Int.reduceMul, Int.reduceNeg, Int.reduceBEq, Int.reduceBNe, b_store_Of, h1, hm, c1, e1, e2, f0, Int.toNat_natCast]
theorem bytes_a (k : Nat) (d : Sto) (c : Option Nat) (hd : d.Ok c) : acall T (k + 4) 13 1 [.ptr 0 0] [so d c, ro d.b] = some ⟨sv d.b, [so d c, ro d.b], 0⟩ := by
  have f0 : (bytesV d.b).all flat0 = true := all_bytesF
  have h1 := slen_a (k + 2) d c
  have h2 := read_yes k d c hd.cap hd.len 0 d.b.length (by omega)
  rw [List.drop_zero, List.take_length] at h2
  rw [acall_go (body := b_fuglemanlaw07_bytes) rfl rfl (Nat.le_succ 1)]
  simp only [so, ro, sv, Int.natCast_zero] at h1 h2 ⊢
  generalize strOfNums d.b = y at *
  generalize bytesV d.b = cs at *
  generalize d.b.length = q at *
  simp -implicitDefEqProofs only [eqs, eqd, aCall, Sym.reach, Sym.pos, Sym.sub, lh_some, ↓reduceIte, reduceCtorEq, Nat.reduceEqDiff, Nat.reduceAdd, Nat.reduceSub, Nat.reduceMul, Nat.reduceLT, Nat.reduceLeDiff, Nat.reduceBEq, Nat.reduceBNe, Nat.reduceGT, Int.reduceEq, Int.reduceLT, Int.reduceLE, Int.reduceToNat, Int.reduceAdd, Int.reduceSub, Int.reduceMul, Int.reduceNeg, Int.reduceBEq, Int.reduceBNe, b_fuglemanlaw07_bytes, f0, h1, h2]
theorem cost_a (k : Nat) : acall T (k + 1) 18 0 [] [] = some ⟨.v (.int .i64 75), [], 0⟩ := by
  rw [acall_go (body := b_retain_Cost) rfl rfl (Nat.zero_le _)]
  simp -implicitDefEqProofs only [eqs, eqd, aCall, Sym.reach, Sym.pos, Sym.sub, lh_some, ↓reduceIte, reduceCtorEq, Nat.reduceEqDiff, Nat.reduceAdd, Nat.reduceSub, Nat.reduceMul, Nat.reduceLT, Nat.reduceLeDiff, Nat.reduceBEq, Nat.reduceBNe, Nat.reduceGT, Int.reduceEq, Int.reduceLT, Int.reduceLE, Int.reduceToNat, Int.reduceAdd, Int.reduceSub, Int.reduceMul, Int.reduceNeg, Int.reduceBEq, Int.reduceBNe, b_retain_Cost]
end Go.Proofs.YthdiljjbcaleoaaDoor.Ret

/- What the laws are given. Written by a program for this claim. -/
namespace Go.Proofs.YthdiljjbcaleoaaDoor.Args
open Go Go.Proofs.YthdiljjbcaleoaaDoor.Sym
set_option linter.unusedVariables false
/-- api.Record = fugleman/api.Record -/
structure S25 where
  f0 : Int
  f1 : Int
  f2 : ByteArray
def S25.av (v : S25) : List AV := [.v (.int .u32 v.f0), .v (.int .u16 v.f1), .v (.string v.f2)]
structure S25.In (v : S25) : Prop where
  f0 : (0 ≤ v.f0 ∧ v.f0 ≤ 4294967295)
  f1 : (0 ≤ v.f1 ∧ v.f1 ≤ 65535)
  f2 : v.f2.size ≤ 140737488351232
theorem rd25 : Rd Tryd.prog 25 3 S25.av S25.In := rd_struct (rdF_cons 22 0 (rd_imp (rd_int Tryd.underlying22) fun v h => rng_u32 h) (by kernel_rfl) (rdF_cons 23 1 (rd_imp (rd_int Tryd.underlying23) fun v h => rng_u16 h) (by kernel_rfl) (rdF_one 9 2 (rd_string Tryd.underlying9) (by kernel_rfl)))) Tryd.underlying25 rfl (fun v => ⟨v.1, v.2.1, v.2.2⟩) (fun _ => rfl) (fun _ => rfl) (fun v h => ⟨h.1, h.2.1, h.2.2⟩) (by kernel_rfl)
/-- fuglemanlaw07.Act = fugleman/fuglemanlaw07.Act -/
structure S47 where
  f0 : Int
  f1 : Int
  f2 : ByteArray
  f3 : Int
def S47.av (v : S47) : List AV := [.v (.int .u8 v.f0), .v (.int .u16 v.f1), .v (.string v.f2), .v (.int .u8 v.f3)]
structure S47.In (v : S47) : Prop where
  f0 : (0 ≤ v.f0 ∧ v.f0 ≤ 255)
  f1 : (0 ≤ v.f1 ∧ v.f1 ≤ 65535)
  f2 : v.f2.size ≤ 140737488351232
  f3 : (0 ≤ v.f3 ∧ v.f3 ≤ 255)
theorem rd47 : Rd Tryd.prog 47 4 S47.av S47.In := rd_struct (rdF_cons 5 0 (rd_imp (rd_int Tryd.underlying5) fun v h => rng_u8 h) (by kernel_rfl) (rdF_cons 23 1 (rd_imp (rd_int Tryd.underlying23) fun v h => rng_u16 h) (by kernel_rfl) (rdF_cons 9 2 (rd_string Tryd.underlying9) (by kernel_rfl) (rdF_one 5 3 (rd_imp (rd_int Tryd.underlying5) fun v h => rng_u8 h) (by kernel_rfl))))) Tryd.underlying47 rfl (fun v => ⟨v.1, v.2.1, v.2.2.1, v.2.2.2⟩) (fun _ => rfl) (fun _ => rfl) (fun v h => ⟨h.1, h.2.1, h.2.2.1, h.2.2.2⟩) (by kernel_rfl)
theorem rRetainEnds0 : Rd Tryd.prog 25 3 S25.av (fun v : S25 => S25.In v) := rd25
theorem rRetainTears0 : Rd Tryd.prog 39 1 (fun x : List (ByteArray) => [.shr x.length false (x.flatMap (fun x : ByteArray => [.v (.string x)]))]) (fun v : List (ByteArray) => (v.length ≤ 140737488351232 ∧ ∀ (i0 : Nat) x0, v[i0]? = some x0 → x0.size ≤ 140737488351232)) := (rd_slice Tryd.underlying39 (rd_string Tryd.underlying9) (by kernel_rfl) (by kernel_rfl))
theorem rRetainBoots1 : Rd Tryd.prog 28 1 (fun x : List (Int) => [.shr x.length false (x.flatMap (fun x : Int => [.v (.int .u8 x)]))]) (fun v : List (Int) => (v.length ≤ 140737488351232 ∧ ∀ (i0 : Nat) x0, v[i0]? = some x0 → (0 ≤ x0 ∧ x0 ≤ 255))) := (rd_slice Tryd.underlying28 (rd_imp (rd_int Tryd.underlying5) fun v h => rng_u8 h) (by kernel_rfl) (by kernel_rfl))
theorem rRetainRuns1 : Rd Tryd.prog 45 1 (fun x : List (S47) => [.shr x.length false (x.flatMap S47.av)]) (fun v : List (S47) => (v.length ≤ 140737488351232 ∧ ∀ (i0 : Nat) x0, v[i0]? = some x0 → S47.In x0)) := (rd_slice Tryd.underlying45 rd47 (by kernel_rfl) (by kernel_rfl))
end Go.Proofs.YthdiljjbcaleoaaDoor.Args

/- Stores that are whole: plain; the law's first lines. -/
namespace Go.Proofs.YthdiljjbcaleoaaDoor.Ret
open Go Go.Proofs.YthdiljjbcaleoaaDoor.Sym Go.Proofs.YthdiljjbcaleoaaDoor.Tab
set_option linter.unusedVariables false
set_option linter.unusedSimpArgs false
set_option maxHeartbeats 4000000
set_option maxRecDepth 20000
structure Wl (d : Sto) (o : Option (Nat × Rec)) : Prop where
  by_ : By d.b
  len : d.b.length = 148
  left : d.left ≤ 1000
  nw : nwB d.b = o
theorem Wl.nwl {d : Sto} {o : Option (Nat × Rec)} (h : Wl d o) : nwL d.b = o := by
  unfold nwL
  rw [if_neg (by rw [h.len]; decide), h.nw]
theorem Wl.ok {d : Sto} {o : Option (Nat × Rec)} (h : Wl d o) : d.Ok (some 148) := ⟨h.by_, by rw [h.len]; decide, by rw [h.len]; rfl, h.left⟩
theorem Wl.ok0 {d : Sto} {o : Option (Nat × Rec)} (h : Wl d o) : d.Ok none := ⟨h.by_, by rw [h.len]; decide, rfl, h.left⟩
theorem Wl.in_ {d : Sto} {o : Option (Nat × Rec)} (h : Wl d o) : (wasR o).In := by rw [← h.nwl]; exact was_in h.by_
theorem Wl.at_ {d : Sto} {o : Option (Nat × Rec)} (h : Wl d o) : toAt o ≤ 1 := by rw [← h.nwl]; exact toAt_le _
theorem cmt_all {d : Sto} {o : Option (Nat × Rec)} (h : Wl d o) (hd : d.dark = false) (hp : d.armed = false ∨ 75 ≤ d.left) {inc : Nat} {data : ByteArray} (hs : (wasR o).seq < 4294967295) (hi : inc < 65536) (hdt : data.size ≤ 64) :
    (cmt d inc data).1 = 0 ∧ Wl (cmt d inc data).2 (some (toAt o, ⟨(wasR o).seq + 1, inc, data⟩)) ∧ (cmt d inc data).2.dark = false ∧ (cmt d inc data).2.armed = d.armed ∧ (cmt d inc data).2.left = (if d.armed = true then d.left - 75 else d.left) ∧ (cmt d inc data).2.b = tornB d.b (74 * toAt o) (sealL (b0 ⟨(wasR o).seq + 1, inc, data⟩)) 75 := by
  unfold cmt
  rw [h.nwl, if_neg (by omega), if_neg (by rw [h.len]; decide)]
  have hr : (⟨(wasR o).seq + 1, inc, data⟩ : Rec).In := ⟨by show (wasR o).seq + 1 < 4294967296; omega, hi, hdt⟩
  have hl : (sealL (b0 ⟨(wasR o).seq + 1, inc, data⟩)).length = 73 := by rw [seal_len, b0_len hr]
  obtain ⟨l, w, e, e1, e2⟩ := wr3_all (d := d) (at_ := 74 * toAt o) (s := sealL (b0 ⟨(wasR o).seq + 1, inc, data⟩)) hd (by rw [hl]; exact hp)
  rw [hl] at e e1
  rw [show 73 + 2 = 75 from rfl] at e e1
  rw [e]
  have g1 : By (tornB d.b (74 * toAt o) (sealL (b0 ⟨(wasR o).seq + 1, inc, data⟩)) 75) := by_tornB h.by_ (by_seal (by_b0 hr))
  have g2 : (tornB d.b (74 * toAt o) (sealL (b0 ⟨(wasR o).seq + 1, inc, data⟩)) 75).length = 148 := by rw [tornB_len]; exact h.len
  have hw := nw_whole (b := d.b) (inc := inc) (data := data) (by rw [h.len]; decide) (by rw [h.nw]; exact hr)
  rw [h.nw] at hw
  refine ⟨rfl, ⟨g1, g2, ?_, hw⟩, rfl, rfl, ?_, rfl⟩
  · have := h.left
    show l ≤ 1000
    cases ha : d.armed
    · rw [e2 ha]; exact this
    · rw [e1 ha]; omega
  · show l = _
    cases ha : d.armed
    · rw [e2 ha, if_neg (by decide)]
    · rw [e1 ha, if_pos rfl]
theorem cmt_trn {d : Sto} {o : Option (Nat × Rec)} (h : Wl d o) (hd : d.dark = false) (ha : d.armed = true) (hp : d.left < 75) {inc : Nat} {data : ByteArray} (hs : (wasR o).seq < 4294967295) (hi : inc < 65536) (hdt : data.size ≤ 64) :
    (cmt d inc data).1 = 12 ∧ Wl (cmt d inc data).2 o ∧ (cmt d inc data).2.dark = true ∧ (cmt d inc data).2.b = tornB d.b (74 * toAt o) (sealL (b0 ⟨(wasR o).seq + 1, inc, data⟩)) d.left := by
  unfold cmt
  rw [h.nwl, if_neg (by omega), if_neg (by rw [h.len]; decide)]
  have hr : (⟨(wasR o).seq + 1, inc, data⟩ : Rec).In := ⟨by show (wasR o).seq + 1 < 4294967296; omega, hi, hdt⟩
  have hl : (sealL (b0 ⟨(wasR o).seq + 1, inc, data⟩)).length = 73 := by rw [seal_len, b0_len hr]
  obtain ⟨w, e⟩ := wr3_torn (d := d) (at_ := 74 * toAt o) (s := sealL (b0 ⟨(wasR o).seq + 1, inc, data⟩)) hd ha (by rw [hl]; exact hp)
  rw [e]
  have hw := nw_torn (b := d.b) (s := sealL (b0 ⟨(wasR o).seq + 1, inc, data⟩)) (n := d.left) (by rw [h.len]; decide) hl hp
  rw [h.nw] at hw
  exact ⟨rfl, ⟨by_tornB h.by_ (by_seal (by_b0 hr)), by show (tornB _ _ _ _).length = 148; rw [tornB_len]; exact h.len, Nat.zero_le _, hw⟩, rfl, rfl⟩
/-- Flags and power play no part in what is there. -/
theorem Wl.flags {d : Sto} {o : Option (Nat × Rec)} (h : Wl d o) (e : Sto) (he : e.b = d.b) (hl : e.left ≤ 1000) : Wl e o := ⟨by rw [he]; exact h.by_, by rw [he]; exact h.len, hl, by rw [he]; exact h.nw⟩
theorem wl_new : Wl newS none := by
  refine ⟨By.rep _, rfl, by decide, ?_⟩
  have e : ∀ i, (slotAt newS.b i)[0]? ≠ some 165 := fun i h => by
    have hm := List.mem_of_getElem? h
    have := List.mem_of_mem_drop (List.mem_of_mem_take hm)
    have := List.eq_of_mem_replicate this
    cases this
  unfold nwB
  rw [prs_mark (e 0), prs_mark (e 1)]
  rfl
theorem deq (x : ByteArray) : decide (x = x) = true := by simp
theorem awake_a (k : Nat) (hk : 2001 ≤ k) : acall T (k + 20) 7 0 [] [] = some ⟨.v (.bool true), [], 1⟩ := by
  have w0 := wl_new
  have p0 := size_a (k + 18)
  have p1 := new_a (k + 18)
  -- a boot
  have e0 : newS.dark = false := rfl
  have a0 : newS.armed = false := rfl
  have q1 := cmt_all w0 e0 (Or.inl a0) (inc := 1) (data := ByteArray.empty) (by decide) (by decide) (by decide)
  have b1 := boot_a (k + 8) (by omega) newS (some 148) w0.ok
  have hb1 : btE newS = cmt newS 1 ByteArray.empty := by unfold btE; rw [w0.nwl]; rfl
  rw [hb1, w0.nwl] at b1
  obtain ⟨q1a, w1, e1, a1, -⟩ := q1
  rw [q1a] at b1
  generalize (cmt newS 1 ByteArray.empty).2 = d1 at *
  have c1 := comm_a (k + 8) (by omega) d1 (some 148) w1.ok 1 ⟨#[120, 121]⟩ (by decide) (by decide)
  have q2 := cmt_all w1 e1 (Or.inl (a1.trans a0)) (inc := 1) (data := ⟨#[120, 121]⟩) (by decide) (by decide) (by decide)
  obtain ⟨q2a, w2, e2, a2, -⟩ := q2
  rw [q2a] at c1
  generalize (cmt d1 1 ⟨#[120, 121]⟩).2 = d2 at *
  have b2 := boot_a (k + 8) (by omega) d2 (some 148) w2.ok
  have hb2 : btE d2 = cmt d2 2 ⟨#[120, 121]⟩ := by unfold btE; rw [w2.nwl]; rfl
  rw [hb2, w2.nwl] at b2
  have q3 := cmt_all w2 e2 (Or.inl (a2.trans (a1.trans a0))) (inc := 2) (data := ⟨#[120, 121]⟩) (by decide) (by decide) (by decide)
  obtain ⟨q3a, w3, e3, a3, -⟩ := q3
  rw [q3a] at b2
  generalize (cmt d2 2 ⟨#[120, 121]⟩).2 = d3 at *
  have l1 := load_a (k + 11) (by omega) d3 (some 148) w3.ok
  rw [w3.nwl] at l1
  have l2 := cost_a (k + 18)
  have f0 : (bytesV newS.b).all flat0 = true := all_bytesF
  have f1 : (bytesV d1.b).all flat0 = true := all_bytesF
  have f2 : (bytesV d2.b).all flat0 = true := all_bytesF
  have f3 : (bytesV d3.b).all flat0 = true := all_bytesF
  have hx := deq ⟨#[120, 121]⟩
  have n0 := w0.len
  have n1 := w1.len
  have n2 := w2.len
  have n3 := w3.len
  rw [acall_go (body := b_fuglemanlaw07_awake) rfl rfl (Nat.zero_le _)]
  simp only [so, ro, soF, roF, cres, lres, oav, Rec.av, Rec.z, wasR, if_true, Option.map_some, Option.isSome_some, n0, n1, n2, n3, Nat.zero_add, Nat.reduceAdd, natLit, Int.natCast_one, Int.natCast_zero] at p1 b1 c1 b2 l1 ⊢
  generalize bytesV newS.b = cs0 at *
  generalize bytesV d1.b = cs1 at *
  generalize bytesV d2.b = cs2 at *
  generalize bytesV d3.b = cs3 at *
  simp -implicitDefEqProofs (maxSteps := 1000000) only [eqs, eqd, aCall, Sym.reach, Sym.pos, Sym.sub, lh_some, ↓reduceIte, reduceCtorEq, Nat.reduceEqDiff, Nat.reduceAdd, Nat.reduceSub, Nat.reduceMul, Nat.reduceLT, Nat.reduceLeDiff, Nat.reduceBEq, Nat.reduceBNe, Nat.reduceGT, Int.reduceEq, Int.reduceLT, Int.reduceLE, Int.reduceToNat, Int.reduceAdd, Int.reduceSub, Int.reduceMul, Int.reduceNeg, Int.reduceBEq, Int.reduceBNe, b_fuglemanlaw07_awake, p0, p1, b1, c1, b2, l1, l2, f0, f1, f2, f3, hx]
end Go.Proofs.YthdiljjbcaleoaaDoor.Ret

/- Texts that are read, a slot's record, the newest one: the document's. -/
namespace Go.Proofs.YthdiljjbcaleoaaDoor.Ret
open Go Go.Proofs.YthdiljjbcaleoaaDoor.Sym Go.Proofs.YthdiljjbcaleoaaDoor.Tab
set_option linter.unusedVariables false
set_option linter.unusedSimpArgs false
set_option maxHeartbeats 4000000
set_option maxRecDepth 20000
abbrev rq (l : List Int) : Sym.Obj := ⟨true, false, true, [sv l, .v (.bool false)]⟩
theorem rtake_a (k : Nat) (l : List Int) (hL : l.length ≤ 2000) (n : Nat) (h : n ≤ l.length) : acall T (k + 1) 76 1 [.ptr 0 0, .v (.int .i64 n)] [rq l] = some ⟨sv (l.take n), [rq (l.drop n)], 2⟩ := by
  rw [acall_go (body := b_fuglemanref02_Eye_Take) rfl rfl (Nat.le_refl 1)]
  have hs := so_size l
  have c1 : ¬ (n : Int) < 0 := by omega
  have c2 : ¬ (l.length : Int) < n := by omega
  have c3 : (0 : Int) ≤ (n : Int) := by omega
  have e1 := so_ext l 0 n h
  rw [List.drop_zero] at e1
  have e2 := so_ext l n l.length (Nat.le_refl _)
  rw [List.take_length] at e2
  simp only [rq, sv]
  generalize strOfNums (l.take n) = z at *
  generalize strOfNums (l.drop n) = z2 at *
  generalize strOfNums l = y at *
  generalize l.length = m at *
  simp -implicitDefEqProofs only [eqs, eqd, aCall, Sym.reach, Sym.pos, Sym.sub, lh_some, ↓reduceIte, reduceCtorEq, Nat.reduceEqDiff, Nat.reduceAdd, Nat.reduceSub, Nat.reduceMul, Nat.reduceLT, Nat.reduceLeDiff, Nat.reduceBEq, Nat.reduceBNe, Nat.reduceGT, Int.reduceEq, Int.reduceLT, Int.reduceLE, Int.reduceToNat, Int.reduceAdd, Int.reduceSub, Int.reduceMul, Int.reduceNeg, Int.reduceBEq, Int.reduceBNe, g_fuglemanref02_Eye_Take_0, b_fuglemanref02_Eye_Take, g_fuglemanref02_Eye_Take_0, hs, c1, c2, c3, h, e1, e2, Int.toNat_natCast]
def rnst (l t : List Int) (v i : Nat) : St := ⟨[(5, sv t), (6, .v (.int .u32 v)), (7, .v (.int .i64 i))], [rq l], 2, [0]⟩
theorem rnum_next (C : CT) (lf : Nat) (l t : List Int) (ht : By t) (hL : t.length ≤ 4) (v i : Nat) (hi : i < t.length) (N : Nat) (ks : List It) : Lh C lf (some (rnst l t v i)) [5, 6, 7] l_fuglemanref02_Eye_Number_0 (N + 1) ks = Lh C lf (some (rnst l t (v * 256 % 4294967296 + t[i].toNat) (i + 1))) [5, 6, 7] l_fuglemanref02_Eye_Number_0 N ks := by
  have c1 : (i : Int) < t.length := by omega
  have w1 : IntKind.i64.wrap ((i : Int) + 1) = ((i + 1 : Nat) : Int) := by rw [w64 (by omega) (by omega)]; omega
  have hx := so_ix ht hi
  have hs := so_size t
  obtain ⟨b1, b2⟩ := ht.get hi
  obtain ⟨c, hc⟩ : ∃ c : Nat, t[i] = c := ⟨t[i].toNat, by omega⟩
  rw [hc] at hx b1 b2 ⊢
  rw [Int.toNat_natCast]
  have w2 : IntKind.u32.wrap (c : Int) = c := wu32 (by omega) (by omega)
  have w3 : IntKind.u32.wrap ((v : Int) * 256) = ((v * 256 % 4294967296 : Nat) : Int) := by
    rw [u32w]
    omega
  have w4 : IntKind.u32.wrap (((v * 256 % 4294967296 : Nat) : Int) + c) = ((v * 256 % 4294967296 + c : Nat) : Int) := by
    have : v * 256 % 4294967296 ≤ 4294967040 := by omega
    rw [wu32 (by omega) (by omega)]
    omega
  unfold rnst
  rw [lh_as l_fuglemanref02_Eye_Number_0.eq_1]
  simp only [rq, sv] at hx ⊢
  clear hc
  generalize strOfNums l = y at *
  generalize strOfNums t = y2 at *
  generalize t.length = n at *
  generalize v * 256 % 4294967296 = q at *
  generalize q + c = q2 at *
  simp -implicitDefEqProofs only [eqs, eqd, aCall, Sym.reach, Sym.pos, Sym.sub, ↓reduceIte, reduceCtorEq, Nat.reduceEqDiff, Nat.reduceAdd, Nat.reduceSub, Nat.reduceMul, Nat.reduceLT, Nat.reduceLeDiff, Nat.reduceBEq, Nat.reduceBNe, Nat.reduceGT, Int.reduceEq, Int.reduceLT, Int.reduceLE, Int.reduceToNat, Int.reduceAdd, Int.reduceSub, Int.reduceMul, Int.reduceNeg, Int.reduceBEq, Int.reduceBNe, nx_nil, c1, w1, w2, w3, w4, hx, hs]
noncomputable abbrev rnfin (C : CT) (lf : Nat) (s : St) (N : Nat) : Option Res := FnR [.t 4] false true (Lh C lf (some s) [5, 6, 7] l_fuglemanref02_Eye_Number_0 N [.b 0, .c l_fuglemanref02_Eye_Number_1])
theorem rnum_end (C : CT) (lf : Nat) (l t : List Int) (v N : Nat) : rnfin C lf (rnst l t v t.length) N = some ⟨.v (.int .u32 v), [rq l], 2⟩ := by
  have c1 : ¬ (t.length : Int) < t.length := by omega
  have hs := so_size t
  unfold rnfin rnst
  rw [lh_as l_fuglemanref02_Eye_Number_0.eq_1]
  simp only [rq, sv]
  generalize strOfNums l = y at *
  generalize strOfNums t = y2 at *
  generalize t.length = n at *
  simp -implicitDefEqProofs only [eqs, eqd, aCall, Sym.reach, Sym.pos, Sym.sub, ↓reduceIte, reduceCtorEq, Nat.reduceEqDiff, Nat.reduceAdd, Nat.reduceSub, Nat.reduceMul, Nat.reduceLT, Nat.reduceLeDiff, Nat.reduceBEq, Nat.reduceBNe, Nat.reduceGT, Int.reduceEq, Int.reduceLT, Int.reduceLE, Int.reduceToNat, Int.reduceAdd, Int.reduceSub, Int.reduceMul, Int.reduceNeg, Int.reduceBEq, Int.reduceBNe, nx_nil, l_fuglemanref02_Eye_Number_1, c1, hs]
theorem rnum_run (C : CT) (lf : Nat) (l t : List Int) (ht : By t) (hL : t.length ≤ 4) : ∀ (j i v N : Nat), i + j = t.length → j ≤ N → rnfin C lf (rnst l t v i) N = some ⟨.v (.int .u32 ((t.drop i).foldl (fun n c => n * 256 % 4294967296 + c.toNat) v : Nat)), [rq l], 2⟩
  | 0, i, v, N, hi, hN => by
    obtain rfl : i = t.length := by omega
    rw [List.drop_length]
    exact rnum_end C lf l t v N
  | j + 1, i, v, N, hi, hN => by
    obtain ⟨N, rfl⟩ : ∃ M, N = M + 1 := ⟨N - 1, by omega⟩
    have h := rnum_run C lf l t ht hL j (i + 1) (v * 256 % 4294967296 + t[i].toNat) N (by omega) (by omega)
    unfold rnfin at h ⊢
    rw [rnum_next C lf l t ht hL v i (by omega) N, h, List.drop_eq_getElem_cons (l := t) (i := i) (by omega)]
    rfl
theorem rnumber_a (k : Nat) (hk : 10 ≤ k) (l : List Int) (hl : By l) (hL : l.length ≤ 2000) (c : Nat) (hc : c ≤ 4) (h : c ≤ l.length) : acall T (k + 2) 57 1 [.ptr 0 0, .v (.int .i64 c)] [rq l] = some ⟨.v (.int .u32 (num (l.take c) : Nat)), [rq (l.drop c)], 2⟩ := by
  have ht : By (l.take c) := hl.take c
  have hlen : (l.take c).length = c := by rw [List.length_take]; omega
  have p1 := rtake_a k l hL c h
  have key := rnum_run (acall T (k + 1)) (k + 1) (l.drop c) (l.take c) ht (by omega) c 0 0 k (by omega) (by omega)
  rw [List.drop_zero] at key
  have en : num (l.take c) = (l.take c).foldl (fun n c => n * 256 % 4294967296 + c.toNat) 0 := rfl
  rw [en, acall_go (body := b_fuglemanref02_Eye_Number) rfl rfl (Nat.le_refl 1), ← key]
  clear key en
  have lp : ∀ (ks : List It) (s : St), Lp (acall T (k + 1)) (k + 1) [5, 6, 7] l_fuglemanref02_Eye_Number_0 (k + 1) ks s = Lh (acall T (k + 1)) (k + 1) (canon [5, 6, 7] s) [5, 6, 7] l_fuglemanref02_Eye_Number_0 k ks := fun ks s => lp_succ (n := k)
  unfold rnfin rnst
  simp only [rq, sv] at p1 ⊢
  generalize strOfNums (l.drop c) = y3 at *
  generalize strOfNums (l.take c) = z at *
  generalize strOfNums l = y at *
  simp -implicitDefEqProofs only [eqs, eqd, aCall, Sym.reach, Sym.pos, Sym.sub, ↓reduceIte, reduceCtorEq, Nat.reduceEqDiff, Nat.reduceAdd, Nat.reduceSub, Nat.reduceMul, Nat.reduceLT, Nat.reduceLeDiff, Nat.reduceBEq, Nat.reduceBNe, Nat.reduceGT, Int.reduceEq, Int.reduceLT, Int.reduceLE, Int.reduceToNat, Int.reduceAdd, Int.reduceSub, Int.reduceMul, Int.reduceNeg, Int.reduceBEq, Int.reduceBNe, b_fuglemanref02_Eye_Number, lp, p1, Int.natCast_zero]
theorem rsmall_a (k : Nat) (hk : 10 ≤ k) (x : Int) (l : List Int) (hl : By (x :: l)) (hL : (x :: l).length ≤ 2000) (n : Nat) (hn : x = n) (h : n ≤ l.length) : acall T (k + 3) 58 1 [.ptr 0 0] [rq (x :: l)] = some ⟨sv (l.take n), [rq (l.drop n)], 2⟩ := by
  have p1 := rnumber_a k hk (x :: l) hl hL 1 (by decide) (by simp)
  have e := num1_eq hl (a := 0) (by simp)
  rw [List.drop_zero] at e
  rw [e, List.getElem_cons_zero, hn] at p1
  simp only [List.drop_succ_cons, List.drop_zero, natLit] at p1
  have p2 := rtake_a (k + 1) l (by simp at hL; omega) n h
  have hx := hl x (by simp)
  have w1 : IntKind.i64.wrap (n : Int) = n := w64 (by omega) (by omega)
  rw [acall_go (body := b_fuglemanref02_Eye_Small) rfl rfl (Nat.le_refl 1)]
  rw [hn]
  simp only [rq, sv] at p1 p2 ⊢
  generalize strOfNums ((n : Int) :: l) = y at *
  generalize strOfNums (l.drop n) = y3 at *
  generalize strOfNums (l.take n) = y4 at *
  generalize strOfNums l = y5 at *
  simp -implicitDefEqProofs only [eqs, eqd, aCall, Sym.reach, Sym.pos, Sym.sub, lh_some, ↓reduceIte, reduceCtorEq, Nat.reduceEqDiff, Nat.reduceAdd, Nat.reduceSub, Nat.reduceMul, Nat.reduceLT, Nat.reduceLeDiff, Nat.reduceBEq, Nat.reduceBNe, Nat.reduceGT, Int.reduceEq, Int.reduceLT, Int.reduceLE, Int.reduceToNat, Int.reduceAdd, Int.reduceSub, Int.reduceMul, Int.reduceNeg, Int.reduceBEq, Int.reduceBNe, b_fuglemanref02_Eye_Small, p1, p2, w1]
def wv (q : Rec) (b : Bool) : AV := .tup [.agg q.av, .v (.bool b)]
theorem so_eq {a b : List Int} (ha : By a) (hb : By b) : decide (strOfNums a = strOfNums b) = decide (a = b) := by
  by_cases h : a = b
  · subst h; simp
  · have : ¬ strOfNums a = strOfNums b := fun e => h (so_inj ha hb e)
    simp [this, h]
theorem whole_a (k : Nat) (hk : 2009 ≤ k) (l : List Int) (hl : By l) (h74 : l.length = 74) : ∃ q, acall T (k + 6) 38 0 [sv l] [] = some ⟨wv q (docP l).isSome, [], 1⟩ ∧ ∀ r, docP l = some r → q = r := by
  have hx0 := so_ix hl (i := 0) (by omega)
  have hx7 := so_ix hl (i := 7) (by omega)
  have g0 : l[0]? = some (l[0]'(by omega)) := List.getElem?_eq_getElem (by omega)
  have g7 : l.getD 7 0 = l[7]'(by omega) := by rw [List.getD_eq_getElem?_getD, List.getElem?_eq_getElem (by omega)]; rfl
  obtain ⟨b7, b7'⟩ := hl.get (i := 7) (by omega)
  have hs : (strOfNums l).size = 74 := by rw [so_size, h74]
  simp only [natLit, Int.natCast_zero] at hx0 hx7
  by_cases c0 : l[0]'(by omega) = 165
  · by_cases c7 : l[7]'(by omega) ≤ 64
    · have hin := rd_in hl (by rw [g7]; exact c7)
      refine ⟨rdR l, ?_, ?_⟩
      · obtain ⟨n, hn⟩ : ∃ n : Nat, l[7]'(by omega) = n := ⟨(l[7]'(by omega)).toNat, by omega⟩
        have e1 := so_ext l 1 74 (by omega)
        rw [List.take_of_length_le (by omega)] at e1
        have p1 := rnumber_a (k + 3) (by omega) (l.drop 1) (hl.drop 1) (by rw [List.length_drop]; omega) 4 (by decide) (by rw [List.length_drop]; omega)
        rw [List.drop_drop] at p1
        have p2 := rnumber_a (k + 3) (by omega) (l.drop (1 + 4)) (hl.drop _) (by rw [List.length_drop]; omega) 2 (by decide) (by rw [List.length_drop]; omega)
        rw [List.drop_drop] at p2
        have e7 : l.drop (1 + 4 + 2) = l[7]'(by omega) :: l.drop 8 := List.drop_eq_getElem_cons (by omega)
        rw [e7] at p2
        have p3 := rsmall_a (k + 2) (by omega) (l[7]'(by omega)) (l.drop 8) (by rw [← e7]; exact hl.drop _) (by simp; omega) n hn (by rw [List.length_drop]; omega)
        have p4 := slot_a (k) hk (rdR l) hin
        have hlt := num2_lt ((hl.drop 5).take 2) (by rw [List.length_take]; omega)
        have hsl : By (sealL (b0 (rdR l))) := by_seal (by_b0 hin)
        have he := so_eq hsl (hl.drop 1)
        have er : (rdR l).av = [.v (.int .u32 (num ((l.drop 1).take 4) : Nat)), .v (.int .u16 (num ((l.drop 5).take 2) : Nat)), sv ((l.drop 8).take n)] := by
          unfold Rec.av rdR
          rw [g7, hn, Int.toNat_natCast]
        have ed : (docP l).isSome = decide (sealL (b0 (rdR l)) = l.drop 1) := by
          unfold docP
          rw [g0, g7]
          by_cases z : sealL (b0 (rdR l)) = l.drop 1
          · rw [if_pos ⟨by rw [c0], c7, z⟩, decide_eq_true z]; rfl
          · rw [if_neg fun h => z h.2.2, decide_eq_false z]; rfl
        rw [ed]
        have c7' : ¬ (64 : Int) < n := by omega
        rw [c0] at hx0
        rw [hn] at hx7 p2 p3
        have w1 : IntKind.u16.wrap ((num ((l.drop 5).take 2) : Nat) : Int) = (num ((l.drop 5).take 2) : Nat) := wu16 (by omega) (by omega)
        rw [acall_go (body := b_fuglemanref07_Whole) rfl rfl (Nat.zero_le _)]
        simp only [wv, er, rq, sv, natLit, Nat.reduceAdd] at hx0 hx7 p1 p2 p3 p4 ⊢
        generalize decide (sealL (b0 (rdR l)) = l.drop 1) = bb at *
        generalize strOfNums (sealL (b0 (rdR l))) = y1 at *
        generalize ((num ((l.drop 1).take 4) : Nat) : Int) = x1 at *
        generalize ((num ((l.drop 5).take 2) : Nat) : Int) = x2 at *
        generalize strOfNums ((n : Int) :: l.drop 8) = y6 at *
        generalize strOfNums ((l.drop 8).take n) = y2 at *
        generalize strOfNums ((l.drop 8).drop n) = y3 at *
        generalize strOfNums (l.drop 5) = y4 at *
        generalize strOfNums (l.drop 1) = y5 at *
        generalize strOfNums l = y at *
        simp -implicitDefEqProofs (maxSteps := 1000000) only [eqs, eqd, aCall, Sym.reach, Sym.pos, Sym.sub, lh_some, ↓reduceIte, reduceCtorEq, Nat.reduceEqDiff, Nat.reduceAdd, Nat.reduceSub, Nat.reduceMul, Nat.reduceLT, Nat.reduceLeDiff, Nat.reduceBEq, Nat.reduceBNe, Nat.reduceGT, Int.reduceEq, Int.reduceLT, Int.reduceLE, Int.reduceToNat, Int.reduceAdd, Int.reduceSub, Int.reduceMul, Int.reduceNeg, Int.reduceBEq, Int.reduceBNe, b_fuglemanref07_Whole, hx0, hx7, hs, e1, p1, p2, p3, p4, c7', he, w1]
      · intro r hr
        unfold docP at hr
        split at hr
        · exact Option.some.inj hr
        · cases hr
    · refine ⟨Rec.z, ?_, ?_⟩
      · have ed : docP l = none := if_neg fun h => by rw [g7] at h; exact c7 h.2.1
        rw [ed]
        have c7' : (64 : Int) < l[7]'(by omega) := by omega
        rw [c0] at hx0
        rw [acall_go (body := b_fuglemanref07_Whole) rfl rfl (Nat.zero_le _)]
        generalize l[7]'(by omega) = x at *
        simp only [wv, Rec.av, Rec.z, sv, natLit, Int.natCast_zero, Option.isSome_none] at hx0 hx7 ⊢
        generalize strOfNums l = y at *
        simp -implicitDefEqProofs only [eqs, eqd, aCall, Sym.reach, Sym.pos, Sym.sub, lh_some, ↓reduceIte, reduceCtorEq, Nat.reduceEqDiff, Nat.reduceAdd, Nat.reduceSub, Nat.reduceMul, Nat.reduceLT, Nat.reduceLeDiff, Nat.reduceBEq, Nat.reduceBNe, Nat.reduceGT, Int.reduceEq, Int.reduceLT, Int.reduceLE, Int.reduceToNat, Int.reduceAdd, Int.reduceSub, Int.reduceMul, Int.reduceNeg, Int.reduceBEq, Int.reduceBNe, b_fuglemanref07_Whole, hx0, hx7, c7']
      · intro r hr
        rw [show docP l = none from if_neg fun h => by rw [g7] at h; exact c7 h.2.1] at hr
        cases hr
  · refine ⟨Rec.z, ?_, ?_⟩
    · have ed : docP l = none := if_neg fun h => by rw [g0] at h; exact c0 (Option.some.inj h.1)
      rw [ed]
      have c0' : (l[0]'(by omega) != 165) = true := by simpa using c0
      rw [acall_go (body := b_fuglemanref07_Whole) rfl rfl (Nat.zero_le _)]
      generalize l[0]'(by omega) = x at *
      simp only [wv, Rec.av, Rec.z, sv, natLit, Int.natCast_zero, Option.isSome_none] at hx0 ⊢
      generalize strOfNums l = y at *
      simp -implicitDefEqProofs only [eqs, eqd, aCall, Sym.reach, Sym.pos, Sym.sub, lh_some, ↓reduceIte, reduceCtorEq, Nat.reduceEqDiff, Nat.reduceAdd, Nat.reduceSub, Nat.reduceMul, Nat.reduceLT, Nat.reduceLeDiff, Nat.reduceBEq, Nat.reduceBNe, Nat.reduceGT, Int.reduceEq, Int.reduceLT, Int.reduceLE, Int.reduceToNat, Int.reduceAdd, Int.reduceSub, Int.reduceMul, Int.reduceNeg, Int.reduceBEq, Int.reduceBNe, b_fuglemanref07_Whole, hx0, c0']
    · intro r hr
      rw [show docP l = none from if_neg fun h => by rw [g0] at h; exact c0 (Option.some.inj h.1)] at hr
      cases hr
end Go.Proofs.YthdiljjbcaleoaaDoor.Ret

/- The newest record, what is committed next: the document's. -/
namespace Go.Proofs.YthdiljjbcaleoaaDoor.Ret
open Go Go.Proofs.YthdiljjbcaleoaaDoor.Sym Go.Proofs.YthdiljjbcaleoaaDoor.Tab
set_option linter.unusedVariables false
set_option linter.unusedSimpArgs false
set_option maxHeartbeats 4000000
set_option maxRecDepth 20000
def rnres : Option (Nat × Rec) → AV
  | none => .tup [.v (.int .i64 (-1)), .agg (oav none)]
  | some (i, r) => .tup [.v (.int .i64 i), .agg r.av]
theorem rnewest_a (k : Nat) (hk : 2009 ≤ k) (b : List Int) (hb : By b) (h1 : 148 ≤ b.length) (h2 : b.length ≤ 1000) : acall T (k + 7) 32 0 [sv b] [] = some ⟨rnres (nwB b), [], 1⟩ := by
  have s0 : slotAt b 0 = b.take 74 := rfl
  have s1 : slotAt b 1 = (b.take 148).drop 74 := by rw [List.drop_take]; rfl
  have l0 : (slotAt b 0).length = 74 := slot_len' (by omega)
  have l1 : (slotAt b 1).length = 74 := slot_len' (by omega)
  obtain ⟨q0, p0, r0⟩ := whole_a k hk (slotAt b 0) (by_slotAt hb 0) l0
  obtain ⟨q1, p1, r1⟩ := whole_a k hk (slotAt b 1) (by_slotAt hb 1) l1
  rw [docP_prs (by_slotAt hb 0) l0] at p0 r0
  rw [docP_prs (by_slotAt hb 1) l1] at p1 r1
  have hs := so_size b
  have e0 := so_ext b 0 74 (by omega)
  rw [List.drop_zero, ← s0] at e0
  have e1 := so_ext b 74 148 (by omega)
  rw [← s1] at e1
  have c0 : 74 ≤ b.length := by omega
  rw [acall_go (body := b_fuglemanref07_Newest) rfl rfl (Nat.zero_le _)]
  unfold nwB
  generalize slotAt b 0 = t0 at *
  generalize slotAt b 1 = t1 at *
  cases h0 : prs t0 with
  | none =>
    cases h3 : prs t1 with
    | none =>
      simp only [h0, h3, wv, nw, rnres, oav, Rec.av, sv, Option.isSome_none] at p0 p1 ⊢
      generalize strOfNums t0 = y0 at *
      generalize strOfNums t1 = y1 at *
      generalize strOfNums b = y at *
      generalize b.length = n at *
      simp -implicitDefEqProofs (maxSteps := 1000000) only [eqs, eqd, aCall, Sym.reach, Sym.pos, Sym.sub, lh_some, ↓reduceIte, reduceCtorEq, Nat.reduceEqDiff, Nat.reduceAdd, Nat.reduceSub, Nat.reduceMul, Nat.reduceLT, Nat.reduceLeDiff, Nat.reduceBEq, Nat.reduceBNe, Nat.reduceGT, Int.reduceEq, Int.reduceLT, Int.reduceLE, Int.reduceToNat, Int.reduceAdd, Int.reduceSub, Int.reduceMul, Int.reduceNeg, Int.reduceBEq, Int.reduceBNe, b_fuglemanref07_Newest, p0, p1, hs, e0, e1, c0, h1]
    | some r =>
      rw [r1 r h3] at p1
      simp only [h0, h3, wv, nw, rnres, oav, Rec.av, sv, Option.isSome_none, Option.isSome_some, Int.natCast_one] at p0 p1 ⊢
      generalize strOfNums t0 = y0 at *
      generalize strOfNums t1 = y1 at *
      generalize strOfNums b = y at *
      generalize b.length = n at *
      simp -implicitDefEqProofs (maxSteps := 1000000) only [eqs, eqd, aCall, Sym.reach, Sym.pos, Sym.sub, lh_some, ↓reduceIte, reduceCtorEq, Nat.reduceEqDiff, Nat.reduceAdd, Nat.reduceSub, Nat.reduceMul, Nat.reduceLT, Nat.reduceLeDiff, Nat.reduceBEq, Nat.reduceBNe, Nat.reduceGT, Int.reduceEq, Int.reduceLT, Int.reduceLE, Int.reduceToNat, Int.reduceAdd, Int.reduceSub, Int.reduceMul, Int.reduceNeg, Int.reduceBEq, Int.reduceBNe, b_fuglemanref07_Newest, p0, p1, hs, e0, e1, c0, h1]
  | some x =>
    rw [r0 x h0] at p0
    cases h3 : prs t1 with
    | none =>
      simp only [h0, h3, wv, nw, rnres, oav, Rec.av, sv, Option.isSome_none, Option.isSome_some, Int.natCast_zero] at p0 p1 ⊢
      generalize strOfNums t0 = y0 at *
      generalize strOfNums t1 = y1 at *
      generalize strOfNums b = y at *
      generalize b.length = n at *
      simp -implicitDefEqProofs (maxSteps := 1000000) only [eqs, eqd, aCall, Sym.reach, Sym.pos, Sym.sub, lh_some, ↓reduceIte, reduceCtorEq, Nat.reduceEqDiff, Nat.reduceAdd, Nat.reduceSub, Nat.reduceMul, Nat.reduceLT, Nat.reduceLeDiff, Nat.reduceBEq, Nat.reduceBNe, Nat.reduceGT, Int.reduceEq, Int.reduceLT, Int.reduceLE, Int.reduceToNat, Int.reduceAdd, Int.reduceSub, Int.reduceMul, Int.reduceNeg, Int.reduceBEq, Int.reduceBNe, b_fuglemanref07_Newest, p0, p1, hs, e0, e1, c0, h1]
    | some z =>
      rw [r1 z h3] at p1
      by_cases g : x.seq < z.seq
      · have g1 : ¬ (z.seq : Int) ≤ x.seq := by omega
        simp only [h0, h3, wv, nw, if_pos g, rnres, oav, Rec.av, sv, Option.isSome_none, Option.isSome_some, Int.natCast_one] at p0 p1 ⊢
        generalize strOfNums t0 = y0 at *
        generalize strOfNums t1 = y1 at *
        generalize strOfNums b = y at *
        generalize b.length = n at *
        simp -implicitDefEqProofs (maxSteps := 1000000) only [eqs, eqd, aCall, Sym.reach, Sym.pos, Sym.sub, lh_some, ↓reduceIte, reduceCtorEq, Nat.reduceEqDiff, Nat.reduceAdd, Nat.reduceSub, Nat.reduceMul, Nat.reduceLT, Nat.reduceLeDiff, Nat.reduceBEq, Nat.reduceBNe, Nat.reduceGT, Int.reduceEq, Int.reduceLT, Int.reduceLE, Int.reduceToNat, Int.reduceAdd, Int.reduceSub, Int.reduceMul, Int.reduceNeg, Int.reduceBEq, Int.reduceBNe, b_fuglemanref07_Newest, p0, p1, hs, e0, e1, c0, h1, g1]
      · have g1 : (z.seq : Int) ≤ x.seq := by omega
        simp only [h0, h3, wv, nw, if_neg g, rnres, oav, Rec.av, sv, Option.isSome_none, Option.isSome_some, Int.natCast_zero] at p0 p1 ⊢
        generalize strOfNums t0 = y0 at *
        generalize strOfNums t1 = y1 at *
        generalize strOfNums b = y at *
        generalize b.length = n at *
        simp -implicitDefEqProofs (maxSteps := 1000000) only [eqs, eqd, aCall, Sym.reach, Sym.pos, Sym.sub, lh_some, ↓reduceIte, reduceCtorEq, Nat.reduceEqDiff, Nat.reduceAdd, Nat.reduceSub, Nat.reduceMul, Nat.reduceLT, Nat.reduceLeDiff, Nat.reduceBEq, Nat.reduceBNe, Nat.reduceGT, Int.reduceEq, Int.reduceLT, Int.reduceLE, Int.reduceToNat, Int.reduceAdd, Int.reduceSub, Int.reduceMul, Int.reduceNeg, Int.reduceBEq, Int.reduceBNe, b_fuglemanref07_Newest, p0, p1, hs, e0, e1, c0, h1, g1]
/-- What a commit, or a boot, would commit; the error. -/
def nxt (b : List Int) (boot : Bool) (inc : Nat) (data : ByteArray) : Int × Rec :=
  if boot = false ∧ 64 < data.size then (2, Rec.z) else
  if b.length < 148 then (1, Rec.z) else
  if boot = true ∧ (wasR (nwB b)).inc = 65535 then (13, Rec.z) else
  if (wasR (nwB b)).seq = 4294967295 then (13, Rec.z) else
  (0, ⟨(wasR (nwB b)).seq + 1, if boot = true then (wasR (nwB b)).inc + 1 else inc, if boot = true then (wasR (nwB b)).data else data⟩)
theorem was_av (o : Option (Nat × Rec)) : ∃ i : Int, rnres o = .tup [.v (.int .i64 i), .agg (wasR o).av] ∧ (i = 0 ↔ toAt o = 1) ∧ (0 ≤ i ↔ o.isSome = true) := by
  cases o with
  | none => exact ⟨-1, rfl, by decide, by decide⟩
  | some p =>
    obtain ⟨i, r⟩ := p
    refine ⟨i, rfl, ?_, ⟨fun _ => rfl, fun _ => by omega⟩⟩
    show ((i : Int) = 0 ↔ 1 - i = 1)
    omega
theorem next_a (k : Nat) (hk : 2009 ≤ k) (b : List Int) (hb : By b) (h2 : b.length ≤ 1000) (boot : Bool) (inc : Nat) (data : ByteArray) (hi : inc < 65536) : acall T (k + 8) 30 0 [sv b, .v (.bool boot), .v (.int .u16 inc), .v (.string data)] [] = some ⟨.tup [.agg (nxt b boot inc data).2.av, .v (.int .i64 (nxt b boot inc data).1)], [], 1⟩ := by
  have hs := so_size b
  rw [acall_go (body := b_fuglemanref07_Next) rfl rfl (Nat.zero_le _)]
  unfold nxt
  by_cases c1 : boot = false ∧ 64 < data.size
  · obtain ⟨rfl, c1⟩ := c1
    have c2 : (64 : Int) < data.size := by omega
    rw [if_pos ⟨rfl, c1⟩]
    simp only [Rec.av, Rec.z, sv, Int.natCast_zero]
    generalize strOfNums b = y at *
    simp -implicitDefEqProofs only [eqs, eqd, aCall, Sym.reach, Sym.pos, Sym.sub, lh_some, ↓reduceIte, reduceCtorEq, Nat.reduceEqDiff, Nat.reduceAdd, Nat.reduceSub, Nat.reduceMul, Nat.reduceLT, Nat.reduceLeDiff, Nat.reduceBEq, Nat.reduceBNe, Nat.reduceGT, Int.reduceEq, Int.reduceLT, Int.reduceLE, Int.reduceToNat, Int.reduceAdd, Int.reduceSub, Int.reduceMul, Int.reduceNeg, Int.reduceBEq, Int.reduceBNe, g_fuglemanref07_Next_0, b_fuglemanref07_Next, g_fuglemanref07_Next_0, c2]
  · rw [if_neg c1]
    by_cases c3 : b.length < 148
    · have c4 : (b.length : Int) < 148 := by omega
      rw [if_pos c3]
      simp only [Rec.av, Rec.z, sv, Int.natCast_zero]
      generalize strOfNums b = y at *
      generalize b.length = n at *
      cases boot with
      | false =>
        have c2 : ¬ (64 : Int) < data.size := fun h => c1 ⟨rfl, by omega⟩
        simp -implicitDefEqProofs only [eqs, eqd, aCall, Sym.reach, Sym.pos, Sym.sub, lh_some, ↓reduceIte, reduceCtorEq, Nat.reduceEqDiff, Nat.reduceAdd, Nat.reduceSub, Nat.reduceMul, Nat.reduceLT, Nat.reduceLeDiff, Nat.reduceBEq, Nat.reduceBNe, Nat.reduceGT, Int.reduceEq, Int.reduceLT, Int.reduceLE, Int.reduceToNat, Int.reduceAdd, Int.reduceSub, Int.reduceMul, Int.reduceNeg, Int.reduceBEq, Int.reduceBNe, g_fuglemanref07_Next_0, b_fuglemanref07_Next, g_fuglemanref07_Next_0, c2, c4, hs]
      | true => simp -implicitDefEqProofs only [eqs, eqd, aCall, Sym.reach, Sym.pos, Sym.sub, lh_some, ↓reduceIte, reduceCtorEq, Nat.reduceEqDiff, Nat.reduceAdd, Nat.reduceSub, Nat.reduceMul, Nat.reduceLT, Nat.reduceLeDiff, Nat.reduceBEq, Nat.reduceBNe, Nat.reduceGT, Int.reduceEq, Int.reduceLT, Int.reduceLE, Int.reduceToNat, Int.reduceAdd, Int.reduceSub, Int.reduceMul, Int.reduceNeg, Int.reduceBEq, Int.reduceBNe, g_fuglemanref07_Next_0, b_fuglemanref07_Next, g_fuglemanref07_Next_0, c4, hs]
    · have c4 : ¬ (b.length : Int) < 148 := by omega
      have p := rnewest_a k hk b hb (by omega) h2
      have hin := was_in hb
      rw [show nwL b = nwB b from if_neg c3] at hin
      obtain ⟨i, e, -, -⟩ := was_av (nwB b)
      rw [e] at p
      rw [if_neg c3]
      generalize wasR (nwB b) = w at *
      obtain ⟨ws, wi, wd⟩ := w
      obtain ⟨i1, i2, i3⟩ := hin
      simp only at i1 i2 i3
      cases boot with
      | false =>
        have c2 : ¬ (64 : Int) < data.size := fun h => c1 ⟨rfl, by omega⟩
        rw [if_neg (by simp)]
        by_cases c5 : ws = 4294967295
        · have c6 : ((ws : Int) == 4294967295) = true := by rw [beq_iff_eq]; omega
          rw [if_pos c5]
          simp only [Rec.av, Rec.z, sv, Int.natCast_zero] at p ⊢
          generalize strOfNums b = y at *
          generalize b.length = n at *
          simp -implicitDefEqProofs only [eqs, eqd, aCall, Sym.reach, Sym.pos, Sym.sub, lh_some, ↓reduceIte, reduceCtorEq, Nat.reduceEqDiff, Nat.reduceAdd, Nat.reduceSub, Nat.reduceMul, Nat.reduceLT, Nat.reduceLeDiff, Nat.reduceBEq, Nat.reduceBNe, Nat.reduceGT, Int.reduceEq, Int.reduceLT, Int.reduceLE, Int.reduceToNat, Int.reduceAdd, Int.reduceSub, Int.reduceMul, Int.reduceNeg, Int.reduceBEq, Int.reduceBNe, g_fuglemanref07_Next_0, b_fuglemanref07_Next, g_fuglemanref07_Next_0, c2, c4, hs, p, c6]
        · have c6 : ((ws : Int) == 4294967295) = false := by rw [beq_eq_false_iff_ne]; omega
          have w1 : IntKind.u32.wrap ((ws : Int) + 1) = ((ws + 1 : Nat) : Int) := by rw [wu32 (by omega) (by omega)]; omega
          rw [if_neg c5]
          simp only [Rec.av, sv, Bool.false_eq_true, if_false] at p ⊢
          generalize strOfNums b = y at *
          generalize b.length = n at *
          generalize ws + 1 = ws1 at *
          simp -implicitDefEqProofs only [eqs, eqd, aCall, Sym.reach, Sym.pos, Sym.sub, lh_some, ↓reduceIte, reduceCtorEq, Nat.reduceEqDiff, Nat.reduceAdd, Nat.reduceSub, Nat.reduceMul, Nat.reduceLT, Nat.reduceLeDiff, Nat.reduceBEq, Nat.reduceBNe, Nat.reduceGT, Int.reduceEq, Int.reduceLT, Int.reduceLE, Int.reduceToNat, Int.reduceAdd, Int.reduceSub, Int.reduceMul, Int.reduceNeg, Int.reduceBEq, Int.reduceBNe, g_fuglemanref07_Next_0, b_fuglemanref07_Next, g_fuglemanref07_Next_0, c2, c4, hs, p, c6, w1]
      | true =>
        by_cases c7 : wi = 65535
        · have c8 : ((wi : Int) == 65535) = true := by rw [beq_iff_eq]; omega
          rw [if_pos ⟨rfl, c7⟩]
          simp only [Rec.av, Rec.z, sv, Int.natCast_zero] at p ⊢
          generalize strOfNums b = y at *
          generalize b.length = n at *
          simp -implicitDefEqProofs only [eqs, eqd, aCall, Sym.reach, Sym.pos, Sym.sub, lh_some, ↓reduceIte, reduceCtorEq, Nat.reduceEqDiff, Nat.reduceAdd, Nat.reduceSub, Nat.reduceMul, Nat.reduceLT, Nat.reduceLeDiff, Nat.reduceBEq, Nat.reduceBNe, Nat.reduceGT, Int.reduceEq, Int.reduceLT, Int.reduceLE, Int.reduceToNat, Int.reduceAdd, Int.reduceSub, Int.reduceMul, Int.reduceNeg, Int.reduceBEq, Int.reduceBNe, g_fuglemanref07_Next_0, b_fuglemanref07_Next, g_fuglemanref07_Next_0, c4, hs, p, c8]
        · have c8 : ((wi : Int) == 65535) = false := by rw [beq_eq_false_iff_ne]; omega
          have w2 : IntKind.u16.wrap ((wi : Int) + 1) = ((wi + 1 : Nat) : Int) := by rw [wu16 (by omega) (by omega)]; omega
          rw [if_neg (fun h => c7 h.2)]
          by_cases c5 : ws = 4294967295
          · have c6 : ((ws : Int) == 4294967295) = true := by rw [beq_iff_eq]; omega
            rw [if_pos c5]
            simp only [Rec.av, Rec.z, sv, Int.natCast_zero] at p ⊢
            generalize strOfNums b = y at *
            generalize b.length = n at *
            generalize wi + 1 = wi1 at *
            simp -implicitDefEqProofs only [eqs, eqd, aCall, Sym.reach, Sym.pos, Sym.sub, lh_some, ↓reduceIte, reduceCtorEq, Nat.reduceEqDiff, Nat.reduceAdd, Nat.reduceSub, Nat.reduceMul, Nat.reduceLT, Nat.reduceLeDiff, Nat.reduceBEq, Nat.reduceBNe, Nat.reduceGT, Int.reduceEq, Int.reduceLT, Int.reduceLE, Int.reduceToNat, Int.reduceAdd, Int.reduceSub, Int.reduceMul, Int.reduceNeg, Int.reduceBEq, Int.reduceBNe, g_fuglemanref07_Next_0, b_fuglemanref07_Next, g_fuglemanref07_Next_0, c4, hs, p, c6, c8, w2]
          · have c6 : ((ws : Int) == 4294967295) = false := by rw [beq_eq_false_iff_ne]; omega
            have w1 : IntKind.u32.wrap ((ws : Int) + 1) = ((ws + 1 : Nat) : Int) := by rw [wu32 (by omega) (by omega)]; omega
            rw [if_neg c5]
            simp only [Rec.av, sv, if_true] at p ⊢
            generalize strOfNums b = y at *
            generalize b.length = n at *
            generalize ws + 1 = ws1 at *
            generalize wi + 1 = wi1 at *
            simp -implicitDefEqProofs only [eqs, eqd, aCall, Sym.reach, Sym.pos, Sym.sub, lh_some, ↓reduceIte, reduceCtorEq, Nat.reduceEqDiff, Nat.reduceAdd, Nat.reduceSub, Nat.reduceMul, Nat.reduceLT, Nat.reduceLeDiff, Nat.reduceBEq, Nat.reduceBNe, Nat.reduceGT, Int.reduceEq, Int.reduceLT, Int.reduceLE, Int.reduceToNat, Int.reduceAdd, Int.reduceSub, Int.reduceMul, Int.reduceNeg, Int.reduceBEq, Int.reduceBNe, g_fuglemanref07_Next_0, b_fuglemanref07_Next, g_fuglemanref07_Next_0, c4, hs, p, c6, c8, w1, w2]
end Go.Proofs.YthdiljjbcaleoaaDoor.Ret
