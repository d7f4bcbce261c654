/- That copying a string's bytes into a row of bytes leaves the row with these bytes. -/
import Derived.Test.YtpjpjamaimahaaaWWords
import Derived.Test.YtpjpjamaimahaaaWLast
import Derived.Test.YtpjpjamaimahaaaWKept
import Derived.Test.YtpjpjamaimahaaaKit
import Derived.Lib.BufferWrite
import Derived.Lib.SlBuf
namespace Go.Proofs.Ytpjpjamaimahaaa.Copy
open Go.RowKit Go.Proofs.YtpjpjamaimahaaaW.PrintWords Go.Proofs.Ytpjpjamaimahaaa.Kit
open Go.Lib (byteCells byteCells_length byteCells_one size_eq)
set_option linter.unusedVariables false
set_option linter.unusedSimpArgs false

theorem run_copy_str {P : Program} (w : World) (dT sT ty elem : TypeId) (g o dLen dCap : Nat) (s : ByteArray) (cur : Array Value) (t : TypeId)
    (hu : P.underlying dT = some (.slice elem)) (hs : (P.info? elem).map (·.size) = some 1) (hg : w.heap[g]? = some (.cells cur t (0, 0))) (hfit : o + min s.size dLen ≤ cur.size) :
    (Builtin.copy_ #[dT, sT] ty #[.slice (some ⟨g, o, none⟩) dLen dCap, .string s]).run P w =
      .ok (goInt (min s.size dLen : Nat)) (w.setRow g (cur.toList.take o ++ byteCells (s.data.toList.take (min s.size dLen)) ++ cur.toList.drop (o + min s.size dLen)).toArray) := by
  have hlen : (byteCells (s.data.toList.take (min s.size dLen))).length = min s.size dLen := by
    rw [byteCells_length, List.length_take, ← size_eq]
    omega
  have hst := run_storeCells_at P g o t (byteCells (s.data.toList.take (min s.size dLen))) 0 cur w hg (by rw [hlen]; simpa using hfit) (byteCells_one _)
  have hmin : Nat.min s.size dLen = min s.size dLen := rfl
  have htk : List.take (min s.size dLen) (List.map (fun b : UInt8 => Value.int IntKind.u8 (b.toNat : Int)) s.data.toList) = byteCells (s.data.toList.take (min s.size dLen)) := by
    unfold byteCells
    rw [List.map_take]
  rw [hlen] at hst
  simp only [Nat.add_zero] at hst
  generalize min s.size dLen = m at *
  cases hq : P.info? elem with
  | none => simp [hq] at hs
  | some i =>
    simp [Builtin.copy_, run_underlying hu, Builtin.lenOf, Builtin.firstCells, sizeOf, typeInfo, hq, hmin]
    rw [htk, hst]
    simp [Result.andThen]

/-- The row with other elements from place o on. -/
def splice {α : Type} (l : List α) (o : Nat) (ys : List α) : List α := l.take o ++ ys ++ l.drop (o + ys.length)
theorem splice_length {α : Type} (l : List α) (o : Nat) (ys : List α) (h : o + ys.length ≤ l.length) : (splice l o ys).length = l.length := by
  unfold splice
  simp only [List.length_append, List.length_take, List.length_drop]
  omega
theorem splice_get {α : Type} (l : List α) (o : Nat) (ys : List α) (h : o + ys.length ≤ l.length) (i : Nat) : (splice l o ys)[i]? = if o ≤ i ∧ i < o + ys.length then ys[i - o]? else l[i]? := by
  unfold splice
  by_cases h1 : i < o
  · rw [if_neg (by omega), List.append_assoc, List.getElem?_append_left (by rw [List.length_take]; omega), List.getElem?_take_of_lt h1]
  · by_cases h2 : i < o + ys.length
    · rw [if_pos (by omega), List.getElem?_append_left (by rw [List.length_append, List.length_take]; omega), List.getElem?_append_right (by rw [List.length_take]; omega), List.length_take]
      congr 1
      omega
    · rw [if_neg (by omega), List.getElem?_append_right (by rw [List.length_append, List.length_take]; omega), List.getElem?_drop, List.length_append, List.length_take]
      congr 1
      omega

theorem R_copy {P : Program} {e base g cap : Nat} {ok : Nat → Prop} {xs : List Int} {w : World} (h : (Kd.int .u8).R e w base ok (.slice (some ⟨g, 0, none⟩) xs.length cap) xs) (o : Nat) (ho : o ≤ xs.length) (s : ByteArray) :
    ∃ w1, (∀ (dT sT ty elem : TypeId) (dCap : Nat), P.underlying dT = some (.slice elem) → (P.info? elem).map (·.size) = some 1 →
        (Builtin.copy_ #[dT, sT] ty #[.slice (some ⟨g, o, none⟩) (xs.length - o) dCap, .string s]).run P w = .ok (goInt (min s.size (xs.length - o) : Nat)) w1) ∧
      (Kd.int .u8).R e w1 base ok (.slice (some ⟨g, 0, none⟩) xs.length cap) (splice xs o ((bytesOf s).take (xs.length - o))) ∧ w.grownBy w1 (some g) := by
  have hown := Kd.own_of_R h
  obtain ⟨hl, hc⟩ := hown
  have hlt : (bytesOf s).length = s.size := bytesOf_length s
  have hle : ((bytesOf s).take (xs.length - o)).length = min s.size (xs.length - o) := by rw [List.length_take, hlt]; omega
  have hsl : (splice xs o ((bytesOf s).take (xs.length - o))).length = xs.length := splice_length _ _ _ (by rw [hle]; omega)
  rcases hc with ⟨hn, _⟩ | ⟨g', cap', cur, he, hg, hh, h1, h2, h3, h4⟩
  · injection hn with e1
    cases e1
  · injection he with e1 e2 e3
    cases e1
    subst e3
    have hcs : cur.toList.length = cap := by rw [Array.length_toList]; omega
    refine ⟨w.setRow g (cur.toList.take o ++ byteCells (s.data.toList.take (min s.size (xs.length - o))) ++ cur.toList.drop (o + min s.size (xs.length - o))).toArray, fun dT sT ty elem dCap hu hs => run_copy_str w dT sT ty elem g o _ dCap s cur e hu hs hh (by omega), ?_, ?_⟩
    · have := Kd.R_of_own (enc := Value.int .u8) (h1 := fun _ => rfl) (e := e) (w := w.setRow g (cur.toList.take o ++ byteCells (s.data.toList.take (min s.size (xs.length - o))) ++ cur.toList.drop (o + min s.size (xs.length - o))).toArray) (base := base) (ok := ok) (v := .slice (some ⟨g, 0, none⟩) xs.length cap) (xs := splice xs o ((bytesOf s).take (xs.length - o))) ?_ h.1
      · exact this
      rw [hsl]
      refine ⟨by rw [encs_length, hsl]; omega, .inr ⟨g, cap, _, rfl, hg, setRow_heap w g cur _ e (0, 0) hh, h1, h2, ?_, ?_⟩⟩
      · simp only [List.size_toArray, List.length_append, List.length_take, List.length_drop, byteCells_length]
        have := size_eq s
        omega
      · have hb : byteCells (s.data.toList.take (min s.size (xs.length - o))) = encs (Value.int .u8) ((bytesOf s).take (xs.length - o)) := by
          unfold byteCells encs bytesOf
          rw [← List.map_take, List.map_map]
          have : List.take (min s.size (xs.length - o)) s.data.toList = List.take (xs.length - o) s.data.toList := by
            rcases Nat.le_total s.size (xs.length - o) with hx | hx
            · rw [Nat.min_eq_left hx, List.take_of_length_le (by rw [data_length]; omega), List.take_of_length_le (by rw [data_length]; omega)]
            · rw [Nat.min_eq_right hx]
          rw [this]
          rfl
        rw [hb, ← hle]
        unfold splice
        simp only [encs, List.map_append, List.map_take, List.map_drop] at *
        have hx : List.map (Value.int .u8) xs = List.take xs.length cur.toList := by rw [Nat.mul_one] at h4; exact h4.symm
        rw [hx]
        simp only [Nat.mul_one]
        have hle2 : (List.take (xs.length - o) (List.map (Value.int .u8) (bytesOf s))).length = (List.take (xs.length - o) (bytesOf s)).length := by simp
        have hbd : o + (List.take (xs.length - o) (bytesOf s)).length ≤ xs.length := by rw [hle]; omega
        generalize List.take (xs.length - o) (bytesOf s) = ys at *
        generalize List.take (xs.length - o) (List.map (Value.int .u8) (bytesOf s)) = zs at *
        apply List.ext_getElem?
        intro i
        by_cases a1 : i < xs.length
        · rw [List.getElem?_take_of_lt a1]
          by_cases b1 : i < o
          · rw [List.append_assoc, List.append_assoc, List.getElem?_append_left (by rw [List.length_take]; omega), List.getElem?_append_left (by simp only [List.length_take]; omega), List.getElem?_take_of_lt b1, List.getElem?_take_of_lt b1, List.getElem?_take_of_lt a1]
          · by_cases b2 : i < o + zs.length
            · rw [List.getElem?_append_left (by rw [List.length_append, List.length_take]; omega), List.getElem?_append_right (by rw [List.length_take]; omega), List.getElem?_append_left (by simp only [List.length_append, List.length_take]; omega), List.getElem?_append_right (by simp only [List.length_take]; omega)]
              congr 1
              simp only [List.length_take]
              omega
            · rw [List.getElem?_append_right (by rw [List.length_append, List.length_take]; omega), List.getElem?_append_right (by simp only [List.length_append, List.length_take]; omega), List.getElem?_drop, List.getElem?_drop, List.getElem?_take_of_lt (by simp only [List.length_append, List.length_take]; omega)]
              congr 1
              simp only [List.length_append, List.length_take]
              omega
        · rw [List.getElem?_eq_none (by simp only [List.length_take, List.length_append, List.length_drop]; omega), List.getElem?_eq_none (by simp only [List.length_take, List.length_append, List.length_drop]; omega)]
    · exact ⟨rfl, rfl, rfl, by simp, fun k hk hne => setRow_other w g k _ (fun ek => hne (by rw [ek]))⟩

/-! ### a row made by []byte(s): its one frozen place lies behind its cells -/
theorem run_storeCells_atZ (P : Program) (g o : Nat) (t : TypeId) (fz : Nat × Nat) : ∀ (vs : List Value) (i : Nat) (cur : Array Value) (w : World), w.heap[g]? = some (.cells cur t fz) → cur.size ≤ fz.1 → o + i + vs.length ≤ cur.size → (∀ v ∈ vs, v.oneCell' = true) →
    (storeCells ⟨g, o, none⟩ vs i).run P w = .ok () (w.setRow g (cur.toList.take (o + i) ++ vs ++ cur.toList.drop (o + i + vs.length)).toArray)
  | [], i, cur, w, hg, _, _, _ => by
    simp only [storeCells, List.append_nil, List.length_nil, Nat.add_zero, List.take_append_drop, Array.toArray_toList]
    rw [setRow_self w g cur t fz hg]
    rfl
  | v :: rest, i, cur, w, hg, hfz, hl, h1 => by
    have hi : o + i < cur.size := by simp at hl; omega
    have hadd : (⟨g, o, none⟩ : Addr).add i = ⟨g, o + i, none⟩ := by unfold Addr.add; split <;> simp_all
    have hcell : w.cell? ⟨g, o + i, none⟩ = some cur[o + i] := by simp [World.cell?, hg, hi]
    have hfro : w.frozen? ⟨g, o + i, none⟩ = false := by
      obtain ⟨lo, hi'⟩ := fz
      simp only [World.frozen?, hg, Bool.and_eq_false_iff, decide_eq_false_iff_not]
      left
      simp only at hfz
      omega
    have hst : (store ((⟨g, o, none⟩ : Addr).add i) v).run P w = .ok () (w.setRow g (cur.setIfInBounds (o + i) v)) := by
      rw [hadd, run_store P w _ v _ (h1 v (by simp)), hcell]
      simp [hfro, setCell_eq_setRow w g (o + i) cur t fz v hg]
    have ih := run_storeCells_atZ P g o t fz rest (i + 1) (cur.setIfInBounds (o + i) v) (w.setRow g (cur.setIfInBounds (o + i) v)) (setRow_heap w g cur _ t _ hg) (by simpa using hfz) (by simp at hl ⊢; omega) (fun x hx => h1 x (by simp [hx]))
    simp only [storeCells, Sem.run_bind, hst, Result.andThen_ok, ih, setRow_setRow]
    congr 3
    have e := list_seg_step cur.toList (o + i) v rest (by simp at hl ⊢; omega)
    simpa [Array.toList_setIfInBounds, Nat.add_assoc] using e

theorem run_copy_strZ {P : Program} (w : World) (dT sT ty elem : TypeId) (g o dLen dCap : Nat) (s : ByteArray) (cur : Array Value) (t : TypeId) (fz : Nat × Nat)
    (hu : P.underlying dT = some (.slice elem)) (hs : (P.info? elem).map (·.size) = some 1) (hg : w.heap[g]? = some (.cells cur t fz)) (hz : cur.size ≤ fz.1) (hfit : o + min s.size dLen ≤ cur.size) :
    (Builtin.copy_ #[dT, sT] ty #[.slice (some ⟨g, o, none⟩) dLen dCap, .string s]).run P w =
      .ok (goInt (min s.size dLen : Nat)) (w.setRow g (cur.toList.take o ++ byteCells (s.data.toList.take (min s.size dLen)) ++ cur.toList.drop (o + min s.size dLen)).toArray) := by
  have hlen : (byteCells (s.data.toList.take (min s.size dLen))).length = min s.size dLen := by
    rw [byteCells_length, List.length_take, ← size_eq]
    omega
  have hst := run_storeCells_atZ P g o t fz (byteCells (s.data.toList.take (min s.size dLen))) 0 cur w hg hz (by rw [hlen]; simpa using hfit) (byteCells_one _)
  have hmin : Nat.min s.size dLen = min s.size dLen := rfl
  have htk : List.take (min s.size dLen) (List.map (fun b : UInt8 => Value.int IntKind.u8 (b.toNat : Int)) s.data.toList) = byteCells (s.data.toList.take (min s.size dLen)) := by
    unfold byteCells
    rw [List.map_take]
  rw [hlen] at hst
  simp only [Nat.add_zero] at hst
  generalize min s.size dLen = m at *
  cases hq : P.info? elem with
  | none => simp [hq] at hs
  | some i =>
    simp [Builtin.copy_, run_underlying hu, Builtin.lenOf, Builtin.firstCells, sizeOf, typeInfo, hq, hmin]
    rw [htk, hst]
    simp [Result.andThen]

/-- A row made by []byte(s). -/
def RowZ (w : World) (g t : Nat) (xs : List Int) : Prop := ∃ cur fz, w.heap[g]? = some (.cells cur t fz) ∧ cur.size ≤ fz.1 ∧ xs.length ≤ cur.size ∧ cur.toList.take xs.length = nums .u8 xs

theorem RowZ.reads {w : World} {g t : Nat} {xs : List Int} (h : RowZ w g t xs) (hm : xs.length ≤ 9223372036854775807) : ReadsInt w .u8 (some ⟨g, 0, none⟩) xs.length xs := by
  obtain ⟨cur, fz, hh, _, hl, ht⟩ := h
  refine ⟨rfl, hm, fun _ => ⟨_, rfl, fun j hj => ?_⟩⟩
  rw [add_plain, cell_of_row w g j cur t fz hh]
  have h1 : (nums .u8 xs)[j]? = some (Value.int .u8 (xs.getD j 0)) := by
    simp [nums, List.getElem?_eq_getElem hj, List.getD_eq_getElem?_getD]
  rw [← ht, List.getElem?_take_of_lt hj] at h1
  simpa using h1
theorem RowZ.grown {w w1 : World} {g t : Nat} {xs : List Int} (h : RowZ w g t xs) {row : Option Nat} (hg : w.grownBy w1 row) (hne : some g ≠ row) : RowZ w1 g t xs := by
  obtain ⟨cur, fz, hh, r⟩ := h
  exact ⟨cur, fz, (hg.block g (blk_lt hh) hne).trans hh, r⟩
theorem RowZ.made (W : World) (e : TypeId) (s : ByteArray) : RowZ (Lib.bytesWorld W e s) W.heap.size e (bytesOf s) := by
  refine ⟨_, _, Lib.bytesWorld_at_new W e s, Nat.le_refl _, ?_, ?_⟩
  · rw [bytesOf_length]
    unfold Lib.bytesCells
    simp only [Array.size_append, Array.size_map, Array.size_replicate]
    have : s.data.size = s.size := rfl
    omega
  · rw [bytesOf_length]
    unfold Lib.bytesCells
    have : (Array.map (fun b : UInt8 => Value.int .u8 (b.toNat : Int)) s.data).toList.length = s.size := by simp
    rw [Array.toList_append, List.take_append_of_le_length (by omega), List.take_of_length_le (by omega)]
    simp [nums, bytesOf]

theorem Z_copy {P : Program} {t g : Nat} {xs : List Int} {w : World} (h : RowZ w g t xs) (o : Nat) (ho : o ≤ xs.length) (s : ByteArray) :
    ∃ w1, (∀ (dT sT ty elem : TypeId) (dCap : Nat), P.underlying dT = some (.slice elem) → (P.info? elem).map (·.size) = some 1 →
        (Builtin.copy_ #[dT, sT] ty #[.slice (some ⟨g, o, none⟩) (xs.length - o) dCap, .string s]).run P w = .ok (goInt (min s.size (xs.length - o) : Nat)) w1) ∧
      RowZ w1 g t (splice xs o ((bytesOf s).take (xs.length - o))) ∧ w.grownBy w1 (some g) := by
  obtain ⟨cur, fz, hh, hz, hl, h4⟩ := h
  have hlt : (bytesOf s).length = s.size := bytesOf_length s
  have hle : ((bytesOf s).take (xs.length - o)).length = min s.size (xs.length - o) := by rw [List.length_take, hlt]; omega
  have hsl : (splice xs o ((bytesOf s).take (xs.length - o))).length = xs.length := splice_length _ _ _ (by rw [hle]; omega)
  have hcs : cur.toList.length = cur.size := Array.length_toList
  refine ⟨w.setRow g (cur.toList.take o ++ byteCells (s.data.toList.take (min s.size (xs.length - o))) ++ cur.toList.drop (o + min s.size (xs.length - o))).toArray, fun dT sT ty elem dCap hu hs => run_copy_strZ w dT sT ty elem g o _ dCap s cur t fz hu hs hh hz (by omega), ?_, ?_⟩
  · have hsz : (cur.toList.take o ++ byteCells (s.data.toList.take (min s.size (xs.length - o))) ++ cur.toList.drop (o + min s.size (xs.length - o))).toArray.size = cur.size := by
      simp only [List.size_toArray, List.length_append, List.length_take, List.length_drop, byteCells_length]
      have := size_eq s
      omega
    refine ⟨_, fz, setRow_heap w g cur _ t fz hh, by rw [hsz]; exact hz, by rw [hsz, hsl]; exact hl, ?_⟩
    rw [hsl]
    have hb : byteCells (s.data.toList.take (min s.size (xs.length - o))) = encs (Value.int .u8) ((bytesOf s).take (xs.length - o)) := by
      unfold byteCells encs bytesOf
      rw [← List.map_take, List.map_map]
      have : List.take (min s.size (xs.length - o)) s.data.toList = List.take (xs.length - o) s.data.toList := by
        rcases Nat.le_total s.size (xs.length - o) with hx | hx
        · rw [Nat.min_eq_left hx, List.take_of_length_le (by rw [data_length]; omega), List.take_of_length_le (by rw [data_length]; omega)]
        · rw [Nat.min_eq_right hx]
      rw [this]
      rfl
    rw [hb, ← hle]
    unfold splice
    simp only [encs, nums, List.map_append, List.map_take, List.map_drop] at *
    have hx : List.map (Value.int .u8) xs = List.take xs.length cur.toList := h4.symm
    rw [hx]
    have hle2 : (List.take (xs.length - o) (List.map (Value.int .u8) (bytesOf s))).length = (List.take (xs.length - o) (bytesOf s)).length := by simp
    have hbd : o + (List.take (xs.length - o) (bytesOf s)).length ≤ xs.length := by rw [hle]; omega
    generalize List.take (xs.length - o) (bytesOf s) = ys at *
    generalize List.take (xs.length - o) (List.map (Value.int .u8) (bytesOf s)) = zs at *
    apply List.ext_getElem?
    intro i
    by_cases a1 : i < xs.length
    · rw [List.getElem?_take_of_lt a1]
      by_cases b1 : i < o
      · rw [List.append_assoc, List.append_assoc, List.getElem?_append_left (by rw [List.length_take]; omega), List.getElem?_append_left (by simp only [List.length_take]; omega), List.getElem?_take_of_lt b1, List.getElem?_take_of_lt b1, List.getElem?_take_of_lt a1]
      · by_cases b2 : i < o + zs.length
        · rw [List.getElem?_append_left (by rw [List.length_append, List.length_take]; omega), List.getElem?_append_right (by rw [List.length_take]; omega), List.getElem?_append_left (by simp only [List.length_append, List.length_take]; omega), List.getElem?_append_right (by simp only [List.length_take]; omega)]
          congr 1
          simp only [List.length_take]
          omega
        · rw [List.getElem?_append_right (by rw [List.length_append, List.length_take]; omega), List.getElem?_append_right (by simp only [List.length_append, List.length_take]; omega), List.getElem?_drop, List.getElem?_drop, List.getElem?_take_of_lt (by simp only [List.length_append, List.length_take]; omega)]
          congr 1
          simp only [List.length_append, List.length_take]
          omega
    · rw [List.getElem?_eq_none (by simp only [List.length_take, List.length_append, List.length_drop]; omega), List.getElem?_eq_none (by simp only [List.length_take, List.length_append, List.length_drop]; omega)]
  · exact ⟨rfl, rfl, rfl, by simp, fun k hk hne => setRow_other w g k _ (fun ek => hne (by rw [ek]))⟩
end Go.Proofs.Ytpjpjamaimahaaa.Copy
