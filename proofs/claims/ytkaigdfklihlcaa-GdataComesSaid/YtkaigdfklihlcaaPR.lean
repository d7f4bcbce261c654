/- A glue and the reference's: what they do to each other's state. -/
import Derived.Test.YtkaigdfklihlcaaPut
import Derived.Test.YtkaigdfklihlcaaRPut2
namespace Go.Proofs.Ytkaigdfklihlcaa.PR
open Go Go.Proofs.Ytkaigdfklihlcaa.Sym Go.Proofs.Ytkaigdfklihlcaa.Blk Go.Proofs.Ytkaigdfklihlcaa.Glue Go.Proofs.Ytkaigdfklihlcaa.Refs
set_option linter.unusedVariables false
set_option linter.unusedSimpArgs false
theorem str_append (a b : List Int) : strOfNums (a ++ b) = strOfNums a ++ strOfNums b := by
  apply ByteArray.ext
  simp [strOfNums]
theorem str_nums (s : ByteArray) : strOfNums (numsOf s) = s := by
  apply ByteArray.ext
  apply Array.ext'
  simp only [strOfNums, numsOf, List.map_map]
  refine Eq.trans (List.map_congr_left (g := id) fun b _ => ?_) (List.map_id _)
  show UInt8.ofNat (Int.toNat ((b.toNat : Nat) : Int)) = b
  rw [Int.toNat_natCast]
  simp
theorem bits : ∀ c : Fin 16, ∀ p q : Fin 4, (had (bit (c : Nat) (q : Nat)) (p : Nat) = (decide (p = q) || had (c : Nat) (p : Nat))) ∧ 0 ≤ bit (c : Nat) (q : Nat) ∧ bit (c : Nat) (q : Nat) ≤ 15 := by decide +kernel
theorem bits0 : ∀ p : Fin 4, had 0 (p : Nat) = false := by decide +kernel
theorem putI_get (l m : List Int) (i j : Nat) (h : i + m.length ≤ l.length) : (putI l i m)[j]? = if i ≤ j ∧ j < i + m.length then m[j - i]? else l[j]? := by
  induction m generalizing l i with
  | nil => rw [putI, if_neg (by simp)]
  | cons c cs ih =>
    simp only [List.length_cons] at h ⊢
    rw [putI, ih _ _ (by rw [List.length_set]; omega), List.getElem?_set]
    by_cases h1 : i + 1 ≤ j ∧ j < i + 1 + cs.length
    · rw [if_pos h1, if_pos (by omega), show j - i = (j - (i + 1)) + 1 by omega, List.getElem?_cons_succ]
    · rw [if_neg h1]
      by_cases h2 : i = j
      · subst h2
        rw [if_pos rfl, if_pos (by omega), if_pos (by omega), Nat.sub_self]
        rfl
      · rw [if_neg h2, if_neg (by omega)]
theorem slice_same (l m : List Int) (i : Nat) (h : i + m.length ≤ l.length) : ((putI l i m).drop i).take m.length = m := by
  apply List.ext_getElem?
  intro j
  by_cases hj : j < m.length
  · rw [List.getElem?_take_of_lt hj, List.getElem?_drop, putI_get _ _ _ _ h, if_pos (by omega), show i + j - i = j by omega]
  · rw [List.getElem?_eq_none (by rw [List.length_take]; omega), List.getElem?_eq_none (by omega)]
theorem slice_other (l m : List Int) (i a n : Nat) (h : i + m.length ≤ l.length) (hd : a + n ≤ i ∨ i + m.length ≤ a) : ((putI l i m).drop a).take n = (l.drop a).take n := by
  apply List.ext_getElem?
  intro j
  by_cases hj : j < n
  · rw [List.getElem?_take_of_lt hj, List.getElem?_take_of_lt hj, List.getElem?_drop, List.getElem?_drop, putI_get _ _ _ _ h, if_neg (by omega)]
  · rw [List.getElem?_eq_none (by rw [List.length_take]; omega), List.getElem?_eq_none (by rw [List.length_take]; omega)]
theorem has_set : ∀ (l : List ByteArray) (p : Nat) (b : ByteArray), l[p]? = some ByteArray.empty → b ≠ ByteArray.empty → has (l.set p b) = has l + 1
  | [], p, b, h, hb => by simp at h
  | x :: l, 0, b, h, hb => by
    simp only [List.getElem?_cons_zero, Option.some.injEq] at h
    subst h
    unfold has
    rw [List.set_cons_zero, List.countP_cons_of_pos (by simpa using hb), List.countP_cons_of_neg (by simp)]
    omega
  | x :: l, p + 1, b, h, hb => by
    have ih := has_set l p b (by simpa using h) hb
    unfold has at ih ⊢
    rw [List.set_cons_succ]
    by_cases hx : x = ByteArray.empty
    · rw [List.countP_cons_of_neg (by simp [hx]), List.countP_cons_of_neg (by simp [hx])]
      exact ih
    · rw [List.countP_cons_of_pos (by simpa using hx), List.countP_cons_of_pos (by simpa using hx)]
      omega
theorem size_ne {b : ByteArray} (h : 0 < b.size) : b ≠ ByteArray.empty := by rintro rfl; simp at h
/-- What the two know of one another. -/
structure Inv (n : Int) (g : Gl) (w : Rg) : Prop where
  hn : 1 ≤ n ∧ n ≤ 64
  gl : (g.val.length : Int) = n
  wn : w.size = n
  is : g.is = true
  inc : w.inc = g.inc
  seq : w.seq = g.seq
  inR : 0 ≤ w.inc ∧ w.inc ≤ 65535
  seR : 0 ≤ w.seq ∧ w.seq ≤ 4294967295
  cnt : g.n = has w.came
  bit : 0 ≤ g.came ∧ g.came ≤ 15
  l : w.came.length = (parts n).toNat
  part : ∀ (p : Nat) x, w.came[p]? = some x → had g.came p = !decide (x = ByteArray.empty) ∧ (x ≠ ByteArray.empty → (x.size : Int) = (piece n p).2 ∧ (g.val.drop (16 * p)).take x.size = numsOf x)
theorem Inv.small {n : Int} {g : Gl} {w : Rg} (h : Inv n g w) : ∀ x ∈ w.came, x.size ≤ 100 := fun x hx => by
  obtain ⟨p, hp⟩ := List.mem_iff_getElem?.1 hx
  by_cases hx : x = ByteArray.empty
  · rw [hx]; decide
  · have h1 := ((h.part p x hp).2 hx).1
    have h2 := piece_in n p (by have := h.hn; omega)
    omega
theorem Inv.rin {n : Int} {g : Gl} {w : Rg} (h : Inv n g w) : w.In := ⟨by rw [h.wn]; exact h.hn, by rw [h.wn]; exact h.l, h.small, h.inR, h.seR⟩
theorem has_le (l : List ByteArray) : 0 ≤ has l ∧ has l ≤ l.length := by
  unfold has
  have := List.countP_le_length (p := fun s : ByteArray => decide (s ≠ ByteArray.empty)) (l := l)
  omega
theorem Inv.gin {n : Int} {g : Gl} {w : Rg} (h : Inv n g w) : g.In := by
  have h1 := has_le w.came
  have h2 := parts_le n
  have h3 := h.cnt
  have h4 := h.l
  have h5 := h.gl
  have h6 := h.hn
  exact ⟨by omega, by omega⟩
theorem fitsN {g : Gl} {n : Int} (h : (g.val.length : Int) = n) (f : Fr) : fits g f = fitN n f := by
  unfold fits fitN
  rw [h]
/-- Parts are where they are. -/
theorem piece_at {n : Int} (hn : 1 ≤ n ∧ n ≤ 64) {p : Nat} (hp : (p : Int) < parts n) : (piece n p).1 = 16 * p ∧ (piece n p).2 = min (16 : Int) (n - 16 * p) ∧ 16 * (p : Int) < n := by
  have h : parts n = (n + 15) / 16 := by unfold parts; rw [if_neg (by omega)]
  unfold piece
  rw [if_neg (by omega)]
  refine ⟨?_, ?_, by omega⟩
  · show (p : Int) * 16 = _
    omega
  · show (if n - p * 16 < 16 then n - p * 16 else 16 : Int) = _
    split <;> omega
theorem outc_all {n : Int} {g : Gl} {w : Rg} (h : Inv n g w) : ∀ (k i : Nat) (acc : ByteArray), i + k = w.came.length → acc = strOfNums (g.val.take (16 * i)) → outc acc (w.came.drop i) = if (w.came.drop i).all (fun x => decide (x ≠ ByteArray.empty)) = true then out (strOfNums g.val) true 0 else out ByteArray.empty false 0
  | 0, i, acc, hk, ha => by
    rw [List.drop_eq_nil_of_le (by omega), outc, if_pos (by rfl), ha]
    have h1 := h.gl
    have h2 := h.l
    have h3 := h.hn
    have hp : parts n = (n + 15) / 16 := by unfold parts; rw [if_neg (by omega)]
    rw [List.take_of_length_le (by omega)]
  | k + 1, i, acc, hk, ha => by
    have hi : i < w.came.length := by omega
    rw [List.drop_eq_getElem_cons hi, outc]
    by_cases hx : w.came[i] = ByteArray.empty
    · rw [if_pos hx, if_neg (by simp [hx])]
    · rw [if_neg hx]
      obtain ⟨h1, h2⟩ := (h.part i _ (List.getElem?_eq_getElem hi)).2 hx
      have h3 := h.l
      have h4 := parts_le n
      have h6 := h.gl
      obtain ⟨e1, e2, e3⟩ := piece_at h.hn (p := i) (by omega)
      have ih := outc_all h k (i + 1) (acc ++ w.came[i]) (by omega) (by
        have : g.val.take (16 * (i + 1)) = g.val.take (16 * i) ++ (g.val.drop (16 * i)).take w.came[i].size := by
          rw [← List.take_add]
          by_cases hl : n - 16 * i < 16
          · rw [List.take_of_length_le (by omega), List.take_of_length_le (by omega)]
          · congr 1
            omega
        rw [this, str_append, h2, str_nums, ha])
      rw [ih, List.all_cons, decide_eq_true (p := w.came[i] ≠ ByteArray.empty) hx, Bool.true_and]
theorem outc_has {n : Int} {g : Gl} {w : Rg} (h : Inv n g w) : outc ByteArray.empty w.came = if has w.came < parts n then out ByteArray.empty false 0 else out (strOfNums g.val) true 0 := by
  have := outc_all h w.came.length 0 ByteArray.empty (by omega) (by simp [strOfNums]; rfl)
  rw [List.drop_zero] at this
  rw [this]
  have h1 := has_le w.came
  have h2 := h.l
  have h4 := parts_le n
  by_cases hall : w.came.all (fun x => decide (x ≠ ByteArray.empty)) = true
  · have : has w.came = w.came.length := by
      unfold has
      congr 1
      exact List.countP_eq_length.2 fun a ha => List.all_eq_true.1 hall a ha
    rw [if_pos hall, if_neg (by omega)]
  · have : has w.came ≠ w.came.length := fun e => hall (List.all_eq_true.2 (List.countP_eq_length.1 (by unfold has at e; omega)))
    rw [if_neg hall, if_pos (by omega)]
theorem lay_step {n : Int} {g : Gl} {w : Rg} (h : Inv n g w) {f : Fr} (hf : f.In) (hfit : fitN n f = true) : (g.lay f).1 = (w.lay f).1 ∧ Inv n (g.lay f).2 (w.lay f).2 := by
  obtain ⟨d1, d2, d3⟩ := fit_of hfit
  have hl := h.l
  have hpl := parts_le n
  have hpr := hf.part
  have hp : f.part.toNat < w.came.length := by omega
  have hpi : ((f.part.toNat : Nat) : Int) = f.part := by omega
  obtain ⟨x, hx⟩ : ∃ x, w.came[f.part.toNat]? = some x := ⟨_, List.getElem?_eq_getElem hp⟩
  obtain ⟨h1, h2⟩ := h.part _ x hx
  rw [hpi] at h1
  unfold Gl.lay Rg.lay
  rw [hx, Option.getD_some]
  by_cases hxe : x = ByteArray.empty
  · rw [if_pos hxe]
    have hh : had g.came f.part = false := by rw [h1, hxe]; rfl
    rw [if_neg (by rw [hh]; decide)]
    subst hxe
    obtain ⟨e1, e2, e3⟩ := piece_at h.hn (p := f.part.toNat) (by omega)
    rw [hpi] at e1 e2 e3
    have gl := h.gl
    have e4 : (piece g.val.length f.part).1.toNat = 16 * f.part.toNat := by rw [gl, e1]; omega
    have hbs : 0 < f.b.size := by omega
    have hfit2 : 16 * f.part.toNat + (numsOf f.b).length ≤ g.val.length := by rw [numsOf_length]; omega
    have hset := has_set w.came f.part.toNat f.b hx (size_ne hbs)
    obtain ⟨⟨c, hc⟩, hcn⟩ : ∃ c : Fin 16, ((c : Nat) : Int) = g.came := ⟨⟨g.came.toNat, by have := h.bit; omega⟩, by have := h.bit; simp; omega⟩
    have hq4 : f.part.toNat < 4 := by omega
    have inv : Inv n (g.at f) { w with came := w.came.set f.part.toNat f.b } := by
      refine ⟨h.hn, ?_, h.wn, h.is, h.inc, h.seq, h.inR, h.seR, ?_, ?_, by rw [List.length_set]; exact hl, fun p y hy => ?_⟩
      · unfold Gl.at
        simp only
        rw [putI_length]
        exact gl
      · show g.n + 1 = has (w.came.set f.part.toNat f.b)
        rw [hset, h.cnt]
      · have := (bits ⟨c, hc⟩ ⟨0, by decide⟩ ⟨f.part.toNat, hq4⟩).2
        simp only at this hcn
        rw [hcn, hpi] at this
        exact this
      · have hpl2 : p < w.came.length := by have := (List.getElem?_eq_some_iff.1 hy).1; simpa using this
        have hb := (bits ⟨c, hc⟩ ⟨p, by omega⟩ ⟨f.part.toNat, hq4⟩).1
        simp only [Fin.mk.injEq] at hb hcn
        rw [hcn, hpi] at hb
        rw [List.getElem?_set] at hy
        show had (bit g.came f.part) p = _ ∧ (_ → _ ∧ ((putI g.val (piece g.val.length f.part).1.toNat (numsOf f.b)).drop (16 * p)).take y.size = numsOf y)
        rw [hb, e4]
        by_cases hpp : f.part.toNat = p
        · rw [if_pos hpp, if_pos hp] at hy
          cases hy
          refine ⟨by simp [hpp, size_ne hbs], fun _ => ⟨by rw [← hpp, hpi]; exact d3, ?_⟩⟩
          rw [← hpp, ← numsOf_length]
          exact slice_same _ _ _ hfit2
        · rw [if_neg hpp] at hy
          obtain ⟨k1, k2⟩ := h.part p y hy
          refine ⟨by rw [k1]; simp [Ne.symm hpp], fun hye => ⟨(k2 hye).1, ?_⟩⟩
          rw [← (k2 hye).2]
          obtain ⟨f1, f2, f3⟩ := piece_at h.hn (p := p) (by omega)
          have := (k2 hye).1
          refine slice_other _ _ _ _ _ hfit2 ?_
          rw [numsOf_length]
          omega
    have ho := outc_has inv
    simp only at ho
    have hcnt := h.cnt
    by_cases hlt : g.n + 1 < f.np
    · rw [if_pos hlt]
      refine ⟨?_, inv⟩
      rw [ho, if_pos (by omega)]
      rfl
    · rw [if_neg hlt]
      refine ⟨?_, inv⟩
      rw [ho, if_neg (by omega)]
      rfl
  · rw [if_neg hxe]
    have hh : had g.came f.part = true := by rw [h1]; simp [hxe]
    rw [if_pos hh]
    exact ⟨rfl, h⟩
theorem fresh_inv {n : Int} (hn : 1 ≤ n ∧ n ≤ 64) {g : Gl} (gl : (g.val.length : Int) = n) {f : Fr} (hf : f.In) : Inv n (g.begin f.inc f.seq) (Rg.fresh n f) where
  hn := hn
  gl := gl
  wn := rfl
  is := rfl
  inc := rfl
  seq := rfl
  inR := hf.inc
  seR := hf.seq
  cnt := by
    show 0 = has (List.replicate _ _)
    unfold has
    rw [List.countP_eq_zero.2 fun a ha => by rw [List.eq_of_mem_replicate ha]; decide]
    rfl
  bit := by show (0 : Int) ≤ 0 ∧ (0 : Int) ≤ 15; decide
  l := List.length_replicate
  part := fun p x hx => by
    have hm := List.mem_of_getElem? hx
    have hp : p < (parts n).toNat := by have := (List.getElem?_eq_some_iff.1 hx).1; simpa [Rg.fresh] using this
    have hpl := parts_le n
    obtain rfl : x = ByteArray.empty := List.eq_of_mem_replicate hm
    refine ⟨?_, fun h => absurd rfl h⟩
    have := bits0 ⟨p, by omega⟩
    show had 0 p = _
    rw [this]
    simp
theorem cmpV_lt {a b c d : Int} (hb : 0 ≤ b ∧ b ≤ 4294967295) (hd : 0 ≤ d ∧ d ≤ 4294967295) : (cmpV a b c d < 0 ↔ num a b < num c d) ∧ (0 < cmpV a b c d ↔ num c d < num a b) := by
  unfold cmpV or2 cmp3 num
  by_cases h1 : a < c
  · rw [if_pos h1]
    simp
    omega
  · rw [if_neg h1]
    by_cases h2 : c < a
    · rw [if_pos h2]
      simp
      omega
    · rw [if_neg h2]
      simp only [if_true]
      obtain rfl : a = c := by omega
      by_cases h3 : b < d
      · rw [if_pos h3]
        simp
        omega
      · rw [if_neg h3]
        by_cases h4 : d < b
        · rw [if_pos h4]
          simp
          omega
        · rw [if_neg h4]
          simp
          omega
/-- One frame, while they are at a version. -/
theorem put_step {n : Int} {g : Gl} {w : Rg} (h : Inv n g w) {f : Fr} (hf : f.In) : (g.put f).1 = (w.put f).1 ∧ Inv n (g.put f).2 (w.put f).2 := by
  obtain ⟨v1, v2⟩ := cmpV_lt (a := f.inc) (c := g.inc) hf.seq (h.seq ▸ h.seR)
  unfold Gl.put Rg.put
  rw [fitsN h.gl, h.wn, h.inc, h.seq, if_pos h.is]
  cases c1 : f.kind != 4
  · simp only [Bool.false_eq_true, if_false]
    cases c2 : fitN n f
    · simp only [if_true]
      exact ⟨rfl, h⟩
    · simp only [Bool.true_eq_false, if_false]
      by_cases c3 : num f.inc f.seq < num g.inc g.seq
      · rw [if_pos (v1.2 c3), if_pos c3]
        exact ⟨rfl, h⟩
      · rw [if_neg (fun e => c3 (v1.1 e)), if_neg c3]
        by_cases c4 : num g.inc g.seq < num f.inc f.seq
        · rw [if_pos (v2.2 c4), if_pos c4]
          exact lay_step (fresh_inv h.hn h.gl hf) hf c2
        · rw [if_neg (fun e => c4 (v2.1 e)), if_neg c4]
          exact lay_step h hf c2
  · simp only [if_true]
    exact ⟨rfl, h⟩
end Go.Proofs.Ytkaigdfklihlcaa.PR
