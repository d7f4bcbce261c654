/- Parts of a value, those that are left coming in whatever order. -/
import Derived.Test.YtkaigdfklihlcaaRSpl
import Derived.Test.YtkaigdfklihlcaaPR
namespace Go.Proofs.Ytkaigdfklihlcaa.Spl
open Go Go.Proofs.Ytkaigdfklihlcaa.Sym Go.Proofs.Ytkaigdfklihlcaa.Blk Go.Proofs.Ytkaigdfklihlcaa.Glue Go.Proofs.Ytkaigdfklihlcaa.Refs Go.Proofs.Ytkaigdfklihlcaa.PR
set_option linter.unusedVariables false
set_option linter.unusedSimpArgs false
theorem cat_rest (s : ByteArray) (h : 16 ≤ s.size) : s.extract 0 16 ++ s.extract 16 s.size = s := by
  rw [ByteArray.extract_append_extract]
  simp
theorem outc_cuts (s acc : ByteArray) : outc acc (cuts s) = out (acc ++ s) true 0 := by
  rw [cuts_eq]
  by_cases c : 16 < s.size
  · rw [if_pos c, outc, if_neg (by intro h; have h2 : (s.extract 0 16).size = 0 := (by rw [h]; rfl); rw [ByteArray.size_extract] at h2; omega), outc_cuts (s.extract 16 s.size), ByteArray.append_assoc, cat_rest s (by omega)]
  · rw [if_neg c]
    by_cases c3 : s = ByteArray.empty
    · rw [if_pos c3, outc, c3, ByteArray.append_empty]
    · rw [if_neg c3, outc, if_neg c3, outc]
termination_by s.size
decreasing_by rw [rest_size]; omega
theorem outc_none : ∀ (l : List ByteArray) (acc : ByteArray), ByteArray.empty ∈ l → outc acc l = out ByteArray.empty false 0
  | [], _, h => by cases h
  | x :: l, acc, h => by
    rw [outc]
    by_cases c : x = ByteArray.empty
    · rw [if_pos c]
    · rw [if_neg c]
      refine outc_none l _ ?_
      rcases List.mem_cons.1 h with h | h
      · exact absurd h.symm c
      · exact h
/-- Those that are left are ps. -/
structure Le (f : Fr) (s : ByteArray) (ps : List Nat) (g : Gl) (w : Rg) : Prop where
  inv : Inv s.size (if g.is = true then g else g.begin f.inc f.seq) w
  wi : w.inc = f.inc
  ws : w.seq = f.seq
  at_ : g.is = true → g.inc = f.inc ∧ g.seq = f.seq
  came : ∀ (p : Nat) x, w.came[p]? = some x → x = if p ∈ ps then ByteArray.empty else cut s p
  nodup : ps.Nodup
  lt : ∀ p ∈ ps, p < (parts s.size).toNat
theorem fr_in {f : Fr} (hf : f.In) {s : ByteArray} {p : Nat} (hp : p < (parts s.size).toNat) : (fr f s p).In := by
  have := parts_le s.size
  exact ⟨by show (0 : Int) ≤ p ∧ (p : Int) ≤ 255; omega, by show 0 ≤ parts s.size ∧ parts s.size ≤ 255; omega, hf.inc, hf.seq⟩
theorem cut_size {s : ByteArray} (h : 1 ≤ s.size ∧ s.size ≤ 64) {p : Nat} (hp : p < (parts s.size).toNat) : ((cut s p).size : Int) = (piece s.size p).2 ∧ 0 < (piece s.size p).2 := by
  have hl := parts_of h
  have hc := cuts_len s
  obtain ⟨e1, e2, e3⟩ := piece_at (n := s.size) (by omega) (p := p) (by omega)
  unfold cut
  rw [e1, e2, ByteArray.size_extract]
  omega
theorem fr_fit {f : Fr} {s : ByteArray} (h : 1 ≤ s.size ∧ s.size ≤ 64) {p : Nat} (hp : p < (parts s.size).toNat) : fitN s.size (fr f s p) = true := by
  obtain ⟨h1, h2⟩ := cut_size h hp
  unfold fitN
  rw [Bool.and_eq_true, Bool.and_eq_true]
  exact ⟨⟨beq_self_eq_true _, decide_eq_true h2⟩, beq_iff_eq.2 h1⟩
theorem mem_eraseIdx {ps : List Nat} (h : ps.Nodup) {k p : Nat} (hk : ps[k]? = some p) (q : Nat) : q ∈ ps.eraseIdx k ↔ q ∈ ps ∧ q ≠ p := by
  rw [List.mem_eraseIdx_iff_getElem?]
  constructor
  · rintro ⟨i, hi, hq⟩
    refine ⟨List.mem_of_getElem? hq, fun e => hi ?_⟩
    subst e
    obtain ⟨a1, a2⟩ := List.getElem?_eq_some_iff.1 hq
    obtain ⟨b1, b2⟩ := List.getElem?_eq_some_iff.1 hk
    exact (List.getElem_inj h).1 (a2.trans b2.symm)
  · rintro ⟨hq, hne⟩
    obtain ⟨i, hi⟩ := List.mem_iff_getElem?.1 hq
    exact ⟨i, fun e => by subst e; rw [hk] at hi; cases hi; exact hne rfl, hi⟩
theorem left_step {f : Fr} (hf : f.In) {s : ByteArray} (hs : 1 ≤ s.size ∧ s.size ≤ 64) {ps : List Nat} {g : Gl} {w : Rg} (h : Le f s ps g w) {k p : Nat} (hk : ps[k]? = some p) :
    (g.put (fr f s p)).1 = out (if (ps.eraseIdx k).isEmpty = true then s else ByteArray.empty) (ps.eraseIdx k).isEmpty 0 ∧ (∃ w', Le f s (ps.eraseIdx k) (g.put (fr f s p)).2 w') ∧ (g.put (fr f s p)).2.In ∧ ((g.put (fr f s p)).2.val.length : Int) = s.size := by
  have hpl : p < (parts s.size).toNat := h.lt p (List.mem_of_getElem? hk)
  have hin := fr_in hf hpl
  have hfit := fr_fit (f := f) hs hpl
  have hinv := h.inv
  have hval : (g.val.length : Int) = s.size := by
    have := hinv.gl
    split at this <;> exact this
  have hput : g.put (fr f s p) = (if g.is = true then g else g.begin f.inc f.seq).lay (fr f s p) := by
    unfold Gl.put
    rw [if_neg (show ¬ ((fr f s p).kind != 4) = true by rw [show (fr f s p).kind = 4 from rfl]; decide), fitsN hval, hfit, if_neg (by decide)]
    by_cases c : g.is = true
    · rw [if_pos c, if_pos c]
      obtain ⟨a1, a2⟩ := h.at_ c
      have e : cmpV (fr f s p).inc (fr f s p).seq g.inc g.seq = 0 := by
        rw [a1, a2]
        show cmpV f.inc f.seq f.inc f.seq = 0
        unfold cmpV or2 cmp3
        simp
      rw [e, if_neg (by decide), if_neg (by decide)]
    · rw [if_neg c, if_neg c]
      rfl
  obtain ⟨l1, l2⟩ := lay_step hinv hin hfit
  have hcl := hinv.l
  have hwp : w.came[p]? = some ByteArray.empty := by
    have hx : w.came[p]? = some w.came[p] := List.getElem?_eq_getElem (by omega)
    have := h.came p _ hx
    rw [if_pos (List.mem_of_getElem? hk)] at this
    rw [hx, this]
  have hlay : w.lay (fr f s p) = (outc ByteArray.empty (w.came.set p (cut s p)), { w with came := w.came.set p (cut s p) }) := by
    unfold Rg.lay
    have e : (fr f s p).part.toNat = p := by show ((p : Int)).toNat = p; omega
    rw [e, hwp, Option.getD_some, if_pos rfl]
    rfl
  rw [hlay] at l1 l2
  have hcame : ∀ (q : Nat) x, (w.came.set p (cut s p))[q]? = some x → x = if q ∈ ps.eraseIdx k then ByteArray.empty else cut s q := fun q x hx => by
    rw [List.getElem?_set] at hx
    have hm := mem_eraseIdx h.nodup hk q
    by_cases c : p = q
    · subst c
      rw [if_pos rfl] at hx
      rw [if_neg (fun e => (hm.1 e).2 rfl)]
      split at hx
      · cases hx; rfl
      · cases hx
    · rw [if_neg c] at hx
      rw [h.came q x hx]
      by_cases d : q ∈ ps
      · rw [if_pos d, if_pos (hm.2 ⟨d, fun e => c e.symm⟩)]
      · rw [if_neg d, if_neg (fun e => d (hm.1 e).1)]
  have hlen : (w.came.set p (cut s p)).length = (parts s.size).toNat := by rw [List.length_set, hcl]
  have his : ((if g.is = true then g else g.begin f.inc f.seq).lay (fr f s p)).2.is = true := l2.is
  rw [hput]
  refine ⟨?_, ⟨{ w with came := w.came.set p (cut s p) }, ?_⟩, l2.gin, l2.gl⟩
  · rw [l1]
    show outc ByteArray.empty (w.came.set p (cut s p)) = _
    cases he : ps.eraseIdx k with
    | nil =>
      have : w.came.set p (cut s p) = cuts s := by
        apply List.ext_getElem?
        intro q
        have hq := parts_of hs
        by_cases c : q < (cuts s).length
        · rw [cut_at hs c]
          have hx : (w.came.set p (cut s p))[q]? = some (w.came.set p (cut s p))[q] := List.getElem?_eq_getElem (by omega)
          have := hcame q _ hx
          rw [he, if_neg (by simp)] at this
          rw [hx, this]
        · rw [List.getElem?_eq_none (by omega), List.getElem?_eq_none (by omega)]
      rw [this, outc_cuts, ByteArray.empty_append]
      rfl
    | cons q qs =>
      refine outc_none _ _ ?_
      have hq : q ∈ ps.eraseIdx k := by rw [he]; simp
      have hql := h.lt q ((mem_eraseIdx h.nodup hk q).1 hq).1
      have hx : (w.came.set p (cut s p))[q]? = some (w.came.set p (cut s p))[q] := List.getElem?_eq_getElem (by omega)
      have := hcame q _ hx
      rw [if_pos hq] at this
      rw [this] at hx
      exact List.mem_of_getElem? hx
  · refine ⟨?_, h.wi, h.ws, fun _ => ?_, hcame, h.nodup.sublist (List.eraseIdx_sublist ps k), fun q hq => h.lt q ((mem_eraseIdx h.nodup hk q).1 hq).1⟩
    · rw [if_pos his]
      exact l2
    · have i1 := l2.inc
      have i2 := l2.seq
      exact ⟨i1.symm.trans h.wi, i2.symm.trans h.ws⟩
/-- At the beginning. -/
theorem left_begin {f : Fr} (hf : f.In) {s : ByteArray} (hs : 1 ≤ s.size ∧ s.size ≤ 64) (g : Gl) (hg : g.is = false) (hl : (g.val.length : Int) = s.size) : ∃ w, Le f s (List.range (parts s.size).toNat) g w := by
  refine ⟨Rg.fresh s.size f, ?_, rfl, rfl, fun h => (by rw [hg] at h; cases h), fun p x hx => ?_, List.nodup_range, fun p hp => List.mem_range.1 hp⟩
  · rw [if_neg (by rw [hg]; decide)]
    exact fresh_inv (by omega) hl hf
  · have hm := List.mem_of_getElem? hx
    have hp : p < (parts s.size).toNat := by have := (List.getElem?_eq_some_iff.1 hx).1; simpa [Rg.fresh] using this
    rw [if_pos (List.mem_range.2 hp)]
    exact List.eq_of_mem_replicate hm
theorem tail_range (g : Fr) (s : ByteArray) : ∀ n i, tail g s n i = (List.range' i n).map (fr g s)
  | 0, _ => rfl
  | n + 1, i => by rw [tail, tail_range g s n, List.range'_succ]; rfl
theorem split_range (g : Fr) (s : ByteArray) : split g s = (List.range (parts s.size).toNat).map (fr g s) := by
  rw [split, tail_range, List.range_eq_range']
end Go.Proofs.Ytkaigdfklihlcaa.Spl
