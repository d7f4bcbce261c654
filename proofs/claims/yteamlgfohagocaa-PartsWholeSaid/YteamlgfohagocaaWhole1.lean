/- The law PartsWhole: of several values, whose parts come in whatever order. -/
import Derived.Test.YteamlgfohagocaaLeft
namespace Go.Proofs.Yteamlgfohagocaa.Spl
open Go Go.Proofs.Yteamlgfohagocaa.Sym Go.Proofs.Yteamlgfohagocaa.Blk Go.Proofs.Yteamlgfohagocaa.Glue Go.Proofs.Yteamlgfohagocaa.Refs Go.Proofs.Yteamlgfohagocaa.PR
set_option linter.unusedVariables false
set_option linter.unusedSimpArgs false
/-- The frame of which a value's frames are made. -/
def F (j : Nat) : Fr := ⟨0, fun i => ([.int .u8 0, .int .u8 0, .int .u16 0, .int .u16 0, .int .u16 0, .int .u8 0, .int .u16 0, .int .u16 0, .int .u16 0, .int .u8 0, .int .u16 0, .bool false, .int .u8 0] : List Value).getD i.1 (.bool false), ((j / 3 : Nat) : Int), j, 0, 0, ByteArray.empty⟩
theorem F_in {j : Nat} (h : j < 8) : (F j).In := by
  refine ⟨⟨Int.le_refl 0, by show (0 : Int) ≤ 255; decide⟩, ⟨Int.le_refl 0, by show (0 : Int) ≤ 255; decide⟩, ?_, ?_⟩
  · show 0 ≤ ((j / 3 : Nat) : Int) ∧ ((j / 3 : Nat) : Int) ≤ 65535
    omega
  · show 0 ≤ (j : Int) ∧ (j : Int) ≤ 4294967295
    omega
theorem F_lt {i j : Nat} (h : i < j) : cmpV (F i).inc (F i).seq (F j).inc (F j).seq < 0 := by
  show cmpV ((i / 3 : Nat) : Int) i ((j / 3 : Nat) : Int) j < 0
  unfold cmpV or2 cmp3
  split <;> split <;> (try split) <;> omega
theorem F_gt {i j : Nat} (h : j < i) : 0 < cmpV (F i).inc (F i).seq (F j).inc (F j).seq := by
  show 0 < cmpV ((i / 3 : Nat) : Int) i ((j / 3 : Nat) : Int) j
  unfold cmpV or2 cmp3
  split <;> split <;> (try split) <;> omega
theorem F_eq (i : Nat) : cmpV (F i).inc (F i).seq (F i).inc (F i).seq = 0 := by
  unfold cmpV or2 cmp3
  simp
theorem put_is {g : Gl} {f : Fr} (h1 : f.kind = 4) (h2 : fits g f = true) : (g.put f).2.is = true := by
  have hl : ∀ g : Gl, g.is = true → (g.lay f).2.is = true := fun g hg => by
    unfold Gl.lay
    split
    · exact hg
    · split <;> exact hg
  unfold Gl.put
  rw [if_neg (show ¬ (f.kind != 4) = true by rw [h1]; decide), h2, if_neg (by decide)]
  by_cases c : g.is = true
  · rw [if_pos c]
    split
    · exact c
    · split
      · exact hl _ rfl
      · exact hl _ c
  · rw [if_neg c]
    exact hl _ rfl
/-- Where a glue may be: nothing came yet, or some of one value; and which was the last that was whole. -/
def St (P : Nat → ByteArray) (N n : Nat) (last : Int) (g : Gl) : Prop :=
  g.In ∧ g.val.length = n ∧ ((g.is = false ∧ last = -1) ∨ ∃ j ps w, j < N ∧ Le (F j) (P j) ps g w ∧ g.is = true ∧ (ps = [] → last = j) ∧ (ps ≠ [] → last < j))
def Go1 (P : Nat → ByteArray) (N n : Nat) (last : Int) (j : Nat) (r : AV × Gl) : Prop :=
  ∃ d s e, r.1 = out s d e ∧ (d = false → s = ByteArray.empty ∧ (e = 0 ∨ e = 1 ∨ e = 14) ∧ St P N n last r.2) ∧ (d = true → s = P j ∧ e = 0 ∧ last < j ∧ r.2.is = true ∧ r.2.inc = (F j).inc ∧ r.2.seq = (F j).seq ∧ St P N n j r.2)
theorem go_left {P : Nat → ByteArray} {N n : Nat} (hN : N ≤ 8) (hn : 1 ≤ n ∧ n ≤ 64) (hP : ∀ j < N, (P j).size = n) {last : Int} {g : Gl} {j p : Nat} (hj : j < N) {ps : List Nat} {w : Rg} (h : Le (F j) (P j) ps g w) (hl : g.val.length = n) (hlast : last < j) (hp : p ∈ ps) :
    Go1 P N n last j (g.put (fr (F j) (P j) p)) := by
  have hs : 1 ≤ (P j).size ∧ (P j).size ≤ 64 := by rw [hP j hj]; exact hn
  obtain ⟨k, hk⟩ := List.mem_iff_getElem?.1 hp
  obtain ⟨s1, ⟨w', s2⟩, s3, s4⟩ := left_step (F_in (by omega)) hs h hk
  have hfit : fits g (fr (F j) (P j) p) = true := by
    rw [fitsN (n := (P j).size) (by rw [hP j hj, hl])]
    exact fr_fit hs (h.lt p hp)
  have his := put_is (f := fr (F j) (P j) p) rfl hfit
  obtain ⟨a1, a2⟩ := s2.at_ his
  refine ⟨_, _, _, s1, fun hd => ?_, fun hd => ?_⟩
  · rw [hd, if_neg (by decide)]
    refine ⟨rfl, .inl rfl, s3, by rw [hP j hj] at s4; omega, .inr ⟨j, _, w', hj, s2, his, fun e => ?_, fun _ => hlast⟩⟩
    rw [e] at hd
    cases hd
  · rw [if_pos hd]
    refine ⟨rfl, rfl, hlast, his, a1, a2, s3, by rw [hP j hj] at s4; omega, .inr ⟨j, _, w', hj, s2, his, fun _ => rfl, fun e => ?_⟩⟩
    exact absurd (List.isEmpty_iff.1 hd) e
theorem go_any {P : Nat → ByteArray} {N n : Nat} (hN : N ≤ 8) (hn : 1 ≤ n ∧ n ≤ 64) (hP : ∀ j < N, (P j).size = n) {last : Int} {g : Gl} (h : St P N n last g) {j p : Nat} (hj : j < N) (hp : p < (parts n).toNat) :
    Go1 P N n last j (g.put (fr (F j) (P j) p)) := by
  have h0 := h
  obtain ⟨hgi, hl, h⟩ := h
  have hs : 1 ≤ (P j).size ∧ (P j).size ≤ 64 := by rw [hP j hj]; exact hn
  have hp' : p < (parts (P j).size).toNat := by rw [hP j hj]; exact hp
  have hfit : fits g (fr (F j) (P j) p) = true := by
    rw [fitsN (n := (P j).size) (by rw [hP j hj, hl])]
    exact fr_fit hs hp'
  have hin := F_in (show j < 8 by omega)
  rcases h with ⟨h1, h2⟩ | ⟨i, ps, w, hi, hle, his, e1, e2⟩
  · obtain ⟨w, hw⟩ := left_begin hin hs g h1 (by rw [hP j hj, hl])
    exact go_left hN hn hP hj hw hl (by omega) (List.mem_range.2 hp')
  · obtain ⟨b1, b2⟩ := hle.at_ his
    have hlast : last ≤ i := by
      by_cases c : ps = []
      · rw [e1 c]; exact Int.le_refl _
      · have := e2 c; omega
    have hput : g.put (fr (F j) (P j) p) = if cmpV (F j).inc (F j).seq (F i).inc (F i).seq < 0 then (out ByteArray.empty false 1, g) else if 0 < cmpV (F j).inc (F j).seq (F i).inc (F i).seq then (g.begin (F j).inc (F j).seq).lay (fr (F j) (P j) p) else g.lay (fr (F j) (P j) p) := by
      unfold Gl.put
      rw [if_neg (show ¬ ((fr (F j) (P j) p).kind != 4) = true by rw [show (fr (F j) (P j) p).kind = 4 from rfl]; decide), hfit, if_neg (by decide), if_pos his, b1, b2]
      rfl
    rcases Nat.lt_trichotomy j i with c | c | c
    · rw [hput, if_pos (F_lt c)]
      exact ⟨false, _, _, rfl, fun _ => ⟨rfl, .inr (.inl rfl), h0⟩, fun e => by cases e⟩
    · subst c
      by_cases d : p ∈ ps
      · exact go_left hN hn hP hj hle hl (e2 (by rintro rfl; cases d)) d
      · rw [hput, F_eq, if_neg (by decide), if_neg (by decide)]
        have hinv := hle.inv
        rw [if_pos his] at hinv
        have hx : w.came[p]? = some (w.came[p]'(by rw [hinv.l]; exact hp')) := List.getElem?_eq_getElem _
        have hc := hle.came p _ hx
        rw [if_neg d] at hc
        have hne : cut (P j) p ≠ ByteArray.empty := by
          intro e
          have hz := (cut_size hs hp')
          rw [e] at hz
          simp at hz
          omega
        have hh := (hinv.part p _ hx).1
        rw [hc, decide_eq_false hne] at hh
        have hlay : g.lay (fr (F j) (P j) p) = (out ByteArray.empty false 14, g) := by
          unfold Gl.lay
          rw [if_pos (show had g.came (fr (F j) (P j) p).part = true from hh)]
          rfl
        rw [hlay]
        exact ⟨false, _, _, rfl, fun _ => ⟨rfl, .inr (.inr rfl), h0⟩, fun e => by cases e⟩
    · have hsame : g.put (fr (F j) (P j) p) = ({ g with is := false } : Gl).put (fr (F j) (P j) p) := by
        rw [hput, if_neg (by have := F_gt c; omega), if_pos (F_gt c)]
        unfold Gl.put
        have hfit' : fits ({ g with is := false } : Gl) (fr (F j) (P j) p) = true := hfit
        rw [if_neg (show ¬ ((fr (F j) (P j) p).kind != 4) = true by rw [show (fr (F j) (P j) p).kind = 4 from rfl]; decide), hfit', if_neg (by decide), if_neg (show ¬ false = true by decide)]
        rfl
      rw [hsame]
      obtain ⟨w, hw⟩ := left_begin hin hs ({ g with is := false } : Gl) rfl (by rw [hP j hj]; exact congrArg _ hl)
      exact go_left hN hn hP hj hw hl (by omega) (List.mem_range.2 hp')
end Go.Proofs.Yteamlgfohagocaa.Spl
