/- That an argument's reading tells a list, or a struct, of plain values, kind by kind. -/
import Derived.Test.YtpjpjamaimahaaaWWords
import Derived.Test.YtpjpjamaimahaaaProg
import Derived.ChangeArms
import Derived.SizedLaws
import Derived.Carry
namespace Go.Proofs.Ytpjpjamaimahaaa.Opens
open Go.RowKit Go.Proofs.YtpjpjamaimahaaaW.PrintWords
set_option linter.unusedVariables false
set_option linter.unusedSimpArgs false

structure Opens {α : Type} (P : Program) (t : TypeId) (d : Kd α) (Q : α → Prop) : Prop where mk ::
  out : ∀ {H : Type} (enc : TypeId × Value → H) (w : World) (fuel : Nat) (held : Bool) (cs : List Value) (x : DataW H × List MemPlace),
    DataW.trod enc P w 0 (fun _ => true) held fuel t cs = some x → (∀ n, n ∈ x.1.weights P t → n ≤ 140737488351232) → ∃ v, d.K w v cs ∧ Q v

theorem Opens.imp {α : Type} {P : Program} {t : TypeId} {d : Kd α} {Q Q' : α → Prop} (h : Opens P t d Q) (hq : ∀ v, Q v → Q' v) : Opens P t d Q' := ⟨
  fun {H} enc w fuel held cs x hx hw => by
    obtain ⟨v, h1, h2⟩ := h.out enc w fuel held cs x hx hw
    exact ⟨v, h1, hq v h2⟩⟩

theorem opens_int {P : Program} {t : TypeId} {k : IntKind} (ht : P.underlying t = some (.int k)) : Opens P t (Kd.int k) (fun v => (Lit.int k v).wf = true) := ⟨
  fun {H} enc w fuel held cs x hx _ => by
    obtain ⟨n, rfl, rfl, hw⟩ := DataW.trod_int ht hx
    exact ⟨n, rfl, hw⟩⟩
theorem opens_bool {P : Program} {t : TypeId} (ht : P.underlying t = some .bool) : Opens P t Kd.bool (fun _ => True) := ⟨
  fun {H} enc w fuel held cs x hx _ => by
    obtain ⟨n, rfl, rfl⟩ := DataW.trod_bool ht hx
    exact ⟨n, rfl, trivial⟩⟩
theorem opens_string {P : Program} {t : TypeId} (ht : P.underlying t = some .string) : Opens P t Kd.string (fun s => s.size ≤ 140737488351232) := ⟨
  fun {H} enc w fuel held cs x hx hw => by
    obtain ⟨s, rfl, rfl, _⟩ := DataW.trod_string ht hx
    have h1 := hw s.data.toList.length (by simp [DataW.weights])
    rw [data_length] at h1
    exact ⟨s, rfl, h1⟩⟩

theorem list_of {α : Type} (p : Nat → α → Prop) : ∀ n, (∀ i, i < n → ∃ v, p i v) → ∃ l : List α, l.length = n ∧ ∀ (i : Nat) v, l[i]? = some v → p i v
  | 0, _ => ⟨[], rfl, fun i v h => by simp at h⟩
  | n + 1, h => by
    obtain ⟨l, h1, h2⟩ := list_of p n (fun i hi => h i (by omega))
    obtain ⟨v, hv⟩ := h n (by omega)
    refine ⟨l ++ [v], by rw [List.length_append, h1]; rfl, fun i u hu => ?_⟩
    rcases Nat.lt_or_ge i l.length with hi | hi
    · rw [List.getElem?_append_left hi] at hu
      exact h2 i u hu
    · rw [List.getElem?_append_right hi] at hu
      have hi' : i - l.length = 0 := by
        rcases Nat.eq_zero_or_pos (i - l.length) with z | z
        · exact z
        · rw [List.getElem?_eq_none (by simp; omega)] at hu
          cases hu
      rw [hi'] at hu
      have e : i = n := by omega
      subst e
      obtain rfl : v = u := by simpa using hu
      exact hv

theorem all_mem {H : Type} {P : Program} {e : TypeId} {d : DataW H} {n : Nat} : ∀ {l : List (DataW H)}, d ∈ l → n ∈ d.weights P e → n ∈ DataW.weightsAll P e l
  | [], h, _ => by cases h
  | x :: r, h, hn => by
    simp only [DataW.weightsAll, List.mem_append]
    rcases List.mem_cons.1 h with rfl | h
    · exact Or.inl hn
    · exact Or.inr (all_mem h hn)

theorem opens_slice {α : Type} {P : Program} {t e : TypeId} {d : Kd α} {Q : α → Prop} (ht : P.underlying t = some (.slice e)) (he : Opens P e d Q) (hc : P.cellsOf e = d.sz) (hby : decide (0 < P.bytesOf e) = true) :
    Opens P t (Kd.slice e d) (fun l => l.length ≤ 140737488351232 ∧ ∀ (i : Nat) x, l[i]? = some x → Q x) := ⟨
  fun {H} enc w fuel held cs x hx hw => by
    rcases DataW.trod_slice ht hx with ⟨rfl, rfl⟩ | ⟨a, len, cap, elems, rest, n, _, rfl, rfl, hb, hl, hm, hlen, hel, _, _⟩
    · exact ⟨[], ⟨none, 0, rfl, Nat.le_refl _, Kd.C_nil d w⟩, by simp, fun i x h => by simp at h⟩
    · have hw1 : ∀ i, (hi : i < len) → ∀ m, m ∈ (elems[i]'(by omega)).1.weights P e → m ≤ 140737488351232 := fun i hi m hm => hw m (by
        simp only [DataW.weights, ht, List.mem_cons, List.mem_append]
        exact Or.inr (Or.inl (all_mem (List.mem_map.2 ⟨_, List.getElem_mem (by omega), rfl⟩) hm)))
      have hw0 := hw ((elems.map (·.1)).length * P.bytesOf e + (rest.map (·.1)).length * P.bytesOf e) (by
        simp only [DataW.weights, ht, List.mem_cons]
        exact Or.inl (Nat.add_mul _ _ _).symm)
      obtain ⟨l, h1, h2⟩ := list_of (fun i v => ∃ c, w.cells? 0 (a.add (i * P.cellsOf e)) (P.cellsOf e) = some c ∧ d.K w v c ∧ Q v) len (fun i hi => by
        have h := hel i hi
        rw [List.getElem?_eq_getElem (by omega)] at h
        obtain ⟨c, hc1, hc2⟩ := Option.bind_eq_some_iff.1 h
        obtain ⟨v, hv, hq⟩ := he.out enc w n held c _ hc2 (hw1 i hi)
        exact ⟨v, c, hc1, hv, hq⟩)
      refine ⟨l, ⟨some a, cap, by rw [h1], by omega, rfl, ?_, fun _ => ⟨a, rfl, fun j p hj => ?_⟩⟩, ?_, fun i x hx => ?_⟩
      · have : maxLen = 9223372036854775807 := rfl
        omega
      · obtain ⟨c, hc1, hk, _⟩ := h2 j p hj
        refine ⟨c, d.K_len hk, hk, fun i u hu => ?_⟩
        obtain ⟨_, hcl, hcc⟩ := World.cells?_some hc1
        have hi : i < P.cellsOf e := by
          have := (List.getElem?_eq_some_iff.1 hu).1
          omega
        have h3 := hcc i hi
        rw [hu, ← hc] at *
        rw [← h3]
        congr 1
        unfold Addr.add
        by_cases hj0 : j * P.cellsOf e = 0 <;> by_cases hi0 : i = 0 <;> simp [hj0, hi0, Nat.add_assoc]
      · rw [List.length_map] at hw0
        have := of_decide_eq_true hby
        have := Nat.le_mul_of_pos_right elems.length this
        rw [h1, ← hlen]
        omega
      · obtain ⟨_, _, _, hq⟩ := h2 i x hx
        exact hq⟩

structure OpensF {α : Type} (P : Program) (tl : List (TypeId × Nat)) (off : Nat) (d : Kd α) (Q : α → Prop) : Prop where mk ::
  out : ∀ {H : Type} (enc : TypeId × Value → H) (w : World) (fuel : Nat) (held : Bool) (cs : List Value) (xs : List (DataW H × List MemPlace)),
    cs.length = off + d.sz → xs.length = tl.length →
    (∀ (i : Nat) (f : TypeId × Nat), tl[i]? = some f → DataW.trod enc P w 0 (fun _ => true) held fuel f.1 ((cs.drop f.2).take (P.cellsOf f.1)) = xs[i]?) →
    (∀ n, n ∈ DataW.weightsEach P (tl.map (·.1)) (xs.map (·.1)) → n ≤ 140737488351232) → ∃ v, d.K w v (cs.drop off) ∧ Q v

theorem opensF_one {α : Type} {P : Program} (t : TypeId) (off : Nat) {d : Kd α} {Q : α → Prop} (h : Opens P t d Q) (hc : P.cellsOf t = d.sz) : OpensF P [(t, off)] off d Q := ⟨
  fun {H} enc w fuel held cs xs hl hx ht hw => by
    match xs, hx with
    | [x], _ =>
      have h0 := ht 0 (t, off) rfl
      rw [List.take_of_length_le (by rw [List.length_drop]; show _ ≤ P.cellsOf t; omega)] at h0
      exact h.out enc w fuel held _ _ h0 (fun n hn => hw n (by simpa [DataW.weightsEach] using hn))⟩

theorem opensF_cons {α β : Type} {P : Program} (t : TypeId) (off : Nat) {tl : List (TypeId × Nat)} {d1 : Kd α} {d2 : Kd β} {Q1 : α → Prop} {Q2 : β → Prop} (h : Opens P t d1 Q1) (hc : P.cellsOf t = d1.sz)
    (hr : OpensF P tl (off + d1.sz) d2 Q2) : OpensF P ((t, off) :: tl) off (Kd.pair d1 d2) (fun v => Q1 v.1 ∧ Q2 v.2) := ⟨
  fun {H} enc w fuel held cs xs hl hx ht hw => by
    match xs, hx with
    | x :: xr, hx =>
      have hl' : cs.length = off + (d1.sz + d2.sz) := hl
      have h0 : DataW.trod enc P w 0 (fun _ => true) held fuel t ((cs.drop off).take (P.cellsOf t)) = some x := ht 0 (t, off) rfl
      rw [hc] at h0
      obtain ⟨v1, hk1, hq1⟩ := h.out enc w fuel held _ _ h0 (fun n hn => hw n (by simp only [List.map_cons, DataW.weightsEach, List.mem_append]; exact Or.inl hn))
      obtain ⟨v2, hk2, hq2⟩ := hr.out enc w fuel held cs xr (by omega) (by simpa using hx) (fun i g hg => ht (i + 1) g hg) (fun n hn => hw n (by simp only [List.map_cons, DataW.weightsEach, List.mem_append]; exact Or.inr hn))
      refine ⟨(v1, v2), ⟨_, _, ?_, hk1, hk2⟩, hq1, hq2⟩
      rw [← List.drop_drop]
      exact (List.take_append_drop _ _).symm⟩

theorem opens_struct {α β : Type} {P : Program} {t : TypeId} {fs : Array Field} {tl : List (TypeId × Nat)} {d : Kd α} {Q : α → Prop} (ht : P.underlying t = some (.struct fs)) (htl : fs.toList.map (fun f => (f.type, f.offset)) = tl) (f : β → α) (g : α → β) (hfg : ∀ v, f (g v) = v) (hf : OpensF P tl 0 d Q) (hc : P.cellsOf t = d.sz) :
    Opens P t (Kd.iso d f) (fun b => Q (f b)) := ⟨
  fun {H} enc w fuel held cs x hx hw => by
    obtain ⟨xs, n, _, rfl, hl, hxl, h⟩ := DataW.trod_struct ht hx
    subst htl
    obtain ⟨v, hk, hq⟩ := hf.out enc w n held cs xs (by omega) (by simpa using hxl) (fun i f hi => by
      rw [List.getElem?_map] at hi
      obtain ⟨g, hg, rfl⟩ := Option.map_eq_some_iff.1 hi
      exact h i g (by simpa using hg)) (fun m hm => hw m (by simp only [DataW.weights, ht]; simpa [List.map_map, Function.comp_def] using hm))
    exact ⟨g v, by show d.K w (f (g v)) cs; rw [hfg]; exact hk, by show Q (f (g v)); rw [hfg]; exact hq⟩⟩

/-- An argument that is a slice. -/
theorem arg_slice {α : Type} {P : Program} {t e : TypeId} {d : Kd α} {Q : List α → Prop} (h : Opens P t (Kd.slice e d) Q) {H : Type} {enc : TypeId × Value → H} {w : World} {held : Bool} {a0 : Option Addr} {len cap : Nat} {x : DataW H} {ps : List MemPlace} {ts : List TypeId} {ds : List (DataW H)} {j : Nat}
    (hx : DataW.Trod enc P w 0 (fun _ => true) held t (.slice a0 len cap) x ps) (hw : (DataW.weightsEach P ts ds).all (· ≤ reachBytes) = true) (ht : ts[j]? = some t) (hd : ds[j]? = some x) :
    ∃ l : List α, len = l.length ∧ l.length ≤ cap ∧ d.C w a0 l.length l ∧ Q l := by
  obtain ⟨fuel, hf⟩ := hx
  obtain ⟨l, ⟨A, c, e1, hl, hC⟩, hq⟩ := h.out enc w fuel held _ _ hf (fun n hn => by
    have := List.all_eq_true.1 hw n (DataW.weights_mem_each ht hd n hn)
    exact (of_decide_eq_true this : n ≤ reachBytes))
  have e2 : Value.slice a0 len cap = .slice A l.length c := by simpa [Value.cells] using e1
  injection e2 with e3 e4 e5
  subst e3 e4 e5
  exact ⟨l, rfl, hl, hC, hq⟩
end Go.Proofs.Ytpjpjamaimahaaa.Opens
