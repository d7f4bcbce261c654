/- How memory changes: a new block, a block written. -/
import Derived.Test.YtkaigdfklihlcaaSymF
namespace Go.Proofs.Ytkaigdfklihlcaa.Sym
open Go
set_option linter.unusedVariables false
set_option linter.unusedSimpArgs false

/-- Blocks of live objects; of the call's own alone where d is false. -/
def LBd (ρ : List Loc) (Ω : List Obj) (d : Bool) (b : Nat) : Prop := ∃ (k : Nat) (o : Obj) (s1 s2 : Nat), Ω[k]? = some o ∧ o.live = true ∧ (d = true ∨ o.fresh = true) ∧ ρ[k]? = some (some (b, s1, s2))
theorem LBd.up {ρ : List Loc} {Ω : List Obj} {d d' : Bool} {b : Nat} (h : LBd ρ Ω d b) (hd : d = true → d' = true) : LBd ρ Ω d' b := by
  obtain ⟨k, o, s1, s2, h1, h2, h3, h4⟩ := h
  exact ⟨k, o, s1, s2, h1, h2, h3.imp hd id, h4⟩

structure Step (Im : Imm) (ρ : List Loc) (Ω : List Obj) (w : World) (Im' : Imm) (ρ' : List Loc) (Ω' : List Obj) (w' : World) (d : Bool) : Prop where
  rel : Rel Im' ρ' Ω' w'
  fr : Fr w w' (LBd ρ Ω d)
  rho : RhoLe ρ ρ'
  im : ImLe Im Im'
  new : ∀ (d' : Bool) b, LBd ρ' Ω' d' b → LBd ρ Ω d' b ∨ w.heap.size ≤ b
theorem Step.refl {Im : Imm} {ρ : List Loc} {Ω : List Obj} {w : World} (h : Rel Im ρ Ω w) (d : Bool) : Step Im ρ Ω w Im ρ Ω w d := ⟨h, Fr.refl _ _, RhoLe.refl _, ImLe.refl _, fun _ _ h => .inl h⟩
theorem Step.trans {Im Im1 Im2 : Imm} {ρ ρ1 ρ2 : List Loc} {Ω Ω1 Ω2 : List Obj} {w w1 w2 : World} {d d' : Bool} (h : Step Im ρ Ω w Im1 ρ1 Ω1 w1 d) (h' : Step Im1 ρ1 Ω1 w1 Im2 ρ2 Ω2 w2 d') : Step Im ρ Ω w Im2 ρ2 Ω2 w2 (d || d') := by
  refine ⟨h'.rel, ?_, h.rho.trans h'.rho, h.im.trans h'.im, fun d'' b hb => ?_⟩
  · refine Fr.trans (h.fr.imp fun b hb => hb.up (fun e => by simp [e])) (h'.fr.imp fun b hb => ?_) (S' := LBd ρ1 Ω1 d') (fun b hb => ?_)
    · exact hb
    · rcases h.new d' b hb with h | h
      · exact .inl (h.up (fun e => by simp [e]))
      · exact .inr h
  · rcases h'.new d'' b hb with hb | hb
    · exact h.new d'' b hb
    · exact .inr (Nat.le_trans h.fr.size hb)
theorem Step.up {Im Im1 : Imm} {ρ ρ1 : List Loc} {Ω Ω1 : List Obj} {w w1 : World} {d d' : Bool} (h : Step Im ρ Ω w Im1 ρ1 Ω1 w1 d) (hd : d = true → d' = true) : Step Im ρ Ω w Im1 ρ1 Ω1 w1 d' := ⟨h.rel, h.fr.imp fun b hb => hb.up hd, h.rho, h.im, h.new⟩

theorem heap_lt {w : World} {b : Nat} {x : Go.Obj} (h : w.heap[b]? = some x) : b < w.heap.size := (Array.getElem?_eq_some_iff.1 h).1
/-- Worlds with the same heap, or such as have but grown. -/
theorem ObjAt.mono {Im Im' : Imm} {ρ ρ' : List Loc} {w w' : World} {k : Nat} {o : Obj} (h : ObjAt Im ρ w k o) (hI : ImLe Im Im') (hρ : RhoLe ρ ρ') (hw : ∀ b base s, ρ[k]? = some (some (b, base, s)) → w'.heap[b]? = w.heap[b]?) (hi : ∀ b base s, ρ[k]? = some (some (b, base, s)) → Im b = none → Im' b = none) : ObjAt Im' ρ' w' k o := by
  rcases h with ⟨b, base, s, arr, T, fz, e1, e2, e3, e4, e5, e6, e7, f, e8, e9⟩ | ⟨e1, e2⟩
  · exact .inl ⟨b, base, s, arr, T, fz, hρ _ _ e1, by rw [hw _ _ _ e1]; exact e2, e3, e4, e5, e6, hi _ _ _ e1 e7, f, e8, fun i a hia => (e9 i a hia).mono hI _ hρ⟩
  · exact .inr ⟨hρ _ _ e1, e2⟩
theorem Rel.block_lt {Im : Imm} {ρ : List Loc} {Ω : List Obj} {w : World} (h : Rel Im ρ Ω w) {k : Nat} {o : Obj} (hk : Ω[k]? = some o) (hl : o.live = true) {b base s : Nat} (hr : ρ[k]? = some (some (b, base, s))) : b < w.heap.size ∧ Im b = none := by
  rcases h.obj k o hk hl with ⟨b', base', s', arr, T, fz, e1, e2, e3, e4, e5, e6, e7, f, e8, e9⟩ | ⟨e1, e2⟩
  · rw [hr] at e1
    cases e1
    exact ⟨heap_lt e2, e7⟩
  · rw [hr] at e1
    cases e1
theorem Rel.im_lt {Im : Imm} {ρ : List Loc} {Ω : List Obj} {w : World} (h : Rel Im ρ Ω w) {b : Nat} {arr : Array Value} (hb : Im b = some arr) : b < w.heap.size := by
  obtain ⟨T, fz, e⟩ := h.im b arr hb
  exact heap_lt e
theorem SameK.of {Im : Imm} {ρ : List Loc} {Ω : List Obj} {w w' : World} (h : Rel Im ρ Ω w) (hs : Same w w') : SameK Im ρ Ω w w' := fun b hb => by
  rcases hb with ⟨arr, hb⟩ | ⟨k, o, s1, s2, h1, h2, h3⟩
  · exact hs b (h.im_lt hb)
  · exact hs b (h.block_lt h1 h2 h3).1
theorem Rel.sameK {Im : Imm} {ρ : List Loc} {Ω : List Obj} {w w' : World} (h : Rel Im ρ Ω w) (hs : SameK Im ρ Ω w w') : Rel Im ρ Ω w' where
  len := h.len
  im b arr hb := by
    obtain ⟨T, fz, e⟩ := h.im b arr hb
    exact ⟨T, fz, by rw [hs b (.inl ⟨_, hb⟩)]; exact e⟩
  obj k o hk hl := (h.obj k o hk hl).mono (ImLe.refl _) (RhoLe.refl _) (fun b base s hr => hs b (.inr ⟨k, o, base, s, hk, hl, hr⟩)) (fun _ _ _ _ hn => hn)
  atoms := h.atoms
  flat := h.flat
  sep := h.sep
/-- The same memory, other counts. -/
theorem Rel.same {Im : Imm} {ρ : List Loc} {Ω : List Obj} {w w' : World} (h : Rel Im ρ Ω w) (hs : ∀ b, b < w.heap.size → w'.heap[b]? = w.heap[b]?) : Rel Im ρ Ω w' where
  len := h.len
  im b arr hb := by
    obtain ⟨T, fz, e⟩ := h.im b arr hb
    exact ⟨T, fz, by rw [hs b (heap_lt e)]; exact e⟩
  obj k o hk hl := (h.obj k o hk hl).mono (ImLe.refl _) (RhoLe.refl _) (fun b base s hr => hs b (h.block_lt hk hl hr).1) (fun _ _ _ _ hn => hn)
  atoms := h.atoms
  flat := h.flat
  sep := h.sep
theorem Rel.killed {Im : Imm} {ρ : List Loc} {Ω : List Obj} {w : World} (h : Rel Im ρ Ω w) (k : Nat) (o : Obj) : Rel Im ρ (kill Ω k o) w := by
  have get : ∀ (i : Nat) o', (kill Ω k o)[i]? = some o' → o'.live = true → Ω[i]? = some o' := fun i o' hi hl => by
    unfold Sym.kill at hi
    rw [List.getElem?_set] at hi
    split at hi
    · split at hi
      · cases hi; simp at hl
      · cases hi
    · exact hi
  exact ⟨by unfold Sym.kill; rw [List.length_set]; exact h.len, h.im, fun i o' hi hl => h.obj i o' (get i o' hi hl) hl, fun i o' hi hl => h.atoms i o' (get i o' hi hl) hl, fun i o' hi hl => h.flat i o' (get i o' hi hl) hl,
    fun i j o1 o2 b s1 s2 b' s1' s2' h1 h2 l1 l2 => h.sep i j o1 o2 b s1 s2 b' s1' s2' (get i o1 h1 l1) (get j o2 h2 l2) l1 l2⟩
theorem kill_get {Ω : List Obj} {k : Nat} {o : Obj} {i : Nat} {o' : Obj} (hi : (kill Ω k o)[i]? = some o') (hl : o'.live = true) : Ω[i]? = some o' ∧ i ≠ k := by
  unfold Sym.kill at hi
  rw [List.getElem?_set] at hi
  split at hi
  · split at hi
    · cases hi; simp at hl
    · cases hi
  · rename_i hne
    exact ⟨hi, fun e => hne e.symm⟩

/-- One object more, on a block that no live object has. -/
theorem Rel.push {Im : Imm} {ρ : List Loc} {Ω : List Obj} {w : World} (h : Rel Im ρ Ω w) {b base : Nat} {arr : Array Value} {T : TypeId} {fz : Nat × Nat} (hb : w.heap[b]? = some (.cells arr T fz)) (hf1 : fz.2 ≤ fz.1 + 1) (hf2 : fz.1 < fz.2 → arr.size ≤ fz.1) (him : Im b = none) (hno : ∀ (k : Nat) o s1 s2, Ω[k]? = some o → o.live = true → ρ[k]? ≠ some (some (b, s1, s2)))
    {fresh fl : Bool} {xs : List AV} (hx : ∀ a ∈ xs, atom a = true) (hfl : fl = true → ∀ a ∈ xs, flat0 a = true) (hs : base + xs.length ≤ arr.size) (hc : ∀ (i : Nat) a, xs[i]? = some a → ∃ v, arr[base + i]? = some v ∧ VR Im ρ a v) : Rel Im (ρ ++ [some (b, base, arr.size)]) (Ω ++ [⟨true, fresh, fl, xs⟩]) w := by
  have old : ∀ (k : Nat) o, (Ω ++ [⟨true, fresh, fl, xs⟩])[k]? = some o → (Ω[k]? = some o ∧ k < Ω.length) ∨ (k = Ω.length ∧ o = ⟨true, fresh, fl, xs⟩) := fun k o hk => by
    rw [List.getElem?_append] at hk
    split at hk
    · rename_i hlt
      exact .inl ⟨hk, hlt⟩
    · rename_i hge
      have := (List.getElem?_eq_some_iff.1 hk).1
      simp at this
      have e : k - Ω.length = 0 := by omega
      rw [e] at hk
      exact .inr ⟨by omega, by simpa using hk.symm⟩
  have newρ : (ρ ++ [some (b, base, arr.size)])[Ω.length]? = some (some (b, base, arr.size)) := by rw [← h.len, List.getElem?_append_right (Nat.le_refl _)]; simp
  have oldρ : ∀ (k : Nat), k < Ω.length → (ρ ++ [some (b, base, arr.size)])[k]? = ρ[k]? := fun k hk => List.getElem?_append_left (by rw [h.len]; exact hk)
  refine ⟨by simp [h.len], h.im, fun k o hk hl => ?_, fun k o hk hl => ?_, fun k o hk hl hfo => ?_, fun k k' o o' c s1 s2 c' s1' s2' hk hk' hl hl' hne hr hr' => ?_⟩
  · rcases old k o hk with ⟨hk, hlt⟩ | ⟨rfl, rfl⟩
    · exact (h.obj k o hk hl).mono (ImLe.refl _) (RhoLe.snoc _ _) (fun _ _ _ _ => rfl) (fun _ _ _ _ hn => hn)
    · refine .inl ⟨b, base, arr.size, arr, T, fz, newρ, hb, hf1, hf2, rfl, hs, him, fun i => arr.getD (base + i) undef, fun i a hi => ?_, fun i a hi => ?_⟩
      · obtain ⟨v, e1, e2⟩ := hc i a hi
        simp [Array.getD_eq_getD_getElem?, e1]
      · obtain ⟨v, e1, e2⟩ := hc i a hi
        have := e2.mono (ImLe.refl _) _ (RhoLe.snoc ρ (some (b, base, arr.size)))
        simpa [Array.getD_eq_getD_getElem?, e1] using this
  · rcases old k o hk with ⟨hk, _⟩ | ⟨rfl, rfl⟩
    · exact h.atoms k o hk hl
    · exact hx
  · rcases old k o hk with ⟨hk, _⟩ | ⟨rfl, rfl⟩
    · exact h.flat k o hk hl hfo
    · exact hfl hfo
  · rcases old k o hk with ⟨hk, hlt⟩ | ⟨rfl, rfl⟩
    · rw [oldρ k hlt] at hr
      rcases old k' o' hk' with ⟨hk', hlt'⟩ | ⟨rfl, rfl⟩
      · rw [oldρ k' hlt'] at hr'
        exact h.sep k k' o o' c s1 s2 c' s1' s2' hk hk' hl hl' hne hr hr'
      · rw [newρ] at hr'
        cases hr'
        exact fun e => hno k o s1 s2 hk hl (e ▸ hr)
    · rw [newρ] at hr
      cases hr
      rcases old k' o' hk' with ⟨hk', hlt'⟩ | ⟨rfl, rfl⟩
      · rw [oldρ k' hlt'] at hr'
        exact fun e => hno k' o' s1' s2' hk' hl' (e ▸ hr')
      · exact absurd rfl hne
theorem alloc_get (w : World) (o : Go.Obj) (b : Nat) : (w.alloc o).heap[b]? = if b = w.heap.size then some o else w.heap[b]? := by
  show (w.heap.push o)[b]? = _
  rw [Array.getElem?_push]
theorem LBd.push {ρ : List Loc} {Ω : List Obj} (hlen : ρ.length = Ω.length) {l : Loc} {o : Obj} {d : Bool} {b : Nat} (h : LBd (ρ ++ [l]) (Ω ++ [o]) d b) : LBd ρ Ω d b ∨ (∃ s1 s2, l = some (b, s1, s2) ∧ (d = true ∨ o.fresh = true)) := by
  obtain ⟨k, o', s1, s2, h1, h2, h3, h4⟩ := h
  rw [List.getElem?_append] at h1 h4
  split at h1
  · rename_i hlt
    rw [if_pos (by omega)] at h4
    exact .inl ⟨k, o', s1, s2, h1, h2, h3, h4⟩
  · rename_i hge
    rw [if_neg (by omega)] at h4
    have := (List.getElem?_eq_some_iff.1 h1).1
    simp at this
    have e : k - Ω.length = 0 := by omega
    rw [e] at h1
    rw [hlen, e] at h4
    simp at h1 h4
    subst h1
    exact .inr ⟨s1, s2, h4, h3⟩
/-- A new block. -/
theorem alloc_step {Im : Imm} {ρ : List Loc} {Ω : List Obj} {w w1 : World} (h : Rel Im ρ Ω w) (hw : w1.heap = w.heap) (hos : w1.os = w.os) (htp : w1.tape = w.tape) (hout : w1.output = w.output) {arr : Array Value} {T : TypeId} {fz : Nat × Nat} (hf1 : fz.2 ≤ fz.1 + 1) (hf2 : fz.1 < fz.2 → arr.size ≤ fz.1)
    {xs : List AV} (hx : ∀ a ∈ xs, atom a = true) (hs : xs.length ≤ arr.size) (hc : ∀ (i : Nat) a, xs[i]? = some a → ∃ v, arr[i]? = some v ∧ VR Im ρ a v) : Step Im ρ Ω w Im (ρ ++ [some (w.heap.size, 0, arr.size)]) (newO Ω xs) (w1.alloc (.cells arr T fz)) false := by
  have hsz : w1.heap.size = w.heap.size := by rw [hw]
  have hsame : ∀ b, b < w.heap.size → (w1.alloc (.cells arr T fz)).heap[b]? = w.heap[b]? := fun b hb => by rw [alloc_get, if_neg (by omega), hw]
  have h1 : Rel Im ρ Ω (w1.alloc (.cells arr T fz)) := h.same hsame
  refine ⟨h1.push (T := T) (fz := fz) (by rw [alloc_get, if_pos hsz.symm]) hf1 hf2 ?_ ?_ hx (fun hfl => by simpa using hfl) (by simpa using hs) (by simpa using hc), ⟨hos, htp, hout, ?_, fun b hb _ => hsame b hb⟩, RhoLe.snoc _ _, ImLe.refl _, fun d' b hb => ?_⟩
  · cases hi : Im w.heap.size with
    | none => rfl
    | some a => have := h.im_lt hi; omega
  · intro k o s1 s2 hk hl hr
    have := (h.block_lt hk hl hr).1
    omega
  · rw [World.size_alloc]
    omega
  · rcases LBd.push h.len hb with hb | ⟨s1, s2, hb, _⟩
    · exact .inl hb
    · cases hb
      exact .inr (Nat.le_refl _)

/-! ### a block written -/
def World.setB (w : World) (b : Nat) (x : Go.Obj) : World := { w with heap := w.heap.setIfInBounds b x }
theorem setB_get {w : World} {b : Nat} {x : Go.Obj} (hb : b < w.heap.size) (c : Nat) : (World.setB w b x).heap[c]? = if c = b then some x else w.heap[c]? := by
  show (w.heap.setIfInBounds b x)[c]? = _
  rw [Array.getElem?_setIfInBounds]
  by_cases h : b = c
  · subst h; simp [hb]
  · rw [if_neg h, if_neg (fun e => h e.symm)]
theorem setCell_setB {w : World} {b i : Nat} {arr : Array Value} {T : TypeId} {fz : Nat × Nat} (h : w.heap[b]? = some (.cells arr T fz)) (v : Value) : w.setCell ⟨b, i, none⟩ v = World.setB w b (.cells (arr.setIfInBounds i v) T fz) := by
  unfold World.setCell World.setB
  congr 1
  apply Array.ext_getElem?
  intro j
  rw [Array.getElem?_modify, Array.getElem?_setIfInBounds]
  by_cases hj : b = j
  · subst hj
    rw [if_pos rfl, if_pos rfl, h, if_pos (heap_lt h)]
    simp
  · rw [if_neg hj, if_neg hj]
theorem frozen_off {w : World} {b i : Nat} {arr : Array Value} {T : TypeId} {fz : Nat × Nat} (h : w.heap[b]? = some (.cells arr T fz)) (hf : fz.1 < fz.2 → arr.size ≤ fz.1) (hi : i < arr.size) : w.frozen? ⟨b, i, none⟩ = false := by
  simp only [World.frozen?, h]
  cases hd : decide (fz.1 ≤ i ∧ i < fz.2) with
  | false => simpa using hd
  | true =>
    simp only [decide_eq_true_eq] at hd
    have := hf (by omega)
    omega
theorem setB_setB (w : World) (b : Nat) (x y : Go.Obj) : World.setB (World.setB w b x) b y = World.setB w b y := by
  unfold World.setB
  simp
theorem run_storeCells_setB {P : Program} (b o : Nat) (T : TypeId) (fz : Nat × Nat) : ∀ (vs : List Value) (i : Nat) (arr : Array Value) (w : World), w.heap[b]? = some (.cells arr T fz) → (fz.1 < fz.2 → arr.size ≤ fz.1) → o + i + vs.length ≤ arr.size → (∀ v ∈ vs, v.oneCell' = true) →
    (storeCells ⟨b, o, none⟩ vs i).run P w = .ok () (World.setB w b (.cells ((vs.zipIdx i).foldl (fun (a : Array Value) (p : Value × Nat) => a.setIfInBounds (o + p.2) p.1) arr) T fz))
  | [], i, arr, w, hb, hf, hle, hv => by
    have : World.setB w b (.cells arr T fz) = w := by
      unfold World.setB
      have : w.heap.setIfInBounds b (.cells arr T fz) = w.heap := by
        apply Array.ext_getElem?
        intro j
        rw [Array.getElem?_setIfInBounds]
        by_cases hj : b = j
        · subst hj; rw [if_pos rfl, if_pos (heap_lt hb), hb]
        · rw [if_neg hj]
      rw [this]
    simp [storeCells, this]
  | v :: vs, i, arr, w, hb, hf, hle, hv => by
    rw [List.length_cons] at hle
    have hc : w.cell? ⟨b, o + i, none⟩ = some arr[o + i] := by rw [cell_of hb, Array.getElem?_eq_getElem (by omega)]
    have h1 : (store (Addr.add ⟨b, o, none⟩ i) v).run P w = .ok () (w.setCell ⟨b, o + i, none⟩ v) := by
      rw [add_at, run_store P w _ v _ (hv v (by simp)), hc, frozen_off hb hf (by omega)]
      rfl
    rw [setCell_setB hb] at h1
    have ih := run_storeCells_setB (P := P) b o T fz vs (i + 1) (arr.setIfInBounds (o + i) v) (World.setB w b (.cells (arr.setIfInBounds (o + i) v) T fz)) (by rw [setB_get (heap_lt hb), if_pos rfl]) (by simpa using hf) (by simp; omega) (fun u hu => hv u (by simp [hu]))
    simp only [storeCells, Sem.run_bind, h1, Result.andThen_ok, ih, setB_setB, List.zipIdx_cons, List.foldl_cons]
theorem run_storeCells_put {P : Program} {b o : Nat} {T : TypeId} {fz : Nat × Nat} {vs : Array Value} {arr : Array Value} {w : World} (hb : w.heap[b]? = some (.cells arr T fz)) (hf : fz.1 < fz.2 → arr.size ≤ fz.1) (hle : o + vs.size ≤ arr.size) (hv : ∀ v ∈ vs.toList, v.oneCell' = true) :
    (storeCells ⟨b, o, none⟩ vs.toList).run P w = .ok () (World.setB w b (.cells (putA arr o vs) T fz)) := by
  rw [putA_eq]
  exact run_storeCells_setB b o T fz vs.toList 0 arr w hb hf (by simpa using hle) hv
/-- An object written. -/
theorem write_step {Im : Imm} {ρ : List Loc} {Ω : List Obj} {w : World} (h : Rel Im ρ Ω w) {k : Nat} {o : Obj} (hk : Ω[k]? = some o) (hl : o.live = true) {b base s off : Nat} (hr : ρ[k]? = some (some (b, base, s))) {arr : Array Value} {T : TypeId} {fz : Nat × Nat} (hb : w.heap[b]? = some (.cells arr T fz)) {cs : List AV} {vs : Array Value} (hcv : CV Im ρ cs vs) (hat : cs.all atom = true) (hle : off + cs.length ≤ o.cells.length) :
    Step Im ρ Ω w Im ρ (Ω.set k { o with flat := o.flat && cs.all flat0, cells := putL o.cells off cs }) (World.setB w b (.cells (putA arr (base + off) vs) T fz)) (!o.fresh) := by
  rcases h.obj k o hk hl with ⟨b', base', s', arr', T', fz', e1, e2, e3, e4, e5, e6, e7, f, e8, e9⟩ | ⟨e1, e2⟩
  case inr => rw [hr] at e1; cases e1
  rw [hr] at e1
  cases e1
  rw [hb] at e2
  cases e2
  have hbl := heap_lt hb
  have hkl := (List.getElem?_eq_some_iff.1 hk).1
  have get : ∀ (i : Nat) o', (Ω.set k { o with flat := o.flat && cs.all flat0, cells := putL o.cells off cs })[i]? = some o' → (i = k ∧ o' = { o with flat := o.flat && cs.all flat0, cells := putL o.cells off cs }) ∨ (i ≠ k ∧ Ω[i]? = some o') := fun i o' hi => by
    rw [List.getElem?_set] at hi
    split at hi
    · rename_i e
      cases hi
      exact .inl ⟨e.symm, rfl⟩
    · rename_i e
      exact .inr ⟨fun e' => e e'.symm, hi⟩
  have hl1 := hcv.1
  have hsz : (putA arr (base + off) vs).size = arr.size := putA_size _ _ _
  refine ⟨⟨by rw [List.length_set]; exact h.len, fun c a hc => ?_, fun i o' hi hlo => ?_, fun i o' hi hlo => ?_, fun i o' hi hlo hfo => ?_, fun i j o1 o2 c s1 s2 c' s1' s2' h1 h2 l1 l2 hne r1 r2 => ?_⟩, ⟨rfl, rfl, rfl, ?_, fun c hc hn => ?_⟩, RhoLe.refl _, ImLe.refl _, fun d' c hc => .inl ?_⟩
  · obtain ⟨T2, fz2, e⟩ := h.im c a hc
    refine ⟨T2, fz2, ?_⟩
    rw [setB_get hbl, if_neg]
    · exact e
    · rintro rfl
      rw [e7] at hc
      cases hc
  · rcases get i o' hi with ⟨rfl, rfl⟩ | ⟨hne, hi⟩
    · have hcv0 : CV Im ρ o.cells (arr.extract base (base + o.cells.length)) := CV.mk (by simp; omega) fun j a hj => ⟨f j, by rw [Array.getElem?_extract, if_pos (by have := (List.getElem?_eq_some_iff.1 hj).1; omega)]; exact e8 j a hj, e9 j a hj⟩
      have key : ∀ (j : Nat) a, (putL o.cells off cs)[j]? = some a → ∃ v, (putA arr (base + off) vs)[base + j]? = some v ∧ VR Im ρ a v := fun j a hj => by
        rw [putL_get _ _ _ _ hle] at hj
        rw [putA_get _ _ _ _ (by omega), ← hl1]
        split at hj
        · rename_i hc
          rw [if_pos (by omega), show base + j - (base + off) = j - off by omega]
          exact hcv.at hj
        · rename_i hc
          rw [if_neg (by omega)]
          exact ⟨f j, e8 j a hj, e9 j a hj⟩
      refine .inl ⟨b, base, arr.size, _, T, fz, by rw [e5]; exact hr, by rw [setB_get hbl, if_pos rfl], e3, by rw [e5]; exact e4, hsz, by rw [putL_length]; omega, e7, fun j => (putA arr (base + off) vs).getD (base + j) undef, fun j a hj => ?_, fun j a hj => ?_⟩
      · obtain ⟨v, q1, q2⟩ := key j a hj
        simp [Array.getD_eq_getD_getElem?, q1]
      · obtain ⟨v, q1, q2⟩ := key j a hj
        simpa [Array.getD_eq_getD_getElem?, q1] using q2
    · refine (h.obj i o' hi hlo).mono (ImLe.refl _) (RhoLe.refl _) (fun c s1 s2 hc => ?_) (fun _ _ _ _ hn => hn)
      rw [setB_get hbl, if_neg]
      exact h.sep i k o' o c s1 s2 b base s hi hk hlo hl hne hc hr
  · rcases get i o' hi with ⟨rfl, rfl⟩ | ⟨hne, hi⟩
    · intro a ha
      obtain ⟨j, hj⟩ := List.mem_iff_getElem?.1 ha
      rw [putL_get _ _ _ _ hle] at hj
      split at hj
      · exact List.all_eq_true.1 hat _ (List.mem_of_getElem? hj)
      · exact h.atoms _ o hk hl _ (List.mem_of_getElem? hj)
    · exact h.atoms i o' hi hlo
  · rcases get i o' hi with ⟨rfl, rfl⟩ | ⟨hne, hi⟩
    · intro a ha
      simp only [Bool.and_eq_true] at hfo
      obtain ⟨j, hj⟩ := List.mem_iff_getElem?.1 ha
      rw [putL_get _ _ _ _ hle] at hj
      split at hj
      · exact List.all_eq_true.1 hfo.2 _ (List.mem_of_getElem? hj)
      · exact h.flat _ o hk hl hfo.1 _ (List.mem_of_getElem? hj)
    · exact h.flat i o' hi hlo hfo
  · have real : ∀ (i : Nat) o', (Ω.set k { o with flat := o.flat && cs.all flat0, cells := putL o.cells off cs })[i]? = some o' → o'.live = true → ∃ o'', Ω[i]? = some o'' ∧ o''.live = true := fun i o' hi hlo => by
      rcases get i o' hi with ⟨rfl, rfl⟩ | ⟨_, hi⟩
      · exact ⟨o, hk, hl⟩
      · exact ⟨o', hi, hlo⟩
    obtain ⟨p1, p2, p3⟩ := real i o1 h1 l1
    obtain ⟨q1, q2, q3⟩ := real j o2 h2 l2
    exact h.sep i j p1 q1 c s1 s2 c' s1' s2' p2 q2 p3 q3 hne r1 r2
  · unfold World.setB
    simp
  · rw [setB_get hbl, if_neg]
    rintro rfl
    refine hn ⟨k, o, base, s, hk, hl, ?_, hr⟩
    cases o.fresh <;> simp
  · obtain ⟨i, o', s1, s2, h1, h2, h3, h4⟩ := hc
    rcases get i o' h1 with ⟨rfl, rfl⟩ | ⟨_, h1⟩
    · exact ⟨i, o, s1, s2, hk, hl, h3, h4⟩
    · exact ⟨i, o', s1, s2, h1, h2, h3, h4⟩
end Go.Proofs.Ytkaigdfklihlcaa.Sym
