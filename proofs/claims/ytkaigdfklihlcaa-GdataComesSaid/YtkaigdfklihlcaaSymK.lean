/- Other numbers for the same objects. -/
import Derived.Test.YtkaigdfklihlcaaSymJ
namespace Go.Proofs.Ytkaigdfklihlcaa.Sym
open Go
set_option linter.unusedVariables false
set_option linter.unusedSimpArgs false

/-- What the numbers in a value stood for they stand for under their new names. -/
def Map (ρ ρ' : List Loc) (g : Nat → Nat) (ks : List Nat) : Prop := ∀ k ∈ ks, ∀ l, ρ[k]? = some l → ρ'[g k]? = some l
theorem VR.ren0 {Im : Imm} {ρ ρ' : List Loc} {g : Nat → Nat} {a : AV} {x : Value} (ha : atom a = true) (h : VR Im ρ a x) (hm : Map ρ ρ' g (refs0 a)) : VR Im ρ' (Sym.ren0 g a) x := by
  cases h with
  | v h => exact .v h
  | dead => exact .dead
  | shr b o cap arr f hb hc hcl hat h1 h2 => exact .shr b o cap arr f hb hc hcl hat h1 h2
  | shr0 a => exact .shr0 a
  | iptr b o arr f hb hat h1 h2 => exact .iptr b o arr f hb hat h1 h2
  | ptr b o s hk => exact .ptr b o s (hm _ (by simp [refs0]) _ hk)
  | view b o s cap hk hc h1 h2 h3 => exact .view b o s cap (hm _ (by simp [refs0]) _ hk) hc h1 h2 h3
  | viewE b o s o' hk h1 h2 h3 => exact .viewE b o s o' (hm _ (by simp [refs0]) _ hk) h1 h2 h3
  | view0 hk h1 => exact .view0 (hm _ (by simp [refs0]) _ hk) h1
  | agg => simp [atom] at ha
  | tup => simp [atom] at ha
  | fn arr f hl h1 h2 =>
    simp only [atom, List.isEmpty_iff] at ha
    subst ha
    exact .fn arr f hl h1 (fun i a hi => by simp at hi)
theorem Map.mono {ρ ρ' : List Loc} {g : Nat → Nat} {ks ks' : List Nat} (h : Map ρ ρ' g ks) (hs : ∀ k ∈ ks', k ∈ ks) : Map ρ ρ' g ks' := fun k hk => h k (hs k hk)
theorem map_get {α : Type} {f : α → α} {cs : List α} {i : Nat} {a : α} (hi : (cs.map f)[i]? = some a) : ∃ c, cs[i]? = some c ∧ a = f c := by
  rw [List.getElem?_map, Option.map_eq_some_iff] at hi
  obtain ⟨c, hc, rfl⟩ := hi
  exact ⟨c, hc, rfl⟩
theorem VR.ren1 {Im : Imm} {ρ ρ' : List Loc} {g : Nat → Nat} {a : AV} {x : Value} (ha : ok1 a = true) (h : VR Im ρ a x) (hm : Map ρ ρ' g (refs1 a)) : VR Im ρ' (Sym.ren1 g a) x := by
  cases h with
  | agg arr f hl h1 h2 =>
    have hm' : Map ρ ρ' g (_) := hm
    simp only [refs1] at hm
    refine .agg arr f (by rw [List.length_map]; exact hl) (fun i a hi => ?_) (fun i a hi => ?_)
    · obtain ⟨c, hc, rfl⟩ := map_get hi
      exact h1 i c hc
    · obtain ⟨c, hc, rfl⟩ := map_get hi
      exact (h2 i c hc).ren0 (List.all_eq_true.1 ha _ (List.mem_of_getElem? hc)) (hm.mono fun k hk => List.mem_flatMap.2 ⟨c, List.mem_of_getElem? hc, hk⟩)
  | fn arr f hl h1 h2 =>
    simp only [refs1] at hm
    refine .fn arr f (by rw [List.length_map]; exact hl) (fun i a hi => ?_) (fun i a hi => ?_)
    · obtain ⟨c, hc, rfl⟩ := map_get hi
      exact h1 i c hc
    · obtain ⟨c, hc, rfl⟩ := map_get hi
      exact (h2 i c hc).ren0 (List.all_eq_true.1 ha _ (List.mem_of_getElem? hc)) (hm.mono fun k hk => List.mem_flatMap.2 ⟨c, List.mem_of_getElem? hc, hk⟩)
  | v h => exact .v h
  | dead => simp [ok1, atom] at ha
  | shr b o cap arr f hb hc hcl hat h1 h2 => exact .shr b o cap arr f hb hc hcl hat h1 h2
  | shr0 a => exact .shr0 a
  | iptr b o arr f hb hat h1 h2 => exact .iptr b o arr f hb hat h1 h2
  | ptr b o s hk => exact (VR.ptr b o s hk).ren0 rfl hm
  | view b o s cap hk hc h1 h2 h3 => exact (VR.view b o s cap hk hc h1 h2 h3).ren0 rfl hm
  | viewE b o s o' hk h1 h2 h3 => exact (VR.viewE b o s o' hk h1 h2 h3).ren0 rfl hm
  | view0 hk h1 => exact (VR.view0 hk h1).ren0 rfl hm
  | tup => simp [ok1, atom] at ha
theorem VR.ren {Im : Imm} {ρ ρ' : List Loc} {g : Nat → Nat} {a : AV} {x : Value} (ha : okv a = true) (h : VR Im ρ a x) (hm : Map ρ ρ' g (refs a)) : VR Im ρ' (Sym.ren g a) x := by
  by_cases ht : ∃ cs, a = .tup cs
  · obtain ⟨cs, rfl⟩ := ht
    cases h with
    | tup arr f hl h1 h2 =>
      simp only [refs] at hm
      refine .tup arr f (by rw [List.length_map]; exact hl) (fun i a hi => ?_) (fun i a hi => ?_)
      · obtain ⟨c, hc, rfl⟩ := map_get hi
        exact h1 i c hc
      · obtain ⟨c, hc, rfl⟩ := map_get hi
        exact (h2 i c hc).ren1 (List.all_eq_true.1 ha _ (List.mem_of_getElem? hc)) (hm.mono fun k hk => List.mem_flatMap.2 ⟨c, List.mem_of_getElem? hc, hk⟩)
  · have e1 : okv a = ok1 a := by cases a <;> first | rfl | exact absurd ⟨_, rfl⟩ ht
    have e2 : refs a = refs1 a := by cases a <;> first | rfl | exact absurd ⟨_, rfl⟩ ht
    have e3 : Sym.ren g a = Sym.ren1 g a := by cases a <;> first | rfl | exact absurd ⟨_, rfl⟩ ht
    rw [e1] at ha
    rw [e2] at hm
    rw [e3]
    exact h.ren1 ha hm
theorem atom_ren0 (g : Nat → Nat) (a : AV) : atom (ren0 g a) = atom a := by cases a <;> rfl
theorem flat_refs {a : AV} (h : flat0 a = true) : refs0 a = [] := by cases a <;> first | rfl | simp [flat0] at h
/-- An object's references. -/
def orefs (o : Obj) : List Nat := if o.live = true then (if o.flat = true then [] else o.cells.flatMap refs0) else []
theorem ObjAt.ren {Im : Imm} {ρ ρ' : List Loc} {w : World} {k k' : Nat} {o : Obj} (h : ObjAt Im ρ w k o) (hl : o.live = true) (hat : ∀ a ∈ o.cells, atom a = true) (hfl : o.flat = true → ∀ a ∈ o.cells, flat0 a = true) {g : Nat → Nat} (hm : Map ρ ρ' g (orefs o)) (hk : ∀ l, ρ[k]? = some l → ρ'[k']? = some l) : ObjAt Im ρ' w k' (renO g o) := by
  have hv : ∀ (i : Nat) (a : AV), (renO g o).cells[i]? = some a → ∃ c, o.cells[i]? = some c ∧ ∀ x, VR Im ρ c x → VR Im ρ' a x := fun i a hi => by
    unfold renO at hi
    simp only [hl, if_true] at hi
    split at hi
    · rename_i hf
      exact ⟨a, hi, fun x hx => hx.flat (hfl hf a (List.mem_of_getElem? hi))⟩
    · rename_i hf
      obtain ⟨c, hc, rfl⟩ := map_get hi
      refine ⟨c, hc, fun x hx => hx.ren0 (hat c (List.mem_of_getElem? hc)) (hm.mono fun j hj => ?_)⟩
      unfold orefs
      rw [if_pos hl, if_neg hf]
      exact List.mem_flatMap.2 ⟨c, List.mem_of_getElem? hc, hj⟩
  have hlen : (renO g o).cells.length = o.cells.length := by
    unfold renO
    simp only [hl, if_true]
    split <;> simp
  rcases h with ⟨b, base, s, arr, T, fz, e1, e2, e3, e4, e5, e6, e7, f, e8, e9⟩ | ⟨e1, e2⟩
  · refine .inl ⟨b, base, s, arr, T, fz, hk _ e1, e2, e3, e4, e5, by rw [hlen]; exact e6, e7, f, fun i a hi => ?_, fun i a hi => ?_⟩
    · obtain ⟨c, hc, _⟩ := hv i a hi
      exact e8 i c hc
    · obtain ⟨c, hc, hx⟩ := hv i a hi
      exact hx _ (e9 i c hc)
  · refine .inr ⟨hk _ e1, ?_⟩
    have := hlen
    rw [e2] at this
    exact List.length_eq_zero_iff.1 this
theorem renO_atoms {o : Obj} (hl : o.live = true) (hat : ∀ a ∈ o.cells, atom a = true) (g : Nat → Nat) : ∀ a ∈ (renO g o).cells, atom a = true := fun a ha => by
  unfold renO at ha
  simp only [hl, if_true] at ha
  split at ha
  · exact hat a ha
  · obtain ⟨c, hc, rfl⟩ := List.mem_map.1 ha
    rw [atom_ren0]
    exact hat c hc
theorem renO_flat {o : Obj} (hl : o.live = true) (hf : o.flat = true) (hfl : ∀ a ∈ o.cells, flat0 a = true) (g : Nat → Nat) : ∀ a ∈ (renO g o).cells, flat0 a = true := fun a ha => by
  unfold renO at ha
  simp only [hl, if_true, hf] at ha
  exact hfl a ha

/-! ### what can be reached -/
structure Closed (Ω : List Obj) (ord : List Nat) : Prop where
  nd : ord.Nodup
  there : ∀ k ∈ ord, ∃ o, Ω[k]? = some o ∧ ∀ j ∈ orefs o, j ∈ ord
theorem reach_ok (Ω : List Obj) : ∀ (f : Nat) (todo seen ord : List Nat), reach Ω f todo seen = some ord → seen.Nodup → (∃ r, ord = seen ++ r) ∧ ord.Nodup ∧ (∀ k ∈ todo, k ∈ ord) ∧ ∀ k ∈ ord, k ∉ seen → ∃ o, Ω[k]? = some o ∧ ∀ j ∈ orefs o, j ∈ ord
  | 0, todo, seen, ord, h, _ => by cases h
  | f + 1, [], seen, ord, h, hn => by
    cases h
    exact ⟨⟨[], by simp⟩, hn, fun k hk => by simp at hk, fun k hk hs => absurd hk hs⟩
  | f + 1, k :: ks, seen, ord, h, hn => by
    rw [reach] at h
    split at h
    · rename_i hc
      obtain ⟨⟨r, hr⟩, h2, h3, h4⟩ := reach_ok Ω f ks seen ord h hn
      refine ⟨⟨r, hr⟩, h2, fun j hj => ?_, h4⟩
      rcases List.mem_cons.1 hj with rfl | hj
      · rw [hr]
        exact List.mem_append_left _ (by simpa using hc)
      · exact h3 j hj
    · rename_i hc
      have hc' : k ∉ seen := by simpa using hc
      split at h
      · rename_i o ho
        obtain ⟨⟨r, hr⟩, h2, h3, h4⟩ := reach_ok Ω f _ _ ord h (by
          rw [List.nodup_append]
          exact ⟨hn, by simp, fun a ha b hb => by simp at hb; subst hb; exact fun e => hc' (e ▸ ha)⟩)
        have hk : k ∈ ord := by rw [hr]; simp
        refine ⟨⟨k :: r, by rw [hr]; simp⟩, h2, fun j hj => ?_, fun j hj hs => ?_⟩
        · rcases List.mem_cons.1 hj with rfl | hj
          · exact hk
          · exact h3 j (List.mem_append_left _ hj)
        · by_cases e : j = k
          · subst e
            exact ⟨o, ho, fun i hi => h3 i (List.mem_append_right _ hi)⟩
          · exact h4 j hj (fun hm => by
              rcases List.mem_append.1 hm with hm | hm
              · exact hs hm
              · simp at hm; exact e hm)
      · cases h
theorem reach_first (Ω : List Obj) : ∀ (f : Nat) (xs todo seen ord : List Nat), reach Ω f (xs ++ todo) seen = some ord → xs.Nodup → (∀ k ∈ xs, k ∉ seen) → ∃ r, ord = seen ++ xs ++ r
  | 0, xs, todo, seen, ord, h, _, _ => by cases h
  | f + 1, [], todo, seen, ord, h, _, _ => by
    cases todo with
    | nil => cases h; exact ⟨[], by simp⟩
    | cons k ks =>
      rw [List.nil_append, reach] at h
      split at h
      · obtain ⟨r, hr⟩ := reach_first Ω f [] ks seen ord h List.nodup_nil (fun k hk => by simp at hk)
        exact ⟨r, hr⟩
      · split at h
        · obtain ⟨r, hr⟩ := reach_first Ω f [] _ _ ord h List.nodup_nil (fun k hk => by simp at hk)
          exact ⟨k :: r, by rw [hr]; simp⟩
        · cases h
  | f + 1, x :: xs, todo, seen, ord, h, hn, hd => by
    rw [List.cons_append, reach] at h
    have hx : ¬ (seen.contains x = true) := by simpa using hd x (by simp)
    rw [if_neg hx] at h
    split at h
    · rename_i o ho
      rw [List.append_assoc] at h
      obtain ⟨r, hr⟩ := reach_first Ω f xs _ _ ord h (List.nodup_cons.1 hn).2 (fun k hk hm => by
        rcases List.mem_append.1 hm with hm | hm
        · exact hd k (by simp [hk]) hm
        · simp at hm
          subst hm
          exact (List.nodup_cons.1 hn).1 hk)
      exact ⟨r, by rw [hr]; simp⟩
    · cases h
theorem dedup_ok : ∀ (ks acc : List Nat), acc.Nodup → (dedup ks acc).Nodup ∧ (∃ r, dedup ks acc = acc ++ r) ∧ ∀ k ∈ ks, k ∈ dedup ks acc
  | [], acc, h => ⟨h, ⟨[], by simp [dedup]⟩, fun k hk => by simp at hk⟩
  | k :: ks, acc, h => by
    rw [dedup]
    split
    · rename_i hc
      obtain ⟨h1, ⟨r, hr⟩, h3⟩ := dedup_ok ks acc h
      refine ⟨h1, ⟨r, hr⟩, fun j hj => ?_⟩
      rcases List.mem_cons.1 hj with rfl | hj
      · rw [hr]
        exact List.mem_append_left _ (by simpa using hc)
      · exact h3 j hj
    · rename_i hc
      have hc' : k ∉ acc := by simpa using hc
      obtain ⟨h1, ⟨r, hr⟩, h3⟩ := dedup_ok ks (acc ++ [k]) (by
        rw [List.nodup_append]
        exact ⟨h, by simp, fun a ha b hb => by simp at hb; subst hb; exact fun e => hc' (e ▸ ha)⟩)
      refine ⟨h1, ⟨k :: r, by rw [hr]; simp⟩, fun j hj => ?_⟩
      rcases List.mem_cons.1 hj with rfl | hj
      · rw [hr]; simp
      · exact h3 j hj
/-- All that is reached from some. -/
theorem reach_all {Ω : List Obj} {f : Nat} {ks ord : List Nat} (h : reach Ω f (dedup ks []) [] = some ord) : Closed Ω ord ∧ (∀ k ∈ ks, k ∈ ord) ∧ ∃ r, ord = dedup ks [] ++ r := by
  obtain ⟨d1, _, d3⟩ := dedup_ok ks [] List.nodup_nil
  obtain ⟨_, h2, h3, h4⟩ := reach_ok Ω f _ [] ord h List.nodup_nil
  obtain ⟨r, hr⟩ := reach_first Ω f (dedup ks []) [] [] ord (by simpa using h) d1 (fun k _ hk => by simp at hk)
  exact ⟨⟨h2, fun k hk => h4 k hk (by simp)⟩, fun k hk => h3 k (d3 k hk), r, by simpa using hr⟩
theorem pos_get {ord : List Nat} {k : Nat} (h : k ∈ ord) : ord[pos ord k]? = some k := by
  unfold pos
  have hlt : ord.idxOf k < ord.length := List.idxOf_lt_length_of_mem h
  rw [List.getElem?_eq_getElem hlt, List.getElem_idxOf hlt]
theorem pos_at {ord : List Nat} (hn : ord.Nodup) {i k : Nat} (h : ord[i]? = some k) : pos ord k = i := by
  have h1 := pos_get (List.mem_of_getElem? h)
  have hi := (List.getElem?_eq_some_iff.1 h).1
  have hj := (List.getElem?_eq_some_iff.1 h1).1
  exact (List.getElem?_inj hj hn).1 (h1.trans h.symm)
/-- Their places. -/
def subρ (ρ : List Loc) (ord : List Nat) : List Loc := ord.map fun k => ρ.getD k none
theorem sub_get {Ω : List Obj} {ord : List Nat} {keep : Bool} {i : Nat} {o : Obj} (h : (sub Ω ord keep)[i]? = some o) : ∃ k, ord[i]? = some k ∧ o = { renO (pos ord) (Ω.getD k dead0) with fresh := (renO (pos ord) (Ω.getD k dead0)).fresh && keep } := by
  unfold sub at h
  rw [List.getElem?_map, Option.map_eq_some_iff] at h
  obtain ⟨k, hk, rfl⟩ := h
  exact ⟨k, hk, rfl⟩
theorem subρ_get {ρ : List Loc} {ord : List Nat} {i k : Nat} (h : ord[i]? = some k) {l : Loc} (hl : ρ[k]? = some l) : (subρ ρ ord)[i]? = some l := by
  unfold subρ
  rw [List.getElem?_map, h, Option.map_some, List.getD_eq_getElem?_getD, hl]
  rfl
theorem sub_map {Ω : List Obj} {ρ : List Loc} {ord : List Nat} (ks : List Nat) (h : ∀ k ∈ ks, k ∈ ord) : Map ρ (subρ ρ ord) (pos ord) ks := fun k hk l hl => subρ_get (pos_get (h k hk)) hl
theorem getD_of {Ω : List Obj} {k : Nat} {o : Obj} (h : Ω[k]? = some o) : Ω.getD k dead0 = o := by rw [List.getD_eq_getElem?_getD, h]; rfl
theorem sub_rel {Im : Imm} {ρ : List Loc} {Ω : List Obj} {w : World} (hR : Rel Im ρ Ω w) {ord : List Nat} (hc : Closed Ω ord) (keep : Bool) : Rel Im (subρ ρ ord) (sub Ω ord keep) w := by
  have pick : ∀ (i : Nat) o, (sub Ω ord keep)[i]? = some o → o.live = true → ∃ k o', ord[i]? = some k ∧ Ω[k]? = some o' ∧ o'.live = true ∧ (∀ j ∈ orefs o', j ∈ ord) ∧ o = { renO (pos ord) o' with fresh := o'.fresh && keep } := fun i o hi hl => by
    obtain ⟨k, hk, rfl⟩ := sub_get hi
    obtain ⟨o', ho, hr⟩ := hc.there k (List.mem_of_getElem? hk)
    rw [getD_of ho] at hl ⊢
    exact ⟨k, o', hk, ho, hl, hr, rfl⟩
  refine ⟨by simp [subρ, sub], hR.im, fun i o hi hl => ?_, fun i o hi hl => ?_, fun i o hi hl hf => ?_, fun i j o1 o2 b s1 s2 b' s1' s2' h1 h2 l1 l2 hne r1 r2 => ?_⟩
  · obtain ⟨k, o', hk, ho, hl', hr, rfl⟩ := pick i o hi hl
    have := (hR.obj k o' ho hl').ren (ρ' := subρ ρ ord) (k' := i) hl' (hR.atoms k o' ho hl') (hR.flat k o' ho hl') (sub_map (Ω := Ω) (orefs o') hr) (fun l hl => subρ_get hk hl)
    exact this
  · obtain ⟨k, o', hk, ho, hl', hr, rfl⟩ := pick i o hi hl
    exact renO_atoms hl' (hR.atoms k o' ho hl') _
  · obtain ⟨k, o', hk, ho, hl', hr, rfl⟩ := pick i o hi hl
    exact renO_flat hl' hf (hR.flat k o' ho hl' hf) _
  · obtain ⟨k1, o1', hk1, ho1, hl1, _, rfl⟩ := pick i o1 h1 l1
    obtain ⟨k2, o2', hk2, ho2, hl2, _, rfl⟩ := pick j o2 h2 l2
    have hne' : k1 ≠ k2 := fun e => hne (by rw [← pos_at hc.nd hk1, ← pos_at hc.nd hk2, e])
    have at_ : ∀ (k : Nat) (o' : Obj) (i : Nat) (l : Loc), Ω[k]? = some o' → ord[i]? = some k → (subρ ρ ord)[i]? = some l → ρ[k]? = some l := fun k o' i l ho hk hl => by
      have hkl := (List.getElem?_eq_some_iff.1 ho).1
      rw [← hR.len] at hkl
      have := subρ_get (ρ := ρ) hk (List.getElem?_eq_getElem hkl)
      rw [this] at hl
      rw [List.getElem?_eq_getElem hkl]
      exact hl
    exact hR.sep k1 k2 o1' o2' b s1 s2 b' s1' s2' ho1 ho2 hl1 hl2 hne' (at_ _ _ _ _ ho1 hk1 r1) (at_ _ _ _ _ ho2 hk2 r2)
theorem subρ_at {Im : Imm} {ρ : List Loc} {Ω : List Obj} {w : World} (hR : Rel Im ρ Ω w) {ord : List Nat} {k i : Nat} {o : Obj} {l : Loc} (ho : Ω[k]? = some o) (hk : ord[i]? = some k) (hl : (subρ ρ ord)[i]? = some l) : ρ[k]? = some l := by
  have hkl := (List.getElem?_eq_some_iff.1 ho).1
  rw [← hR.len] at hkl
  have := subρ_get (ρ := ρ) hk (List.getElem?_eq_getElem hkl)
  rw [this] at hl
  rw [List.getElem?_eq_getElem hkl]
  exact hl
/-- Blocks of the picked ones. -/
theorem LBd.of_sub {Im : Imm} {ρ : List Loc} {Ω : List Obj} {w : World} (hR : Rel Im ρ Ω w) {ord : List Nat} (hc : Closed Ω ord) {keep d : Bool} {b : Nat} (h : LBd (subρ ρ ord) (sub Ω ord keep) d b) : ∃ (k : Nat) (o : Obj) (s1 s2 : Nat), k ∈ ord ∧ Ω[k]? = some o ∧ o.live = true ∧ (d = true ∨ (o.fresh = true ∧ keep = true)) ∧ ρ[k]? = some (some (b, s1, s2)) := by
  obtain ⟨i, o, s1, s2, h1, h2, h3, h4⟩ := h
  obtain ⟨k, hk, rfl⟩ := sub_get h1
  obtain ⟨o', ho, _⟩ := hc.there k (List.mem_of_getElem? hk)
  rw [getD_of ho] at h2 h3
  exact ⟨k, o', s1, s2, List.mem_of_getElem? hk, ho, h2, h3.imp id (fun h => by simpa [renO] using h), subρ_at hR ho hk h4⟩
end Go.Proofs.Ytkaigdfklihlcaa.Sym
