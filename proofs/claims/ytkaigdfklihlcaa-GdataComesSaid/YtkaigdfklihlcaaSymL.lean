/- A call, told with its own objects alone. -/
import Derived.Test.YtkaigdfklihlcaaSymK
namespace Go.Proofs.Ytkaigdfklihlcaa.Sym
open Go
set_option linter.unusedVariables false
set_option linter.unusedSimpArgs false

/-- What a call leaves. -/
structure Back (n : Nat) (Im : Imm) (ρ : List Loc) (Ω : List Obj) (w : World) (r : Res) (Im' : Imm) (ρ' : List Loc) (x : Value) (w' : World) : Prop where
  val : VR Im' ρ' r.val x
  rel : Rel Im' ρ' r.ob w'
  im : ImLe Im Im'
  imn : ∀ b, Im b = none → b < w.heap.size → Im' b = none
  roots : ∀ i, i < n → ρ'[i]? = ρ[i]?
  fr : Fr w w' (fun b => r.d = 2 ∧ LBd ρ Ω true b)
  still : r.d = 0 → w' = w
  lvl : r.d ≤ 2
  new : ∀ b, LBd ρ' r.ob true b → LBd ρ Ω true b ∨ w.heap.size ≤ b
  fresh : ∀ b, LBd ρ' r.ob false b → w.heap.size ≤ b
def CallsOK (P : Program) (C : CT) : Prop := ∀ f n args Ω r, C f n args Ω = some r → ∀ (Im : Imm) (ρ : List Loc) (w : World) (vals : List Value), Rel Im ρ Ω w → (∀ o ∈ Ω, o.fresh = false) → n ≤ Ω.length → VRs Im ρ args vals →
  (∃ fn, P.funcs[f]? = some fn ∧ (fn.name == "runtime.NumGoroutine") = false ∧ fn.body.isNone = false) ∧ Calls P f vals.toArray w fun e w' => ∃ x Im' ρ', e = .returned x ∧ Back n Im ρ Ω w r Im' ρ' x w'

theorem mergeOld_get (Ω : List Obj) (ord : List Nat) (n : Nat) (ob : List Obj) : ∀ (os : List Obj) (k i : Nat), (mergeOld Ω ord n ob k os)[i]? = (os[i]?).map fun o => if ord.contains (k + i) = true then (if pos ord (k + i) < n then mergeO Ω ord n (ob.getD (pos ord (k + i)) dead0) else dead0) else o
  | [], k, i => by simp [mergeOld]
  | o :: os, k, 0 => by simp [mergeOld]
  | o :: os, k, i + 1 => by
    rw [mergeOld, List.getElem?_cons_succ, mergeOld_get Ω ord n ob os (k + 1) i, List.getElem?_cons_succ, show k + 1 + i = k + (i + 1) by omega]
theorem mergeOld_length (Ω : List Obj) (ord : List Nat) (n : Nat) (ob : List Obj) : ∀ (os : List Obj) (k : Nat), (mergeOld Ω ord n ob k os).length = os.length
  | [], k => rfl
  | o :: os, k => by rw [mergeOld, List.length_cons, mergeOld_length Ω ord n ob os, List.length_cons]
theorem allFresh_at {Ω : List Obj} {ord : List Nat} (h : allFresh Ω ord = true) {k : Nat} {o : Obj} (hk : k ∈ ord) (ho : Ω[k]? = some o) (hl : o.live = true) : o.fresh = true := by
  have := List.all_eq_true.1 h k hk
  rw [getD_of ho] at this
  simpa [hl] using this

section
variable {Im Im' : Imm} {ρ ρ' : List Loc} {Ω : List Obj} {w w' : World} {ord : List Nat} {n : Nat} {r : Res} {x : Value}
/-- A call that leaves what was there as it was: the objects are as they were. -/
theorem Back.quiet (hR : Rel Im ρ Ω w) (hb : Back n Im (subρ ρ ord) (sub Ω ord false) w r Im' ρ' x w') (hd : r.d ≤ 1) : Step Im ρ Ω w Im' ρ Ω w' false ∧ Fr w w' (fun _ => False) := by
  have hf : Fr w w' (fun _ => False) := hb.fr.imp fun b h => by omega
  refine ⟨⟨⟨hR.len, fun b arr hi => hb.rel.im b arr hi, fun k o hk hl => (hR.obj k o hk hl).mono hb.im (RhoLe.refl _) (fun b base s hr => hf.block b (hR.block_lt hk hl hr).1 (fun h => h)) (fun b base s hr hn => hb.imn b hn (hR.block_lt hk hl hr).1), hR.atoms, hR.flat, hR.sep⟩, hf.imp fun _ h => h.elim, RhoLe.refl _, hb.im, fun _ _ h => .inl h⟩, hf⟩
theorem roots_map (hR : Rel Im ρ Ω w) (hc : Closed Ω ord) (hb : Back n Im (subρ ρ ord) (sub Ω ord false) w r Im' ρ' x w') (hn : n ≤ ord.length) {j : Nat} (hj : j < n) {l : Loc} (hl : ρ'[j]? = some l) : ρ[ord.getD j 0]? = some l := by
  rw [hb.roots j hj] at hl
  have hk : ord[j]? = some (ord.getD j 0) := by rw [List.getD_eq_getElem?_getD, List.getElem?_eq_getElem (by omega)]; rfl
  obtain ⟨o, ho, _⟩ := hc.there _ (List.mem_of_getElem? hk)
  exact subρ_at hR ho hk hl
theorem gmap_map (hR : Rel Im ρ Ω w) (hc : Closed Ω ord) (hb : Back n Im (subρ ρ ord) (sub Ω ord false) w r Im' ρ' x w') (hn : n ≤ ord.length) (ks : List Nat) : Map ρ' (ρ ++ ρ'.drop n) (gmap ord n Ω.length) ks := fun j _ l hl => by
  unfold gmap
  split
  · rename_i hj
    have := roots_map hR hc hb hn hj hl
    rw [List.getElem?_append_left (List.getElem?_eq_some_iff.1 this).1]
    exact this
  · rename_i hj
    rw [List.getElem?_append_right (by rw [hR.len]; omega), hR.len, List.getElem?_drop, show n + (Ω.length + (j - n) - Ω.length) = j by omega]
    exact hl
theorem finish_ok (hR : Rel Im ρ Ω w) (hc : Closed Ω ord) (hn : n ≤ ord.length) (hb : Back n Im (subρ ρ ord) (sub Ω ord false) w r Im' ρ' x w') {a : AV} {Ω2 : List Obj} {d : Nat} (h : finishCall Ω ord n r = some (a, Ω2, d)) :
    ∃ ρ2, VR Im' ρ2 a x ∧ Step Im ρ Ω w Im' ρ2 Ω2 w' (decide (d = 2)) ∧ (d = 0 → w' = w) ∧ d ≤ 2 := by
  unfold finishCall at h
  split at h
  case isFalse => cases h
  rename_i hok
  split at h
  · rename_i hq
    cases h
    obtain ⟨hs, hf⟩ := hb.quiet hR hq.1
    have hm : Map ρ' ρ (gmap ord n Ω.length) (refs r.val) := fun j hj l hl => by
      have hlt : j < n := by simpa using List.all_eq_true.1 hq.2 j hj
      unfold gmap
      rw [if_pos hlt]
      exact roots_map hR hc hb hn hlt hl
    exact ⟨ρ, hb.val.ren hok hm, hs.up (fun e => by cases e), hb.still, hb.lvl⟩
  · cases h
    have hmap := gmap_map hR hc hb hn
    refine ⟨ρ ++ ρ'.drop n, hb.val.ren hok (hmap _), ?_, fun e => ?_, ?_⟩
    case refine_2 => split at e <;> omega
    case refine_3 => split <;> omega
    have hρ : RhoLe ρ (ρ ++ ρ'.drop n) := fun k l hl => by rw [List.getElem?_append_left (List.getElem?_eq_some_iff.1 hl).1]; exact hl
    -- where each live object comes from
    have src : ∀ (k : Nat) o2, (mergeOld Ω ord n r.ob 0 Ω ++ mergeNew Ω ord n r.ob)[k]? = some o2 → o2.live = true →
        (k ∉ ord ∧ Ω[k]? = some o2) ∨ ∃ i o', r.ob[i]? = some o' ∧ o'.live = true ∧ o2 = mergeO Ω ord n o' ∧ (∀ l, (ρ ++ ρ'.drop n)[k]? = some l ↔ ρ'[i]? = some l) ∧ k = gmap ord n Ω.length i := fun k o2 hk hl => by
      rw [List.getElem?_append, mergeOld_length] at hk
      split at hk
      · rename_i hlt
        rw [mergeOld_get, Nat.zero_add, Option.map_eq_some_iff] at hk
        obtain ⟨o, ho, hk⟩ := hk
        split at hk
        · rename_i hmem
          have hmem' : k ∈ ord := by simpa using hmem
          split at hk
          · rename_i hpos
            subst hk
            have hob : ∃ o', r.ob[pos ord k]? = some o' := by
              cases hg : r.ob[pos ord k]? with
              | some o' => exact ⟨o', rfl⟩
              | none =>
                rw [List.getD_eq_getElem?_getD, hg] at hl
                simp [mergeO, renO, dead0] at hl
            obtain ⟨o', ho'⟩ := hob
            rw [getD_of ho'] at hl ⊢
            have hpk := pos_get hmem'
            refine .inr ⟨pos ord k, o', ho', hl, rfl, fun l => ?_, by unfold gmap; rw [if_pos hpos, List.getD_eq_getElem?_getD, hpk]; rfl⟩
            rw [hb.roots _ hpos, List.getElem?_append_left (by rw [hR.len]; exact hlt)]
            exact ⟨fun hl => subρ_get hpk hl, fun hl => subρ_at hR ho hpk hl⟩
          · subst hk
            simp [dead0] at hl
        · rename_i hmem
          subst hk
          exact .inl ⟨by simpa using hmem, ho⟩
      · rename_i hge
        unfold mergeNew at hk
        obtain ⟨o', ho', rfl⟩ := map_get hk
        rw [List.getElem?_drop] at ho'
        refine .inr ⟨_, o', ho', hl, rfl, fun l => ?_, by unfold gmap; rw [if_neg (by omega)]; omega⟩
        rw [List.getElem?_append_right (by rw [hR.len]; omega), hR.len, List.getElem?_drop]
    have outside : ∀ (k : Nat) o b s1 s2, k ∉ ord → Ω[k]? = some o → o.live = true → ρ[k]? = some (some (b, s1, s2)) → ¬ LBd (subρ ρ ord) (sub Ω ord false) true b := fun k o b s1 s2 hk ho hl hr hin => by
      obtain ⟨k', o', t1, t2, hk', ho', hl', _, hr'⟩ := LBd.of_sub hR hc hin
      exact hR.sep k k' o o' b s1 s2 b t1 t2 ho ho' hl hl' (fun e => hk (e ▸ hk')) hr hr' rfl
    have insideBlock : ∀ (i : Nat) o' b s1 s2, r.ob[i]? = some o' → o'.live = true → ρ'[i]? = some (some (b, s1, s2)) → LBd (subρ ρ ord) (sub Ω ord false) true b ∨ w.heap.size ≤ b := fun i o' b s1 s2 ho hl hr => hb.new b ⟨i, o', s1, s2, ho, hl, .inl rfl, hr⟩
    refine ⟨⟨?_, hb.rel.im, fun k o2 hk hl => ?_, fun k o2 hk hl => ?_, fun k o2 hk hl hf => ?_, fun k1 k2 o1 o2 b s1 s2 b' s1' s2' h1 h2 l1 l2 hne r1 r2 => ?_⟩, ?_, hρ, hb.im, fun d' b hbl => ?_⟩
    · have e1 := hb.rel.len
      have e2 : n ≤ ρ'.length := by
        rcases Nat.lt_or_ge ρ'.length n with hlt | hge
        · exfalso
          have h0 := hb.roots ρ'.length hlt
          rw [List.getElem?_eq_none (Nat.le_refl _)] at h0
          have : (subρ ρ ord).length = ord.length := by simp [subρ]
          rw [List.getElem?_eq_getElem (by omega)] at h0
          cases h0
        · exact hge
      rw [List.length_append, List.length_append, mergeOld_length, hR.len, List.length_drop, mergeNew, List.length_map, List.length_drop, e1]
    · rcases src k o2 hk hl with ⟨hko, ho⟩ | ⟨i, o', ho', hl', rfl, hloc, _⟩
      · refine (hR.obj k o2 ho hl).mono hb.im hρ (fun b base s hr => ?_) (fun b base s hr hn => hb.imn b hn (hR.block_lt ho hl hr).1)
        exact hb.fr.block b (hR.block_lt ho hl hr).1 (fun hin => outside k o2 b base s hko ho hl hr hin.2)
      · exact (hb.rel.obj i o' ho' hl').ren (g := gmap ord n Ω.length) hl' (hb.rel.atoms i o' ho' hl') (hb.rel.flat i o' ho' hl') (hmap _) (fun l hl => (hloc l).2 hl)
    · rcases src k o2 hk hl with ⟨hko, ho⟩ | ⟨i, o', ho', hl', rfl, hloc, _⟩
      · exact hR.atoms k o2 ho hl
      · exact renO_atoms hl' (hb.rel.atoms i o' ho' hl') _
    · rcases src k o2 hk hl with ⟨hko, ho⟩ | ⟨i, o', ho', hl', rfl, hloc, _⟩
      · exact hR.flat k o2 ho hl hf
      · exact renO_flat hl' hf (hb.rel.flat i o' ho' hl' hf) _
    · have old : ∀ (k : Nat) o l, k ∉ ord → Ω[k]? = some o → (ρ ++ ρ'.drop n)[k]? = some l → ρ[k]? = some l := fun k o l _ ho hl => by
        have := (List.getElem?_eq_some_iff.1 ho).1
        rwa [List.getElem?_append_left (by rw [hR.len]; exact this)] at hl
      rcases src k1 o1 h1 l1 with ⟨hk1, ho1⟩ | ⟨i1, o1', ho1, hl1, rfl, hloc1, e1⟩
      · have r1' := old _ _ _ hk1 ho1 r1
        rcases src k2 o2 h2 l2 with ⟨hk2, ho2⟩ | ⟨i2, o2', ho2, hl2, rfl, hloc2, e2⟩
        · exact hR.sep k1 k2 o1 o2 b s1 s2 b' s1' s2' ho1 ho2 l1 l2 hne r1' (old _ _ _ hk2 ho2 r2)
        · rintro rfl
          rcases insideBlock i2 o2' b s1' s2' ho2 hl2 ((hloc2 _).1 r2) with hin | hin
          · exact outside k1 o1 b s1 s2 hk1 ho1 l1 r1' hin
          · have := (hR.block_lt ho1 l1 r1').1
            omega
      · rcases src k2 o2 h2 l2 with ⟨hk2, ho2⟩ | ⟨i2, o2', ho2, hl2, rfl, hloc2, e2⟩
        · have r2' := old _ _ _ hk2 ho2 r2
          rintro rfl
          rcases insideBlock i1 o1' b s1 s2 ho1 hl1 ((hloc1 _).1 r1) with hin | hin
          · exact outside k2 o2 b s1' s2' hk2 ho2 l2 r2' hin
          · have := (hR.block_lt ho2 l2 r2').1
            omega
        · by_cases hi : i1 = i2
          · exfalso
            exact hne (by rw [e1, e2, hi])
          · exact hb.rel.sep i1 i2 o1' o2' b s1 s2 b' s1' s2' ho1 ho2 hl1 hl2 hi ((hloc1 _).1 r1) ((hloc2 _).1 r2)
    · refine hb.fr.imp fun b hin => ?_
      obtain ⟨k, o, t1, t2, hk, ho, hl, _, hr⟩ := LBd.of_sub hR hc hin.2
      by_cases hall : allFresh Ω ord = true
      · exact ⟨k, o, t1, t2, ho, hl, .inr (allFresh_at hall hk ho hl), hr⟩
      · refine ⟨k, o, t1, t2, ho, hl, .inl ?_, hr⟩
        rw [if_pos ⟨hin.1, by simpa using hall⟩]
        rfl
    · obtain ⟨k, o2, s1, s2, hk, hl, hf, hr⟩ := hbl
      rcases src k o2 hk hl with ⟨hko, ho⟩ | ⟨i, o', ho', hl', rfl, hloc, _⟩
      · have hlt := (List.getElem?_eq_some_iff.1 ho).1
        rw [List.getElem?_append_left (by rw [hR.len]; exact hlt)] at hr
        exact .inl ⟨k, o2, s1, s2, ho, hl, hf, hr⟩
      · have hr' := (hloc _).1 hr
        rcases insideBlock i o' b s1 s2 ho' hl' hr' with hin | hin
        · obtain ⟨k', o'', t1, t2, hk', ho'', hl'', _, hr''⟩ := LBd.of_sub hR hc hin
          rcases hf with hf | hf
          · exact .inl ⟨k', o'', t1, t2, ho'', hl'', .inl hf, hr''⟩
          · have hf' : o'.fresh = true ∨ allFresh Ω ord = true := by
              simp only [mergeO, Bool.or_eq_true] at hf
              exact hf
            rcases hf' with hf' | hf'
            · exact .inr (hb.fresh b ⟨i, o', s1, s2, ho', hl', .inr hf', hr'⟩)
            · exact .inl ⟨k', o'', t1, t2, ho'', hl'', .inr (allFresh_at hf' hk' ho'' hl''), hr''⟩
        · exact .inr hin
end
end Go.Proofs.Ytkaigdfklihlcaa.Sym
