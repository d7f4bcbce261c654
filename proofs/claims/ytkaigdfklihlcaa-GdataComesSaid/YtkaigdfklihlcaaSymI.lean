/- append and copy; all operations that make or change memory. -/
import Derived.Test.YtkaigdfklihlcaaSymH
namespace Go.Proofs.Ytkaigdfklihlcaa.Sym
open Go
set_option linter.unusedVariables false
set_option linter.unusedSimpArgs false

theorem lies_range {Im : Imm} {ρ : List Loc} {xs : List AV} {w : World} {b o : Nat} {f : Nat → Value} (hL : Lies w b o f xs) (hV : ∀ (i : Nat) a, xs[i]? = some a → VR Im ρ a (f i)) {P : Program} (off k : Nat) (hk : off + k ≤ xs.length) :
    CV Im ρ ((xs.drop off).take k) ((List.range k).map fun j => f (off + j)).toArray ∧ ∀ w', Same w w' → (loadCells ⟨b, o + off, none⟩ k).run P w' = .ok ((List.range k).map fun j => f (off + j)).toArray w' := by
  refine ⟨CV.mk (by first | (simp; done) | (simp; omega)) fun j a hj => ?_, fun w' hs => ?_⟩
  · have hj2 := (List.getElem?_eq_some_iff.1 hj).1
    rw [List.length_take, Nat.lt_min] at hj2
    rw [List.getElem?_take_of_lt hj2.1, List.getElem?_drop] at hj
    refine ⟨f (off + j), ?_, hV _ _ hj⟩
    rw [List.getElem?_toArray, List.getElem?_map, List.getElem?_range hj2.1]
    rfl
  · refine run_loadCells w' _ k (fun j => f (off + j)) fun j hj => ?_
    rw [add_at, Nat.add_assoc]
    exact (hL.same (hs b hL.lt)).cell (by omega)

theorem strCells_length (s : ByteArray) : (strCells s).length = s.size := by simp [strCells]
/-- The source of an append, or of a copy. -/
theorem elemsS_ok {P : Program} {Im : Imm} {ρ : List Loc} {Ω : List Obj} {w : World} (hR : Rel Im ρ Ω w) {esz m : Nat} {a : AV} {ys : List AV} (h : elemsS Ω esz a = some (m, ys)) {u : Value} (hu : VR Im ρ a u) :
    (∀ w', (Builtin.lenOf u).run P w' = .ok m w') ∧ ∃ news : Nat → Array Value, ∀ n, n ≤ m → CV Im ρ (ys.take (n * esz)) (news n) ∧ ∀ w', Same w w' → (Builtin.firstCells esz n u).run P w' = .ok (news n) w' := by
  have lenS : ∀ (b : Option Addr) (n c : Nat) w', (Builtin.lenOf (.slice b n c)).run P w' = .ok n w' := fun b n c w' => rfl
  have fromLies : ∀ {xs : List AV} {b o off n cap : Nat} {f : Nat → Value} {ρ' : List Loc}, Lies w b o f xs → (∀ (i : Nat) a, xs[i]? = some a → VR Im ρ' a (f i)) → RhoLe ρ' ρ → off + n * esz ≤ xs.length → ys = (xs.drop off).take (n * esz) → m = n →
      ∃ news : Nat → Array Value, ∀ j, j ≤ m → CV Im ρ (ys.take (j * esz)) (news j) ∧ ∀ w', Same w w' → (Builtin.firstCells esz j (.slice (some ⟨b, o + off, none⟩) n cap)).run P w' = .ok (news j) w' := fun {xs b o off n cap f ρ'} hL hV hρ hle hys hm => by
    subst hys hm
    refine ⟨fun j => ((List.range (j * esz)).map fun i => f (off + i)).toArray, fun j hj => ?_⟩
    have hmul : j * esz ≤ m * esz := Nat.mul_le_mul_right _ hj
    obtain ⟨h1, h2⟩ := lies_range (P := P) hL (fun i a hi => (hV i a hi).mono (ImLe.refl _) ρ hρ) off (j * esz) (by omega)
    refine ⟨?_, fun w' hs => h2 w' hs⟩
    rw [List.take_take, Nat.min_eq_left hmul]
    exact h1
  have empty : ∀ (b : Option Addr) (c : Nat), m = 0 → ys = [] → ∃ news : Nat → Array Value, ∀ j, j ≤ m → CV Im ρ (ys.take (j * esz)) (news j) ∧ ∀ w', Same w w' → (Builtin.firstCells esz j (.slice b 0 c)).run P w' = .ok (news j) w' := fun b c hm hys => by
    subst hm hys
    refine ⟨fun _ => #[], fun j hj => ?_⟩
    obtain rfl : j = 0 := by omega
    refine ⟨by rw [List.take_nil]; exact CV.mk rfl (fun i a hi => by simp at hi), fun w' hs => ?_⟩
    cases b with
    | none => simp [Builtin.firstCells]
    | some a => simp [Builtin.firstCells, loadCells, loadCellsFrom]
  have base : elems Ω esz a = some (m, ys) → (∀ w', (Builtin.lenOf u).run P w' = .ok m w') ∧ ∃ news : Nat → Array Value, ∀ n, n ≤ m → CV Im ρ (ys.take (n * esz)) (news n) ∧ ∀ w', Same w w' → (Builtin.firstCells esz n u).run P w' = .ok (news n) w' := fun h => by
    unfold elems at h
    split at h
    · cases h
      cases hu
      exact ⟨lenS _ _ _, empty _ _ rfl rfl⟩
    · rename_i n cl xs
      split at h
      · rename_i hl
        cases h
        cases hu with
        | shr b o cap arr f hb hc hcl ha h1 h2 =>
          obtain ⟨T, fz, hw⟩ := hR.im _ _ hb
          refine ⟨lenS _ _ _, fromLies (off := 0) (ρ' := []) (f := f) ⟨arr, T, fz, hw, h1⟩ h2 (fun k x hk => by simp at hk) (by omega) ?_ rfl⟩
          rw [List.drop_zero, ← hl, List.take_length]
        | shr0 => exact ⟨lenS _ _ _, empty _ _ rfl rfl⟩
      · cases h
    · rename_i k off n sz c
      split at h
      · rename_i hsz
        subst hsz
        simp only [Option.bind_eq_some_iff] at h
        obtain ⟨ob, hob, h⟩ := h
        split at h
        · rename_i hle
          cases h
          cases hu with
          | view b o s cap hk hc h1 h2 h3 =>
            obtain ⟨f, hL, hV⟩ := hR.lies hob hk
            exact ⟨lenS _ _ _, fromLies hL hV (RhoLe.refl _) hle rfl rfl⟩
          | viewE b o s o' hk h1 h2 h3 => exact ⟨lenS _ _ _, empty _ _ rfl (by simp)⟩
          | view0 hk h1 => exact ⟨lenS _ _ _, empty _ _ rfl (by simp)⟩
        · cases h
      · cases h
    · cases h
  unfold elemsS at h
  split at h
  · rename_i s
    split at h
    · rename_i he
      subst he
      cases h
      cases hu
      refine ⟨fun w' => rfl, fun n => (s.extract 0 n).data.map fun b => .int .u8 b.toNat, fun n hn => ⟨CV.mk ?_ fun i a hi => ?_, fun w' hs => rfl⟩⟩
      · rw [List.length_take, strCells_length, Array.size_map]
        have : (s.extract 0 n).data.size = (s.extract 0 n).size := rfl
        rw [this, ByteArray.size_extract]
        omega
      · have hj2 := (List.getElem?_eq_some_iff.1 hi).1
        rw [List.length_take, Nat.lt_min] at hj2
        rw [List.getElem?_take_of_lt hj2.1] at hi
        simp only [strCells, List.getElem?_map, Option.map_eq_some_iff] at hi
        obtain ⟨b, hb, rfl⟩ := hi
        refine ⟨_, ?_, .v rfl⟩
        rw [Array.getElem?_toList] at hb
        rw [Array.getElem?_map]
        have : (s.extract 0 n).data[i]? = some b := by
          rw [ByteArray.data_extract, Array.getElem?_extract, if_pos (by
            have q := hj2.2
            rw [strCells_length] at q
            have : s.data.size = s.size := rfl
            have := hj2.1
            omega), Nat.zero_add]
          exact hb
        rw [this]
        rfl
    · cases h
  · exact base h

theorem firstTwo {ts : Array TypeId} {t t' : TypeId} {r : List TypeId} (h : ts.toList = t :: t' :: r) : ts[0]? = some t ∧ ts[1]? = some t' := by
  rw [← Array.getElem?_toList, ← Array.getElem?_toList, h]
  exact ⟨rfl, rfl⟩
theorem isSrc_not {u : TypeDesc} (h : isSrc u = true) : (match u with | .int _ => true | _ => false) = false := by cases u <;> first | rfl | simp [isSrc] at h
theorem run_app_fit {P : Program} {ts : Array TypeId} {t t' ty e : TypeId} {r : List TypeId} (hts : ts.toList = t :: t' :: r) {i : TypeInfo} (ht : P.underlying t = some (.slice e)) (hi : P.info? e = some i) {u : TypeDesc} (hu : P.underlying t' = some u) (hsrc : isSrc u = true) {base : Option Addr} {sLen sCap m : Nat} {y : Value} {w : World} {new : Array Value}
    (hlen : (Builtin.lenOf y).run P w = .ok m w) (hfit : sLen + m ≤ sCap) (hfirst : (Builtin.firstCells i.size m y).run P w = .ok new w) :
    (Builtin.append_ ts ty #[.slice base sLen sCap, y]).run P w = match base with
      | none => .ok (.slice none (sLen + m) sCap) w
      | some a => ((storeCells (a.add (sLen * i.size)) new.toList).run P w).andThen fun _ w' => .ok (.slice (some a) (sLen + m) sCap) w' := by
  obtain ⟨h0, h1⟩ := firstTwo hts
  have hz := isSrc_not hsrc
  cases base <;> (cases u <;> first | (simp [isSrc] at hsrc; done) | simp [Builtin.append_, h0, h1, run_underlying ht, run_underlying hu, sizeOf, typeInfo, hi, hlen, hfit, hfirst])
theorem run_app_grow {P : Program} {ts : Array TypeId} {t t' ty e : TypeId} {r : List TypeId} (hts : ts.toList = t :: t' :: r) {i : TypeInfo} {z : Value} (ht : P.underlying t = some (.slice e)) (hi : P.info? e = some i) (hz : i.zero = some z) {u : TypeDesc} (hu : P.underlying t' = some u) (hsrc : isSrc u = true) {base : Option Addr} {sLen sCap m : Nat} {y : Value} {w : World} {old new : Array Value}
    (hlen : (Builtin.lenOf y).run P w = .ok m w) (hg : sCap < sLen + m) (hsmall : (sLen + m) * i.bytes ≤ 140737488355328) (h63 : ((sLen + m : Nat) : Int) ≤ 9223372036854775807) (hold : (Builtin.firstCells i.size sLen (.slice base sLen sCap)).run P w.drew = .ok old w.drew) (hfirst : (Builtin.firstCells i.size m y).run P w.drew = .ok new w.drew) :
    (Builtin.append_ ts ty #[.slice base sLen sCap, y]).run P w = .ok (.slice (some ⟨w.heap.size, 0, none⟩) (sLen + m) (grownCap w (sLen + m) sCap e)) (w.drew.alloc (.cells (old ++ new ++ Builtin.zeroCells z.cells (grownCap w (sLen + m) sCap e - (sLen + m))) e)) := by
  obtain ⟨h0, h1⟩ := firstTwo hts
  have hfit := growslice_fits hg hsmall
  have hn : ¬ (sLen + m ≤ sCap) := by omega
  have h63' : ¬ (9223372036854775807 < ((sLen : Int) + (m : Int))) := by omega
  have h48' : ¬ (281474976710656 < Builtin.nextslicecap (sLen + m) sCap * i.bytes) := by omega
  cases u <;> first | (simp [isSrc] at hsrc; done) | simp [Builtin.append_, h0, h1, run_underlying ht, run_underlying hu, sizeOf, typeInfo, zeroValue, hi, hz, hlen, hn, h63', h48', Question.forced, hold, hfirst, newRow, grownCap]

theorem CV.nil {Im : Imm} {ρ : List Loc} {arr : Array Value} (h : CV Im ρ [] arr) : arr = #[] := by
  have := h.1
  exact Array.eq_empty_of_size_eq_zero (by simpa using this.symm)
theorem CV.up {Im : Imm} {ρ ρ' : List Loc} {xs : List AV} {arr : Array Value} (h : CV Im ρ xs arr) (hρ : RhoLe ρ ρ') : CV Im ρ' xs arr := ⟨h.1, h.2.choose, h.2.choose_spec.1, fun i a hi => (h.2.choose_spec.2 i a hi).mono (ImLe.refl _) _ hρ⟩
theorem take_all {xs : List AV} {n : Nat} (h : xs.length = n) : xs.take n = xs := by rw [← h, List.take_length]
theorem elemsS_length {Ω : List Obj} {esz m : Nat} {a : AV} {ys : List AV} (h : elemsS Ω esz a = some (m, ys)) : ys.length = m * esz := by
  have base : ∀ a, elems Ω esz a = some (m, ys) → ys.length = m * esz := fun a h => by
    unfold elems at h
    split at h
    · cases h; simp
    · split at h
      · cases h; assumption
      · cases h
    · split at h
      · simp only [Option.bind_eq_some_iff] at h
        obtain ⟨ob, hob, h⟩ := h
        split at h
        · cases h
          rw [List.length_take, List.length_drop]
          omega
        · cases h
      · cases h
    · cases h
  unfold elemsS at h
  split at h
  · split at h
    · rename_i he
      cases h
      rw [strCells_length, he, Nat.mul_one]
    · cases h
  · exact base _ h
theorem Step.demote {Im : Imm} {ρ ρ' : List Loc} {Ω : List Obj} {w w' : World} {xs : List AV} (h : Step Im ρ Ω w Im ρ' (newO Ω xs) w' false) {d : Bool} (k : Nat) (ob : Obj) (fr fl : Bool) (hfl : fl = true → ∀ a ∈ xs, flat0 a = true) : Step Im ρ Ω w Im ρ' (kill Ω k ob ++ [⟨true, fr, fl, xs⟩]) w' d := by
  have hlen : (kill Ω k ob).length = Ω.length := by unfold Sym.kill; rw [List.length_set]
  have get : ∀ (i : Nat) o', (kill Ω k ob ++ [⟨true, fr, fl, xs⟩])[i]? = some o' → o'.live = true → ((newO Ω xs)[i]? = some o' ∧ i < Ω.length) ∨ (o' = ⟨true, fr, fl, xs⟩ ∧ i = Ω.length ∧ (newO Ω xs)[i]? = some ⟨true, true, xs.all flat0, xs⟩) := fun i o' hi hl => by
    rw [List.getElem?_append] at hi
    unfold newO
    rw [List.getElem?_append]
    split at hi
    · rename_i hlt
      rw [hlen] at hlt
      rw [if_pos hlt]
      exact .inl ⟨(kill_get hi hl).1, hlt⟩
    · rename_i hge
      rw [hlen] at hge hi
      have := (List.getElem?_eq_some_iff.1 hi).1
      simp at this
      have e : i - Ω.length = 0 := by omega
      rw [e] at hi
      rw [if_neg hge, e]
      exact .inr ⟨by simpa using hi.symm, by omega, rfl⟩
  have big : ∀ (i : Nat) o', (kill Ω k ob ++ [⟨true, fr, fl, xs⟩])[i]? = some o' → o'.live = true → ∃ o'', (newO Ω xs)[i]? = some o'' ∧ o''.live = true ∧ o''.cells = o'.cells ∧ (o'.fresh = true → o''.fresh = true) := fun i o' hi hl => by
    rcases get i o' hi hl with ⟨h1, _⟩ | ⟨rfl, _, h1⟩
    · exact ⟨o', h1, hl, rfl, id⟩
    · exact ⟨_, h1, rfl, rfl, fun _ => rfl⟩
  refine ⟨⟨?_, h.rel.im, fun i o' hi hl => ?_, fun i o' hi hl => ?_, fun i o' hi hl hf => ?_, fun i j o1 o2 b s1 s2 b' s1' s2' h1 h2 l1 l2 hne r1 r2 => ?_⟩, h.fr.imp fun b hb => hb.up (fun e => by cases e), h.rho, h.im, fun d' b hb => h.new d' b ?_⟩
  · rw [List.length_append, hlen, h.rel.len]
    simp [newO]
  · obtain ⟨o'', e1, e2, e3, _⟩ := big i o' hi hl
    have := h.rel.obj i o'' e1 e2
    unfold ObjAt at this ⊢
    rw [e3] at this
    exact this
  · obtain ⟨o'', e1, e2, e3, _⟩ := big i o' hi hl
    rw [← e3]
    exact h.rel.atoms i o'' e1 e2
  · rcases get i o' hi hl with ⟨h1, _⟩ | ⟨rfl, _, h1⟩
    · exact h.rel.flat i o' h1 hl hf
    · exact hfl hf
  · obtain ⟨o3, e1, e2, _, _⟩ := big i o1 h1 l1
    obtain ⟨o4, f1, f2, _, _⟩ := big j o2 h2 l2
    exact h.rel.sep i j o3 o4 b s1 s2 b' s1' s2' e1 f1 e2 f2 hne r1 r2
  · obtain ⟨i, o', s1, s2, h1, h2, h3, h4⟩ := hb
    obtain ⟨o'', e1, e2, _, e4⟩ := big i o' h1 h2
    exact ⟨i, o'', s1, s2, e1, e2, h3.imp id e4, h4⟩
/-- An object gone, its block written, and under a new number what it is now. -/
theorem take_step {Im : Imm} {ρ : List Loc} {Ω : List Obj} {w : World} (h : Rel Im ρ Ω w) {k : Nat} {ob : Obj} (hk : Ω[k]? = some ob) (hl : ob.live = true) {b base s off o' : Nat} (hr : ρ[k]? = some (some (b, base, s))) {arr : Array Value} {T : TypeId} {fz : Nat × Nat} (hb : w.heap[b]? = some (.cells arr T fz)) (hoff : base + off ≤ s) {vs : Array Value} (hvs : o' + vs.size ≤ s)
    {xs : List AV} (hx : ∀ a ∈ xs, atom a = true) {fl : Bool} (hfl : fl = true → ∀ a ∈ xs, flat0 a = true) (hs : base + off + xs.length ≤ s) (hc : ∀ (i : Nat) a, xs[i]? = some a → ∃ v, (putA arr o' vs)[base + off + i]? = some v ∧ VR Im ρ a v) :
    Step Im ρ Ω w Im (ρ ++ [some (b, base + off, s)]) (kill Ω k ob ++ [⟨true, ob.fresh, fl, xs⟩]) (World.setB w b (.cells (putA arr o' vs) T fz)) (!ob.fresh) := by
  rcases h.obj k ob hk hl with ⟨b', base', s', arr', T', fz', e1, e2, e3, e4, e5, e6, e7, f, e8, e9⟩ | ⟨e1, e2⟩
  case inr => rw [hr] at e1; cases e1
  rw [hr] at e1
  cases e1
  rw [hb] at e2
  cases e2
  have hbl := heap_lt hb
  have hsz : (putA arr o' vs).size = s := by rw [putA_size, e5]
  have hklen : (kill Ω k ob).length = Ω.length := by unfold Sym.kill; rw [List.length_set]
  have hR1 := h.killed k ob
  have noone : ∀ (i : Nat) o1 s1 s2, (kill Ω k ob)[i]? = some o1 → o1.live = true → ρ[i]? ≠ some (some (b, s1, s2)) := fun i o1 s1 s2 hi hl1 hri => by
    obtain ⟨h1, h2⟩ := kill_get hi hl1
    exact h.sep i k o1 ob b s1 s2 b base s h1 hk hl1 hl h2 hri hr rfl
  have him : ∀ c a, Im c = some a → ∃ T' fz', (World.setB w b (.cells (putA arr o' vs) T fz)).heap[c]? = some (.cells a T' fz') := fun c a hc => by
    obtain ⟨T2, fz2, e⟩ := hR1.im c a hc
    refine ⟨T2, fz2, ?_⟩
    rw [setB_get hbl, if_neg]
    · exact e
    · rintro rfl
      rw [e7] at hc
      cases hc
  have hob : ∀ (i : Nat) o1, (kill Ω k ob)[i]? = some o1 → o1.live = true → ObjAt Im ρ (World.setB w b (.cells (putA arr o' vs) T fz)) i o1 := fun i o1 hi hl1 =>
    (hR1.obj i o1 hi hl1).mono (ImLe.refl _) (RhoLe.refl _) (fun c s1 s2 hc => by
      rw [setB_get hbl, if_neg]
      rintro rfl
      exact noone i o1 s1 s2 hi hl1 hc) (fun _ _ _ _ hn => hn)
  have hR2 : Rel Im ρ (kill Ω k ob) (World.setB w b (.cells (putA arr o' vs) T fz)) := ⟨hR1.len, him, hob, hR1.atoms, hR1.flat, hR1.sep⟩
  have hR3 := hR2.push (b := b) (base := base + off) (arr := putA arr o' vs) (T := T) (fz := fz) (by rw [setB_get hbl, if_pos rfl]) e3 (by rw [hsz]; exact e4) e7 noone (fresh := ob.fresh) hx hfl (by rw [hsz]; exact hs) hc
  rw [hsz] at hR3
  refine ⟨hR3, ⟨rfl, rfl, rfl, by unfold World.setB; simp, fun c hc hn => ?_⟩, RhoLe.snoc _ _, ImLe.refl _, fun d' c hc => .inl ?_⟩
  · rw [setB_get hbl, if_neg]
    rintro rfl
    refine hn ⟨k, ob, base, s, hk, hl, ?_, hr⟩
    cases ob.fresh <;> simp
  · rcases LBd.push (by rw [hklen]; exact h.len) hc with hc | ⟨s1, s2, hc, hf⟩
    · obtain ⟨i, o1, s1, s2, h1, h2, h3, h4⟩ := hc
      exact ⟨i, o1, s1, s2, (kill_get h1 h2).1, h2, h3, h4⟩
    · cases hc
      exact ⟨k, ob, base, s, hk, hl, hf, hr⟩
/-- What an append gives, in any case. -/
theorem aApp_ok {P : Program} {ts : Array TypeId} {t t' ty e : TypeId} {rr : List TypeId} (hts : ts.toList = t :: t' :: rr) {i : TypeInfo} {z : List AV} (ht : P.underlying t = some (.slice e)) (hi : P.info? e = some i) (hcz : cz P e = some z) (hpos : 0 < i.size) (hzl : z.length = i.size) {ud : TypeDesc} (hu : P.underlying t' = some ud) (hsrc : isSrc ud = true)
    {Im : Imm} {ρ : List Loc} {Ω : List Obj} {w : World} (hR : Rel Im ρ Ω w) {x y : AV} {u v : Value} (hx : VR Im ρ x u) (hy : VR Im ρ y v) {r : AV} {Ω' : List Obj} {d : Bool} (h : aApp Ω i.size i.bytes x y = some (r, Ω', d)) :
    ∃ (q : Value) (w' : World) (ρ' : List Loc), (Builtin.append_ ts ty #[u, v]).run P w = .ok q w' ∧ VR Im ρ' r q ∧ Step Im ρ Ω w Im ρ' Ω' w' d := by
  obtain ⟨i', zv, hi', hzv, hzc, hzat, hzfl⟩ := cz_ok hcz Im ρ
  rw [hi] at hi'
  cases hi'
  unfold aApp at h
  rw [Option.bind_eq_some_iff] at h
  obtain ⟨⟨m, ys⟩, hys, h⟩ := h
  simp only at h
  split at h
  case isFalse => cases h
  rename_i hat
  have hylen := elemsS_length hys
  obtain ⟨hlen, news, hnews⟩ := elemsS_ok (P := P) hR hys hy
  obtain ⟨hcv, hfirst⟩ := hnews m (Nat.le_refl _)
  rw [take_all hylen] at hcv
  have hone := hcv.one (all_mem hat)
  have sameD : Same w w.drew := fun _ _ => rfl
  -- nothing appended
  have same : ∀ (base : Option Addr) (n cap : Nat), m = 0 → n ≤ cap → u = .slice base n cap → ∃ (q : Value) (w' : World) (ρ' : List Loc), (Builtin.append_ ts ty #[u, v]).run P w = .ok q w' ∧ VR Im ρ' x q ∧ Step Im ρ Ω w Im ρ' Ω w' false := fun base n cap hm hn hub => by
    subst hm hub
    have hnil : news 0 = #[] := CV.nil (by have : ys = [] := by simpa using hylen
                                           rw [this] at hcv; exact hcv)
    refine ⟨.slice base n cap, w, ρ, ?_, hx, Step.refl hR false⟩
    rw [run_app_fit hts ht hi hu hsrc (hlen w) (by omega) (hfirst w (Same.refl w)), hnil]
    cases base <;> simp [storeCells]
  -- a new block
  have fresh : ∀ (base : Option Addr) (n cap : Nat) (xs : List AV) (old : Array Value), u = .slice base n cap → cap < n + m → CV Im ρ xs old → (∀ a ∈ xs, atom a = true) → xs.length = n * i.size → (∀ w', Same w w' → (Builtin.firstCells i.size n (.slice base n cap)).run P w' = .ok old w') → (n + m) * i.bytes ≤ 140737488355328 → ((n + m : Nat) : Int) ≤ 9223372036854775807 →
      ∃ (q : Value) (w' : World) (ρ' : List Loc), (Builtin.append_ ts ty #[u, v]).run P w = .ok q w' ∧ VR Im ρ' (.view Ω.length 0 (n + m) i.size none) q ∧ Step Im ρ Ω w Im ρ' (newO Ω (xs ++ ys)) w' false := fun base n cap xs old hub hcap hxs hxat hxl hold hb1 hb2 => by
    subst hub
    have hrun := run_app_grow (ty := ty) hts ht hi hzv hu hsrc (hlen w) hcap hb1 hb2 (hold _ sameD) (hfirst _ sameD)
    have hg := grownCap_ge w (n + m) cap e
    have hcv2 := hxs.append hcv
    have e1 := hcv2.1
    rw [List.length_append, hxl, hylen, ← Nat.add_mul] at e1
    have hzsz : zv.cells.size = i.size := by rw [← hzl, hzc.1]
    have hsz : (old ++ news m ++ Builtin.zeroCells zv.cells (grownCap w (n + m) cap e - (n + m))).size = grownCap w (n + m) cap e * i.size := by
      rw [Array.size_append, ← e1, size_zeroCells, hzsz, sub_mul_add hg]
    have hst := alloc_step (w1 := w.drew) hR rfl rfl rfl rfl (arr := old ++ news m ++ Builtin.zeroCells zv.cells (grownCap w (n + m) cap e - (n + m))) (T := e) (fz := (0, 0)) zero_fr (by simp) (xs := xs ++ ys) (fun a ha => by
      rcases List.mem_append.1 ha with ha | ha
      · exact hxat a ha
      · exact all_mem hat a ha) (by rw [hsz, List.length_append, hxl, hylen, ← Nat.add_mul]; exact Nat.mul_le_mul_right _ hg) (fun i a hi => hcv2.cells_at i a hi)
    refine ⟨_, _, _, hrun, ?_, hst⟩
    exact VR.viewAt _ _ _ (grownCap w (n + m) cap e) _ (new_loc hR _) hg (fun m hm => by cases hm) (by rw [hsz]; omega) (fun _ => by rw [hsz]; omega) rfl
  split at h
  · -- nil
    split at h
    · rename_i hm
      cases h
      exact same none 0 0 hm (Nat.le_refl _) hx.inv_v
    · rename_i hm
      split at h
      · rename_i hb
        cases h
        have := fresh none 0 0 [] #[] hx.inv_v (by omega) (CV.mk rfl (fun i a hi => by simp at hi)) (fun a ha => by simp at ha) (by simp) (fun w' _ => by simp [Builtin.firstCells]) (by rw [Nat.zero_add]; exact hb.1) (by omega)
        simpa using this
      · cases h
  · -- what nobody writes
    rename_i n cl xs
    split at h
    · rename_i hm
      cases h
      cases hx with
      | shr b o cap arr f hb hc hcl ha h1 h2 => exact same _ n cap hm hc rfl
      | shr0 => exact same _ 0 0 hm (Nat.le_refl _) rfl
    · rename_i hm
      split at h
      · rename_i hb
        obtain ⟨b1, b2, b3, b4⟩ := hb
        cases h
        have hel : elemsS Ω i.size (.shr n cl xs) = some (n, xs) := by simp [elemsS, elems, b2]
        obtain ⟨_, olds, holds⟩ := elemsS_ok (P := P) hR hel hx
        obtain ⟨ho1, ho2⟩ := holds n (Nat.le_refl _)
        rw [take_all b2] at ho1
        have hxa : ∀ a ∈ xs, atom a = true := by
          cases hx with
          | shr b o cap arr f hb hc hcl ha h1 h2 => exact fun a ha' => by obtain ⟨j, hj⟩ := List.mem_iff_getElem?.1 ha'; exact ha j a hj
          | shr0 => exact fun a ha' => by simp at ha'
        have hform : ∃ base cap, u = .slice base n cap ∧ cap = n := by
          cases hx with
          | shr b o cap arr f hb hc hcl ha h1 h2 => exact ⟨_, cap, rfl, hcl b1⟩
          | shr0 => exact ⟨_, 0, rfl, rfl⟩
        obtain ⟨base, cap, hub, hcap⟩ := hform
        refine fresh base n cap xs (olds n) hub (by omega) ho1 hxa b2 (fun w' hs => ?_) b3 (by omega)
        have := ho2 w' hs
        rw [hub] at this
        exact this
      · cases h
  · -- the call's own
    rename_i k off n sz c
    split at h
    · rename_i hm
      cases h
      cases hx with
      | view b o s cap hk hc h1 h2 h3 => exact same _ n cap hm hc rfl
      | viewE b o s o' hk h1 h2 h3 => exact same _ 0 0 hm (Nat.le_refl _) rfl
      | view0 hk h1 => exact same _ 0 0 hm (Nat.le_refl _) rfl
    · rename_i hm
      rw [Option.bind_eq_some_iff] at h
      obtain ⟨ob, hob, h⟩ := h
      obtain ⟨hk, hl⟩ := getO_some hob
      split at h
      case isFalse => cases h
      rename_i hb
      obtain ⟨rfl, b2, b3, b4⟩ := hb
      have hatoms := hR.atoms k ob hk hl
      have hel : elemsS Ω i.size (.view k off n i.size c) = some (n, (ob.cells.drop off).take (n * i.size)) := by simp [elemsS, elems, hob, b2]
      have hxl : ((ob.cells.drop off).take (n * i.size)).length = n * i.size := elemsS_length hel
      obtain ⟨_, olds, holds⟩ := elemsS_ok (P := P) hR hel hx
      obtain ⟨ho1, ho2⟩ := holds n (Nat.le_refl _)
      rw [take_all hxl] at ho1
      have hxa : ∀ a ∈ (ob.cells.drop off).take (n * i.size), atom a = true := fun a ha => hatoms a (List.mem_of_mem_drop (List.mem_of_mem_take ha))
      -- in place, within what is there
      have inplace : ∀ (b base s cap : Nat), ρ[k]? = some (some (b, base, s)) → u = .slice (some ⟨b, base + off, none⟩) n cap → n + m ≤ cap → off + (n + m) * i.size ≤ ob.cells.length → (∀ q, c = some q → cap = q) → base + off + cap * i.size ≤ s → (c = none → base + off + cap * i.size = s) →
          ∃ (q : Value) (w' : World) (ρ' : List Loc), (Builtin.append_ ts ty #[u, v]).run P w = .ok q w' ∧ VR Im ρ' (.view k off (n + m) i.size c) q ∧ Step Im ρ Ω w Im ρ' (Ω.set k { ob with flat := ob.flat && ys.all flat0, cells := putL ob.cells (off + n * i.size) ys }) w' (!ob.fresh) := fun b base s cap hr hub hcap hle h1 h2 h3 => by
        subst hub
        rcases hR.obj k ob hk hl with ⟨b', base', s', arr, T, fz, e1, e2, e3, e4, e5, e6, e7, f, e8, e9⟩ | ⟨e1, e2⟩
        · rw [hr] at e1
          cases e1
          have hsz : (news m).size = m * i.size := by rw [← hcv.1, hylen]
          have hle' : off + n * i.size + ys.length ≤ ob.cells.length := by rw [hylen, Nat.add_assoc, ← Nat.add_mul]; exact hle
          have hst := run_storeCells_put (P := P) (b := b) (o := base + (off + n * i.size)) (vs := news m) e2 (by rw [e5]; exact e4) (by rw [hsz, e5]; rw [hylen] at hle'; omega) hone
          refine ⟨.slice (some ⟨b, base + off, none⟩) (n + m) cap, _, ρ, ?_, .view b base s cap hr hcap h1 h2 h3, write_step hR hk hl hr e2 hcv hat hle'⟩
          rw [run_app_fit hts ht hi hu hsrc (hlen w) hcap (hfirst w (Same.refl w))]
          simp only [add_at]
          rw [Nat.add_assoc, hst]
          rfl
        · rw [hr] at e1
          cases e1
      have grow : ∀ (base : Option Addr) (cap : Nat), u = .slice base n cap → cap < n + m → ∃ (q : Value) (w' : World) (ρ' : List Loc), (Builtin.append_ ts ty #[u, v]).run P w = .ok q w' ∧ VR Im ρ' (.view Ω.length 0 (n + m) i.size none) q ∧ Step Im ρ Ω w Im ρ' (newO Ω ((ob.cells.drop off).take (n * i.size) ++ ys)) w' false := fun base cap hub hcap =>
        fresh base n cap _ (olds n) hub hcap ho1 hxa hxl (fun w' hs => by have := ho2 w' hs; rw [hub] at this; exact this) b3 (by omega)
      split at h
      · rename_i cap
        split at h
        · rename_i hfit
          split at h
          · rename_i hle
            cases h
            cases hx with
            | view b o s cap' hk' hc h1 h2 h3 => exact inplace b o s cap' hk' rfl (by rw [h1 _ rfl]; exact hfit) hle h1 h2 h3
            | viewE b o s o' hk' h1 h2 h3 => have := h1 _ rfl; omega
            | view0 hk' h1 => have := h1 _ rfl; omega
          · cases h
        · rename_i hfit
          cases h
          cases hx with
          | view b o s cap' hk' hc h1 h2 h3 => exact grow _ _ rfl (by rw [h1 _ rfl]; omega)
          | viewE b o s o' hk' h1 h2 h3 => exact grow _ _ rfl (by omega)
          | view0 hk' h1 => exact grow _ _ rfl (by omega)
      · split at h
        · rename_i hle
          cases h
          cases hx with
          | view b o s cap hk' hc h1 h2 h3 =>
            refine inplace b o s cap hk' rfl ?_ hle h1 h2 h3
            have h3' := h3 rfl
            have hsz : o + ob.cells.length ≤ s := by
              rcases hR.obj k ob hk hl with ⟨b', base', s', arr, T, fz, e1, e2, e3, e4, e5, e6, e7, f, e8, e9⟩ | ⟨e1, e2⟩
              · rw [hk'] at e1; cases e1; exact e6
              · rw [hk'] at e1; cases e1
            exact Nat.le_of_mul_le_mul_right (show (n + m) * i.size ≤ cap * i.size by omega) hpos
          | viewE b o s o' hk' h1 h2 h3 =>
            have h3' := h3 rfl
            have hmul : 0 < m * i.size := Nat.mul_pos (by omega) hpos
            rcases hR.obj k ob hk hl with ⟨b', base', s', arr, T, fz, e1, e2, e3, e4, e5, e6, e7, f, e8, e9⟩ | ⟨e1, e2⟩
            · rw [hk'] at e1; cases e1; rw [Nat.zero_add] at hle; omega
            · rw [hk'] at e1; cases e1
          | view0 hk' h1 =>
            have hmul : 0 < m * i.size := Nat.mul_pos (by omega) hpos
            rcases hR.obj k ob hk hl with ⟨b', base', s', arr, T, fz, e1, e2, e3, e4, e5, e6, e7, f, e8, e9⟩ | ⟨e1, e2⟩
            · rw [hk'] at e1; cases e1
            · rw [e2, Nat.zero_add] at hle; simp at hle; omega
        · rename_i hle
          cases h
          have hfl : (ob.flat && ys.all flat0) = true → ∀ a ∈ (ob.cells.drop off).take (n * i.size) ++ ys, flat0 a = true := fun hf a ha => by
            rw [Bool.and_eq_true] at hf
            rcases List.mem_append.1 ha with ha | ha
            · exact hR.flat k ob hk hl hf.1 a (List.mem_of_mem_drop (List.mem_of_mem_take ha))
            · exact List.all_eq_true.1 hf.2 a ha
          have grown : ∀ (base : Option Addr) (cap : Nat), u = .slice base n cap → cap < n + m → ∃ (q : Value) (w' : World) (ρ' : List Loc), (Builtin.append_ ts ty #[u, v]).run P w = .ok q w' ∧ VR Im ρ' (.view Ω.length 0 (n + m) i.size none) q ∧ Step Im ρ Ω w Im ρ' (kill Ω k ob ++ [⟨true, ob.fresh, ob.flat && ys.all flat0, (ob.cells.drop off).take (n * i.size) ++ ys⟩]) w' (!ob.fresh) := fun base cap hub hcap => by
            obtain ⟨q, w', ρ', hrun, hv, hst⟩ := grow base cap hub hcap
            exact ⟨q, w', ρ', hrun, hv, hst.demote (d := !ob.fresh) k ob ob.fresh _ hfl⟩
          cases hx with
          | view b o s cap hk' hc h1 h2 h3 =>
            by_cases hfit : n + m ≤ cap
            · have h3' := h3 rfl
              rcases hR.obj k ob hk hl with ⟨b', base', s', arr, T, fz, e1, e2, e3, e4, e5, e6, e7, f, e8, e9⟩ | ⟨e1, e2⟩
              case inr => rw [hk'] at e1; cases e1
              rw [hk'] at e1
              cases e1
              have hsz : (news m).size = m * i.size := by rw [← hcv.1, hylen]
              have hmul := Nat.mul_le_mul_right i.size hfit
              rw [Nat.add_mul] at hmul
              have hst := run_storeCells_put (P := P) (b := b) (o := o + (off + n * i.size)) (vs := news m) e2 (by rw [e5]; exact e4) (by rw [hsz, e5]; omega) hone
              refine ⟨.slice (some ⟨b, o + off, none⟩) (n + m) cap, _, ρ ++ [some (b, o + off, s)], ?_, VR.viewAt b (o + off) s cap _ (new_loc hR _) hfit (fun m hm => by cases hm) (by omega) (fun _ => by omega) rfl, take_step (off := off) (o' := o + (off + n * i.size)) (vs := news m) hR hk hl hk' e2 (by omega) (by rw [hsz]; omega) (fun a ha => ?_) hfl (by rw [List.length_append, hxl, hylen]; omega) fun j a hj => ?_⟩
              · rw [run_app_fit hts ht hi hu hsrc (hlen w) hfit (hfirst w (Same.refl w))]
                simp only [add_at]
                rw [Nat.add_assoc, hst]
                rfl
              · rcases List.mem_append.1 ha with ha | ha
                · exact hxa a ha
                · exact all_mem hat a ha
              · rw [putA_get _ _ _ _ (by rw [hsz, e5]; omega)]
                rw [List.getElem?_append] at hj
                split at hj
                · rename_i hlt
                  rw [hxl] at hlt
                  rw [List.getElem?_take_of_lt hlt, List.getElem?_drop] at hj
                  rw [if_neg (by omega)]
                  exact ⟨f (off + j), by rw [Nat.add_assoc]; exact e8 _ _ hj, e9 _ _ hj⟩
                · rename_i hge
                  rw [hxl] at hj hge
                  have hj2 := (List.getElem?_eq_some_iff.1 hj).1
                  rw [hylen] at hj2
                  rw [if_pos (by rw [hsz]; omega), show o + off + j - (o + (off + n * i.size)) = j - n * i.size by omega]
                  exact hcv.at hj
            · exact grown _ _ rfl (by omega)
          | viewE b o s o' hk' h1 h2 h3 => exact grown _ _ rfl (by omega)
          | view0 hk' h1 => exact grown _ _ rfl (by omega)
  · cases h
end Go.Proofs.Ytkaigdfklihlcaa.Sym
