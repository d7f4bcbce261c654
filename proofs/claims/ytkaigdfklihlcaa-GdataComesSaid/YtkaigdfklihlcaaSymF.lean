/- Structs laid together, bytes told as a string, comparisons of structs; and all operations that leave memory alone. -/
import Derived.Test.YtkaigdfklihlcaaSymE
import Derived.Laws.Tables
import Derived.Laws.StructEq
namespace Go.Proofs.Ytkaigdfklihlcaa.Sym
open Go
set_option linter.unusedVariables false
set_option linter.unusedSimpArgs false

theorem putL_length : ∀ (cs xs : List AV) (o : Nat), (putL xs o cs).length = xs.length
  | [], xs, o => rfl
  | c :: cs, xs, o => by rw [putL, putL_length cs, List.length_set]
theorem putL_get : ∀ (cs xs : List AV) (o i : Nat), o + cs.length ≤ xs.length → (putL xs o cs)[i]? = if o ≤ i ∧ i < o + cs.length then cs[i - o]? else xs[i]?
  | [], xs, o, i, h => by rw [putL, if_neg (by rw [List.length_nil]; omega)]
  | c :: cs, xs, o, i, h => by
    rw [List.length_cons] at h
    rw [putL, putL_get cs _ (o + 1) i (by rw [List.length_set]; omega), List.length_cons]
    by_cases h1 : o + 1 ≤ i ∧ i < o + 1 + cs.length
    · rw [if_pos h1, if_pos (by omega), show i - o = (i - (o + 1)) + 1 by omega, List.getElem?_cons_succ]
    · rw [if_neg h1, List.getElem?_set]
      by_cases h2 : o = i
      · subst h2
        rw [if_pos rfl, if_pos (by omega), if_pos (by omega), Nat.sub_self, List.getElem?_cons_zero]
      · rw [if_neg h2, if_neg (by omega)]
def putA (arr : Array Value) (o : Nat) (cs : Array Value) : Array Value := cs.zipIdx.foldl (fun cs (c, j) => cs.setIfInBounds (o + j) c) arr
theorem putA_list : ∀ (cs : List Value) (k o : Nat) (arr : Array Value), ((cs.zipIdx k).foldl (fun (a : Array Value) (p : Value × Nat) => a.setIfInBounds (o + p.2) p.1) arr).size = arr.size ∧ ∀ i, o + k + cs.length ≤ arr.size →
    ((cs.zipIdx k).foldl (fun (a : Array Value) (p : Value × Nat) => a.setIfInBounds (o + p.2) p.1) arr)[i]? = if o + k ≤ i ∧ i < o + k + cs.length then cs[i - (o + k)]? else arr[i]?
  | [], k, o, arr => ⟨rfl, fun i h => by rw [if_neg (by rw [List.length_nil]; omega)]; rfl⟩
  | c :: cs, k, o, arr => by
    obtain ⟨h1, h2⟩ := putA_list cs (k + 1) o (arr.setIfInBounds (o + k) c)
    rw [Array.size_setIfInBounds] at h1 h2
    refine ⟨by rw [List.zipIdx_cons, List.foldl_cons]; exact h1, fun i h => ?_⟩
    rw [List.length_cons] at h
    rw [List.zipIdx_cons, List.foldl_cons, h2 i (by omega), List.length_cons]
    by_cases q1 : o + (k + 1) ≤ i ∧ i < o + (k + 1) + cs.length
    · rw [if_pos q1, if_pos (by omega), show i - (o + k) = (i - (o + (k + 1))) + 1 by omega, List.getElem?_cons_succ]
    · rw [if_neg q1, Array.getElem?_setIfInBounds]
      by_cases q2 : o + k = i
      · subst q2
        rw [if_pos rfl, if_pos (by omega), if_pos (by omega), Nat.sub_self, List.getElem?_cons_zero]
      · rw [if_neg q2, if_neg (by omega)]
theorem putA_eq (arr : Array Value) (o : Nat) (cs : Array Value) : putA arr o cs = (cs.toList.zipIdx 0).foldl (fun (a : Array Value) (p : Value × Nat) => a.setIfInBounds (o + p.2) p.1) arr := by
  unfold putA
  rw [← Array.foldl_toList, Array.toList_zipIdx]
theorem putA_size (arr : Array Value) (o : Nat) (cs : Array Value) : (putA arr o cs).size = arr.size := by rw [putA_eq]; exact (putA_list _ _ _ _).1
theorem putA_get (arr : Array Value) (o : Nat) (cs : Array Value) (i : Nat) (h : o + cs.size ≤ arr.size) : (putA arr o cs)[i]? = if o ≤ i ∧ i < o + cs.size then cs[i - o]? else arr[i]? := by
  rw [putA_eq, (putA_list cs.toList 0 o arr).2 i (by simpa using h)]
  simp

/-- Cells as cells. -/
def CV (Im : Imm) (ρ : List Loc) (xs : List AV) (arr : Array Value) : Prop := xs.length = arr.size ∧ ∃ f : Nat → Value, (∀ (i : Nat) a, xs[i]? = some a → arr[i]? = some (f i)) ∧ ∀ (i : Nat) a, xs[i]? = some a → VR Im ρ a (f i)
theorem CV.at {Im : Imm} {ρ : List Loc} {xs : List AV} {arr : Array Value} (h : CV Im ρ xs arr) {i : Nat} {a : AV} (hi : xs[i]? = some a) : ∃ v, arr[i]? = some v ∧ VR Im ρ a v := by
  obtain ⟨_, f, h1, h2⟩ := h
  exact ⟨f i, h1 i a hi, h2 i a hi⟩
theorem CV.mk {Im : Imm} {ρ : List Loc} {xs : List AV} {arr : Array Value} (hl : xs.length = arr.size) (h : ∀ (i : Nat) a, xs[i]? = some a → ∃ v, arr[i]? = some v ∧ VR Im ρ a v) : CV Im ρ xs arr := by
  refine ⟨hl, fun i => arr.getD i undef, fun i a hi => ?_, fun i a hi => ?_⟩
  · obtain ⟨v, h1, h2⟩ := h i a hi
    rw [h1]
    simp [Array.getD_eq_getD_getElem?, h1]
  · obtain ⟨v, h1, h2⟩ := h i a hi
    simpa [Array.getD_eq_getD_getElem?, h1] using h2
theorem VR.cv {Im : Imm} {ρ : List Loc} {a : AV} {x : Value} (hf : (cellsOf a).all atom = true) (h : VR Im ρ a x) : CV Im ρ (cellsOf a) x.cells := by
  obtain ⟨f, h1, h2, h3⟩ := h.cells hf
  exact ⟨h1, f, h2, h3⟩
theorem CV.put {Im : Imm} {ρ : List Loc} {xs cs : List AV} {arr brr : Array Value} (h : CV Im ρ xs arr) (h' : CV Im ρ cs brr) (o : Nat) (hle : o + cs.length ≤ xs.length) : CV Im ρ (putL xs o cs) (putA arr o brr) := by
  have e1 := h.1
  have e2 := h'.1
  refine CV.mk (by rw [putL_length, putA_size, e1]) fun i a hi => ?_
  rw [putL_get _ _ _ _ hle] at hi
  rw [putA_get _ _ _ _ (by omega), ← e2]
  split at hi
  · rename_i hc
    rw [if_pos hc]
    exact h'.at hi
  · rename_i hc
    rw [if_neg hc]
    exact h.at hi
theorem CV.agg {Im : Imm} {ρ : List Loc} {xs : List AV} {arr : Array Value} (h : CV Im ρ xs arr) : VR Im ρ (.agg xs) (.agg arr) := by
  obtain ⟨hl, f, h1, h2⟩ := h
  exact .agg arr f hl h1 h2
theorem fill_ok {Im : Imm} {ρ : List Loc} {e : Env} {act : Act} (hE : EnvOK Im ρ e act) (place : Nat → Option (Nat × Nat)) : ∀ (parts : List (Nat × Operand)) (xs : List (Nat × Nat × AX)) (as : List (Nat × Nat × AV)) (zero cs : List AV) (arr : Array Value),
    cparts place parts = some xs → evP e xs = some as → fillL zero as = some cs → CV Im ρ zero arr → ∃ arr', Instr.fill place arr (parts.map fun p => (p.1, act.eval p.2)) = some arr' ∧ CV Im ρ cs arr'
  | [], xs, as, zero, cs, arr, h1, h2, h3, hz => by cases h1; cases h2; cases h3; exact ⟨arr, rfl, hz⟩
  | (i, x) :: parts, xs, as, zero, cs, arr, h1, h2, h3, hz => by
    simp only [cparts, Option.bind_eq_some_iff] at h1
    obtain ⟨⟨off, size⟩, hp, ax, hx, xs', hxs, h1⟩ := h1
    cases h1
    simp only [evP, Option.bind_eq_some_iff] at h2
    obtain ⟨a, ha, as', has, h2⟩ := h2
    cases h2
    simp only [fillL] at h3
    split at h3
    · rename_i hc
      obtain ⟨c1, c2, c3⟩ := hc
      have hv := (ev_ok hE hx ha).cv c3
      have hle : off + (cellsOf a).length ≤ zero.length := by omega
      obtain ⟨arr', hr, hcv⟩ := fill_ok hE place parts xs' as' _ cs _ hxs has h3 (hz.put hv off hle)
      refine ⟨arr', ?_, hcv⟩
      have e1 := hv.1
      have e2 := hz.1
      simp only [List.map_cons, Instr.fill, hp]
      rw [if_neg (by simp; omega)]
      exact hr
    · cases h3
theorem cz_ok {P : Program} {t : TypeId} {z : List AV} (h : cz P t = some z) (Im : Imm) (ρ : List Loc) : ∃ i v, P.info? t = some i ∧ i.zero = some v ∧ CV Im ρ z v.cells ∧ (∀ a ∈ z, atom a = true) ∧ ∀ a ∈ z, flat0 a = true := by
  simp only [cz, Option.bind_eq_some_iff] at h
  obtain ⟨i, hi, v, hv, h⟩ := h
  split at h
  · rename_i hp
    cases h
    refine ⟨i, v, hi, hv, CV.mk (by simp) fun j a hj => ?_, fun a ha => ?_, fun a ha => ?_⟩
    · have hl := (List.getElem?_eq_some_iff.1 hj).1
      rw [List.length_map] at hl
      rw [List.getElem?_map, List.getElem?_eq_getElem hl] at hj
      cases hj
      refine ⟨v.cells.toList[j], by rw [← Array.getElem?_toList, List.getElem?_eq_getElem hl], .v (List.all_eq_true.1 hp _ (List.getElem_mem hl))⟩
    · obtain ⟨x, _, rfl⟩ := List.mem_map.1 ha
      rfl
    · obtain ⟨x, _, rfl⟩ := List.mem_map.1 ha
      rfl
  · cases h
theorem places_ok {P : Program} : ∀ (fs : List Field), fs.all (fun f => (sizeT P f.type).isSome) = true → ∃ places, fs.mapM (fun f => (P.info? f.type).map fun i => (f.offset, i.size)) = some places ∧ ∀ i : Nat, places[i]? = (fs[i]?).bind fun f => (sizeT P f.type).map fun n => (f.offset, n)
  | [], _ => ⟨[], rfl, fun i => by simp⟩
  | f :: fs, h => by
    simp only [List.all_cons, Bool.and_eq_true] at h
    obtain ⟨ps, h1, h2⟩ := places_ok fs h.2
    obtain ⟨n, hn⟩ := Option.isSome_iff_exists.1 h.1
    have hn' := hn
    simp only [sizeT, Option.map_eq_some_iff] at hn
    obtain ⟨i, hi, rfl⟩ := hn
    refine ⟨(f.offset, i.size) :: ps, by simp [h1, hi], fun j => ?_⟩
    cases j with
    | zero => simp [hn']
    | succ j => simpa using h2 j
theorem build_ok {P : Program} {o : Oper} {t : TypeId} {parts : Array (Nat × Operand)} {ao : AO} (ho : o.op = .build t parts) (hc : compOp P o = some ao) {Im : Imm} {ρ : List Loc} {e : Env} {Ω : List Obj} {act : Act} (hE : EnvOK Im ρ e act) {r : AV} (h : aq e Ω ao = some r) :
    ∃ y, VR Im ρ r y ∧ ∀ w, (Instr.build t (parts.map fun (i, x) => (i, act.eval x))).run P w = .ok y w := by
  simp only [compOp, ho, Option.bind_eq_some_iff] at hc
  obtain ⟨z, hz, d, hd, hc⟩ := hc
  obtain ⟨it, zv, hi, hzv, hcv, _, _⟩ := cz_ok hz Im ρ
  have fin : ∀ (place : Nat → Option (Nat × Nat)) (ps : List (Nat × Nat × AX)), cparts place parts.toList = some ps → ao = .build z ps → (∀ cells, Instr.fill place zv.cells (parts.toList.map fun p => (p.1, act.eval p.2)) = some cells → P.built t (parts.map fun (i, x) => (i, act.eval x)).toList = some cells) →
      ∃ y, VR Im ρ r y ∧ ∀ w, (Instr.build t (parts.map fun (i, x) => (i, act.eval x))).run P w = .ok y w := fun place ps h1 h2 h3 => by
    subst h2
    simp only [aq, Option.bind_eq_some_iff, Option.map_eq_some_iff] at h
    obtain ⟨as, has, cs, hcs, rfl⟩ := h
    obtain ⟨arr, hr, hv⟩ := fill_ok hE place _ _ _ _ _ _ h1 has hcs hcv
    exact ⟨_, hv.agg, fun w => run_build w t _ _ (h3 _ hr)⟩
  split at hc
  · rename_i fs
    simp only [Option.bind_eq_some_iff] at hc
    obtain ⟨ps, hps, hc⟩ := hc
    split at hc
    · rename_i hall
      cases hc
      obtain ⟨places, p1, p2⟩ := places_ok fs.toList hall
      refine fin _ ps hps rfl fun cells hf => ?_
      unfold Program.built
      simp only [hi, hd, hzv, p1]
      rw [Array.toList_map]
      have e : (fun i : Nat => (fs[i]?).bind fun f => (sizeT P f.type).map fun n => (f.offset, n)) = fun i => places.toArray[i]? := by
        funext i
        have e1 : places.toArray[i]? = places[i]? := List.getElem?_toArray
        rw [e1, p2, Array.getElem?_toList]
      rw [e] at hf
      exact hf
    · cases hc
  · rename_i len el
    simp only [Option.bind_eq_some_iff] at hc
    obtain ⟨n, hn, ps, hps, hc⟩ := hc
    cases hc
    refine fin _ ps hps rfl fun cells hf => ?_
    have hn' := hn
    simp only [sizeT, Option.map_eq_some_iff] at hn
    obtain ⟨ie, hie, rfl⟩ := hn
    unfold Program.built
    simp only [hi, hd, hzv, hie]
    rw [Array.toList_map]
    exact hf
  · cases hc

theorem VR.inv_v {Im : Imm} {ρ : List Loc} {x y : Value} (h : VR Im ρ (.v x) y) : y = x := by cases h; rfl
/-! ### bytes as a string -/
theorem toNums_ok {Im : Imm} {ρ : List Loc} : ∀ (xs : List AV) (l : List Int), toNums xs = some l → xs.length = l.length ∧ ∀ (i : Nat) a, xs[i]? = some a → a = .v (.int .u8 (l.getD i 0))
  | [], l, h => by cases h; exact ⟨rfl, fun i a hi => by simp at hi⟩
  | x :: xs, l, h => by
    unfold toNums at h
    split at h
    · cases ‹_ :: _ = []›
    · rename_i n r hx
      simp only [Option.bind_eq_some_iff] at h
      obtain ⟨l', hl, h⟩ := h
      cases h
      cases hx
      obtain ⟨h1, h2⟩ := toNums_ok (Im := Im) (ρ := ρ) xs l' hl
      refine ⟨by simp [h1], fun i a hi => ?_⟩
      cases i with
      | zero => simpa using hi.symm
      | succ i => simpa using h2 i a (by simpa using hi)
    · cases h
theorem run_str {P : Program} {s d e : TypeId} (hs : P.underlying s = some (.slice e)) (he : u8T P e = true) (hd : P.underlying d = some .string) {Im : Imm} {ρ : List Loc} {w : World} {b o off n cap : Nat} {f : Nat → Value} {xs : List AV} (hL : Lies w b o f xs) (hV : ∀ (i : Nat) a, xs[i]? = some a → VR Im ρ a (f i))
    {l : List Int} (hle : off + n ≤ xs.length) (hl : toNums ((xs.drop off).take n) = some l) (w' : World) (hS : w'.heap[b]? = w.heap[b]?) : (convert s d (.slice (some ⟨b, o + off, none⟩) n cap)).run P w' = .ok (.string (strOfNums l)) w' := by
  have he' : P.underlying e = some (.int .u8) := by
    unfold u8T at he
    split at he
    · assumption
    · cases he
  obtain ⟨h1, h2⟩ := toNums_ok (Im := Im) (ρ := ρ) _ _ hl
  refine run_convert_bytes_arg w' s e hs he' b (o + off) n cap l ?_ (fun i hi => ?_) d hd
  · rw [← h1, List.length_take, List.length_drop]
    omega
  · have hx : ((xs.drop off).take n)[i]? = some xs[off + i] := by
      rw [List.getElem?_take_of_lt hi, List.getElem?_drop, List.getElem?_eq_getElem (by omega)]
    have e1 := h2 i _ hx
    have hv := hV (off + i) _ (List.getElem?_eq_getElem (by omega))
    rw [e1] at hv
    have hc := (hL.same hS).cell (i := off + i) (by omega)
    rw [Nat.add_assoc, hc, hv.inv_v]
theorem u8_under {P : Program} {e : TypeId} (he : u8T P e = true) : P.underlying e = some (.int .u8) := by
  unfold u8T at he
  split at he
  · assumption
  · cases he
theorem cvbs_ok {P : Program} {s d el : TypeId} (hs : P.underlying s = some (.slice el)) (he : u8T P el = true) (hd : P.underlying d = some .string) {Im : Imm} {ρ : List Loc} {e : Env} {Ω : List Obj} {w : World} (hR : Rel Im ρ Ω w) {x : AX} {a r : AV} {u : Value} (ha : ev e x = some a) (hu : VR Im ρ a u) (h : aq e Ω (.cvbs x) = some r) :
    ∃ y, VR Im ρ r y ∧ ∀ w', SameK Im ρ Ω w w' → (convert s d u).run P w' = .ok y w' := by
  simp only [aq, ha, Option.bind_some] at h
  split at h
  · cases h
    cases hu
    exact ⟨_, .v rfl, fun w' _ => run_convert_bytes_nil w' s el hs (u8_under he) 0 0 d hd⟩
  · rename_i n cl xs
    split at h
    · rename_i hn
      rw [Option.map_eq_some_iff] at h
      obtain ⟨l, hl, rfl⟩ := h
      cases hu with
      | shr b o cap arr f hb hc hcl hat h1 h2 =>
        obtain ⟨T, fz, hw⟩ := hR.im _ _ hb
        refine ⟨_, .v rfl, fun w' hS => ?_⟩
        have := run_str (P := P) hs he hd (Im := Im) (ρ := []) (w := w) (b := b) (o := o) (off := 0) (n := n) (cap := cap) (f := f) (xs := xs) ⟨arr, T, fz, hw, h1⟩ h2 (by omega) (by rw [List.drop_zero, ← hn, List.take_length]; exact hl) w' (hS b (.inl ⟨_, hb⟩))
        exact this
      | shr0 a0 =>
        cases hl
        refine ⟨_, .v rfl, fun w' _ => ?_⟩
        cases a0 with
        | none => exact run_convert_bytes_nil w' s el hs (u8_under he) 0 0 d hd
        | some a =>
          rw [run_convert_bytes_string w' s d el _ 0 0 hs (u8_under he) hd]
          simp [Conv.bytesToString, loadCells, loadCellsFrom]
          rfl
    · cases h
  · rename_i k off n sz c
    split at h
    · simp only [Option.bind_eq_some_iff] at h
      obtain ⟨ob, hob, h⟩ := h
      split at h
      · rename_i hle
        rw [Option.map_eq_some_iff] at h
        obtain ⟨l, hl, rfl⟩ := h
        cases hu with
        | view b o s' cap hk hc h1 h2 h3 =>
          obtain ⟨f, hL, hV⟩ := hR.lies hob hk
          exact ⟨_, .v rfl, fun w' hS => run_str hs he hd hL hV hle hl w' (hS b (.inr ⟨k, ob, o, s', (getO_some hob).1, (getO_some hob).2, hk⟩))⟩
        | viewE b o s' o' hk h1 h2 h3 =>
          obtain ⟨f, hL, hV⟩ := hR.lies hob hk
          rw [List.take_zero] at hl
          cases hl
          refine ⟨_, .v rfl, fun w' hS => ?_⟩
          have := run_convert_bytes_arg (P := P) w' s el hs (u8_under he) b o' 0 0 [] rfl (fun i hi => by omega) d hd
          exact this
        | view0 hk h1 =>
          rw [List.take_zero] at hl
          cases hl
          exact ⟨_, .v rfl, fun w' _ => run_convert_bytes_nil w' s el hs (u8_under he) 0 0 d hd⟩
      · cases h
    · cases h
  · cases h

/-! ### comparisons of structs -/
def vLeaf : LK → Value → Value → Option Bool
  | .i, .int k a, .int k' b => if k = k' then some (a == b) else none
  | .b, .bool a, .bool b => some (a == b)
  | .s, .string a, .string b => some (decide (a = b))
  | _, _, _ => none
def vEq (xs ys : Array Value) : List (Nat × LK) → Option Bool
  | [] => some true
  | (i, k) :: is => match xs[i]?, ys[i]? with
    | some x, some y => (vLeaf k x y).bind fun b => (vEq xs ys is).map fun c => b && c
    | _, _ => none
theorem vLeaf_b {u v : Value} {b : Bool} (h : vLeaf .b u v = some b) : ∃ x y, u = .bool x ∧ v = .bool y ∧ b = (x == y) := by
  cases u <;> cases v <;> simp only [vLeaf] at h <;> first | exact ⟨_, _, rfl, rfl, (Option.some.inj h).symm⟩ | cases h
theorem vLeaf_i {u v : Value} {b : Bool} (h : vLeaf .i u v = some b) : ∃ k x y, u = .int k x ∧ v = .int k y ∧ b = (x == y) := by
  cases u <;> cases v <;> simp only [vLeaf] at h <;> first | (cases h; done) | (split at h <;> first | (rename_i hk; subst hk; exact ⟨_, _, _, rfl, rfl, (Option.some.inj h).symm⟩) | cases h)
theorem vLeaf_s {u v : Value} {b : Bool} (h : vLeaf .s u v = some b) : ∃ x y, u = .string x ∧ v = .string y ∧ b = decide (x = y) := by
  cases u <;> cases v <;> simp only [vLeaf] at h <;> first | exact ⟨_, _, rfl, rfl, (Option.some.inj h).symm⟩ | cases h
theorem vEq_of {Im : Imm} {ρ : List Loc} {xs ys : List AV} {arr brr : Array Value} (h : CV Im ρ xs arr) (h' : CV Im ρ ys brr) : ∀ (ls : List (Nat × LK)) (b : Bool), leavesEq xs ys ls = some b → vEq arr brr ls = some b
  | [], b, e => by cases e; rfl
  | (i, k) :: ls, b, e => by
    rw [leavesEq] at e
    split at e
    · rename_i x y hx hy
      simp only [Option.bind_eq_some_iff, Option.map_eq_some_iff] at e
      obtain ⟨c, hc, d, hd, rfl⟩ := e
      obtain ⟨u, hu, hu'⟩ := h.at hx
      obtain ⟨v, hv, hv'⟩ := h'.at hy
      have : vLeaf k u v = some c := by
        unfold leafEq at hc
        split at hc <;> first | (cases hc; done) | (rw [hu'.inv_v, hv'.inv_v]; exact hc)
      simp only [vEq, hu, hv, vEq_of h h' ls d hd, this, Option.bind_some, Option.map_some]
    · cases e
theorem vEq_append (xs ys : Array Value) : ∀ (l r : List (Nat × LK)) (b : Bool), vEq xs ys (l ++ r) = some b → ∃ c d, vEq xs ys l = some c ∧ vEq xs ys r = some d ∧ b = (c && d)
  | [], r, b, h => ⟨true, b, rfl, h, by simp⟩
  | (i, k) :: l, r, b, h => by
    rw [List.cons_append, vEq] at h
    rw [vEq]
    split at h
    · rename_i x y hx hy
      simp only [Option.bind_eq_some_iff, Option.map_eq_some_iff] at h
      obtain ⟨c, hc, d, hd, rfl⟩ := h
      obtain ⟨c', d', e1, e2, rfl⟩ := vEq_append xs ys l r d hd
      exact ⟨c && c', d', by simp [hc, e1], e2, by rw [Bool.and_assoc]⟩
    · cases h
theorem vEq_shift (xs ys : Array Value) (o n : Nat) : ∀ (l : List (Nat × LK)), l.all (fun l => decide (l.1 < n)) = true → vEq xs ys (l.map fun l => (o + l.1, l.2)) = vEq (xs.extract o (o + n)) (ys.extract o (o + n)) l
  | [], _ => rfl
  | (i, k) :: l, h => by
    simp only [List.all_cons, Bool.and_eq_true, decide_eq_true_eq] at h
    have e : ∀ zs : Array Value, (zs.extract o (o + n))[i]? = zs[o + i]? := fun zs => by
      rw [Array.getElem?_extract]
      by_cases hz : i < min (o + n) zs.size - o
      · rw [if_pos hz]
      · rw [if_neg hz, Array.getElem?_eq_none (by omega)]
    rw [List.map_cons, vEq, vEq, vEq_shift xs ys o n l h.2, e, e]
theorem run_eqFields {P : Program} (w : World) (go : TypeId → Option (List (Nat × LK))) (m : Nat) (xs ys : Array Value)
    (hgo : ∀ t ls, go t = some ls → (∀ us vs b, vEq us vs ls = some b → isAggT P t = some true → (Op.equalIn m t (.agg us) (.agg vs)).run P w = .ok b w) ∧ (∀ u v b k, ls = [(0, k)] → vLeaf k u v = some b → isAggT P t = some false → (Op.equalIn m t u v).run P w = .ok b w) ∧ (isAggT P t = some true ∨ isAggT P t = some false ∧ ∃ k, ls = [(0, k)])) :
    ∀ (fs : List Field) (ls : List (Nat × LK)) (b : Bool), leavesF P go fs = some ls → vEq xs ys ls = some b → (Op.eqFields m xs ys fs).run P w = .ok b w
  | [], ls, b, h, hb => by cases h; cases hb; simp [Op.eqFields]
  | f :: fs, ls, b, h, hb => by
    rw [leavesF] at h
    split at h
    · rename_i hn
      rw [Op.eqFields, if_neg (by simpa using hn)]
      exact run_eqFields w go m xs ys hgo fs ls b h hb
    · rename_i hn
      simp only [Option.bind_eq_some_iff] at h
      obtain ⟨a, ha, n, hsz, c, hc, h⟩ := h
      split at h
      · rename_i hall
        cases h
        obtain ⟨b1, b2, e1, e2, rfl⟩ := vEq_append _ _ _ _ _ hb
        have rest := run_eqFields w go m xs ys hgo fs c b2 hc e2
        obtain ⟨g1, g2, g3⟩ := hgo _ _ ha
        have step : ∀ u v, (part f.type xs f.offset).run P w = .ok u w → (part f.type ys f.offset).run P w = .ok v w → (Op.equalIn m f.type u v).run P w = .ok b1 w → (Op.eqFields m xs ys (f :: fs)).run P w = .ok (b1 && b2) w := fun u v hu hv he => by
          rw [Op.eqFields]
          simp only [if_pos (show f.name ≠ "_" from hn), Sem.run_bind, hu, hv, he, Result.andThen_ok]
          cases b1
          · simp
          · simpa using rest
        rcases g3 with ht | ⟨ht, k, rfl⟩
        · rw [vEq_shift _ _ _ _ _ hall] at e1
          refine step _ _ ?_ ?_ (g1 _ _ _ e1 ht)
          · simp [part, run_isAgg ht, run_sizeOf' hsz]
          · simp [part, run_isAgg ht, run_sizeOf' hsz]
        · simp only [List.map_cons, List.map_nil, Nat.add_zero, vEq] at e1
          split at e1
          · rename_i x y hx hy
            simp only [Option.map_some, Bool.and_true, Option.bind_eq_some_iff] at e1
            obtain ⟨b', hb', e1⟩ := e1
            cases e1
            refine step x y ?_ ?_ (g2 _ _ _ _ rfl hb' ht)
            · simp [part, run_isAgg ht, hx]
            · simp [part, run_isAgg ht, hy]
          · cases e1
      · cases h
theorem run_leaves {P : Program} (w : World) : ∀ (n j : Nat) (t : TypeId) (ls : List (Nat × LK)), leavesT P n t = some ls → (∀ us vs b, vEq us vs ls = some b → isAggT P t = some true → (Op.equalIn (n + j) t (.agg us) (.agg vs)).run P w = .ok b w) ∧ (∀ u v b k, ls = [(0, k)] → vLeaf k u v = some b → isAggT P t = some false → (Op.equalIn (n + j) t u v).run P w = .ok b w) ∧ (isAggT P t = some true ∨ isAggT P t = some false ∧ ∃ k, ls = [(0, k)])
  | 0, j, t, ls, h => by cases h
  | n + 1, j, t, ls, h => by
    simp only [leavesT, Option.bind_eq_some_iff] at h
    obtain ⟨d, hd, h⟩ := h
    have scalar : ∀ k, ls = [(0, k)] → isAggT P t = some false → (∀ u v b, vLeaf k u v = some b → (Op.equalIn (n + 1 + j) t u v).run P w = .ok b w) → _ := fun k e1 e2 e3 =>
      (⟨fun us vs b _ ha => (by rw [e2] at ha; cases ha), fun u v b k' ek hv _ => (by rw [e1] at ek; cases ek; exact e3 u v b hv), .inr ⟨e2, k, e1⟩⟩ :
        (∀ us vs b, vEq us vs ls = some b → isAggT P t = some true → (Op.equalIn (n + 1 + j) t (.agg us) (.agg vs)).run P w = .ok b w) ∧ (∀ u v b k, ls = [(0, k)] → vLeaf k u v = some b → isAggT P t = some false → (Op.equalIn (n + 1 + j) t u v).run P w = .ok b w) ∧ (isAggT P t = some true ∨ isAggT P t = some false ∧ ∃ k, ls = [(0, k)]))
    have en : n + 1 + j = (n + j) + 1 := by omega
    split at h
    · cases h
      refine scalar .b rfl (by simp [isAggT, hd]) fun u v b hv => ?_
      rw [en]
      obtain ⟨x, y, rfl, rfl, rfl⟩ := vLeaf_b hv
      exact run_equalIn_bool w _ t _ _ hd
    · cases h
      refine scalar .i rfl (by simp [isAggT, hd]) fun u v b hv => ?_
      rw [en]
      obtain ⟨k, x, y, rfl, rfl, rfl⟩ := vLeaf_i hv
      exact run_equalIn_int w _ t k _ x y hd
    · cases h
      refine scalar .s rfl (by simp [isAggT, hd]) fun u v b hv => ?_
      rw [en]
      obtain ⟨x, y, rfl, rfl, rfl⟩ := vLeaf_s hv
      rw [run_equalIn_string w _ t x y hd, toList_beq]
    · rename_i fs
      split at h
      · cases h
      · rename_i hp
        refine ⟨fun us vs b hv ha => ?_, fun u v b k ek hv ha => ?_, .inl (by simp [isAggT, hd])⟩
        · rw [en]
          have hf : P.fieldsOf t = fs := by simp only [Program.fieldsOf, hd]
          rw [run_equalIn_struct w (n + j) t us vs (by rw [hf]; exact hd) (by simpa using hp), hf]
          exact run_eqFields w (leavesT P n) (n + j) us vs (fun t' ls' h' => run_leaves w n j t' ls' h') _ _ _ h hv
        · simp [isAggT, hd] at ha
    · cases h
theorem eqst_ok {P : Program} {op : BinOp} (hop : eqLike op = true) {t : TypeId} {fs : Array Field} (ht : P.underlying t = some (.struct fs)) (hg : P.eqGuardType P.depth t = false) {ls : List (Nat × LK)} (hl : leavesT P 50 t = some ls) {xs ys : List AV} {b : Bool} (h : leavesEq xs ys ls = some b)
    {Im : Imm} {ρ : List Loc} {u v : Value} (hu : VR Im ρ (.agg xs) u) (hv : VR Im ρ (.agg ys) v) (ox oy : Operand) (w : World) : (do eqGuard op t ox oy u v; binOp op t u v : Sem Value).run P w = .ok (.bool (b != (op == .neq))) w := by
  cases hu with
  | agg arr f hl1 h1 h2 =>
    cases hv with
    | agg brr g hl2 h3 h4 =>
      have he : (Op.equalIn 10000 t (.agg arr) (.agg brr)).run P w = .ok b w := (run_leaves w 50 9950 t ls hl).1 _ _ _ (vEq_of (Im := Im) (ρ := ρ) ⟨hl1, f, h1, h2⟩ ⟨hl2, g, h3, h4⟩ ls b h) (by simp [isAggT, ht])
      rw [Sem.run_bind, run_eqGuard_agg w op t ox oy arr brr hg, Result.andThen_ok]
      cases op <;> first | (simp [eqLike] at hop; done) | skip
      · rw [run_eql_struct, he]; cases b <;> rfl
      · rw [run_neq_struct, he]; cases b <;> rfl

theorem vrs_cv {Im : Imm} {ρ : List Loc} : ∀ {as : List AV} {us : List Value}, VRs Im ρ as us → CV Im ρ as us.toArray
  | [], [], _ => CV.mk rfl (fun i a hi => by simp at hi)
  | a :: as, u :: us, h => by
    have h2 := vrs_cv h.2
    refine CV.mk (by have := h2.1; simp at this ⊢; exact this) fun i b hi => ?_
    cases i with
    | zero => simp at hi; subst hi; exact ⟨u, by simp, h.1⟩
    | succ i =>
      obtain ⟨v, hv1, hv2⟩ := h2.at (i := i) (a := b) (by simpa using hi)
      exact ⟨v, by simpa using hv1, hv2⟩
  | [], _ :: _, h => h.elim
  | _ :: _, [], h => h.elim
/-! ### all of them -/
theorem do_value {P : Program} {s : Sem Value} {y : Value} {w : World} (h : s.run P w = .ok y w) : (do pure (.value (← s)) : Sem Next).run P w = .ok (.value y) w := by
  rw [Sem.run_bind, h]
  rfl
theorem bnd_mx {Im : Imm} {ρ : List Loc} {e : Env} {o o' : Option Operand} {x x' : Option AX} {a a' : Option AV} (hc : cxo o = some x) (h : evO e x = some a) (hc' : cxo o' = some x') (h' : evO e x' = some a') (hn : ¬ (x.isSome = true ∧ x'.isNone = true)) : a.isSome = true → a'.isSome = true := fun ha => by
  cases x with
  | none => cases h; simp at ha
  | some x =>
    cases x' with
    | none => simp at hn
    | some x' =>
      simp only [evO, Option.map_eq_some_iff] at h'
      obtain ⟨b, _, rfl⟩ := h'
      rfl
theorem run_min {P : Program} {v : Value} {vs : List Value} {y : Value} {ts : Array TypeId} {ty : TypeId} {w : World} (h : (vs.foldlM Builtin.min2 v).run P w = .ok y w) : (Builtin.min_ ts ty (v :: vs).toArray).run P w = .ok y w := h
theorem run_max {P : Program} {v : Value} {vs : List Value} {y : Value} {ts : Array TypeId} {ty : TypeId} {w : World} (h : (vs.foldlM Builtin.max2 v).run P w = .ok y w) : (Builtin.max_ ts ty (v :: vs).toArray).run P w = .ok y w := h
theorem aFold_cons {f : AV → AV → Option AV} {l : List AV} {r : AV} (h : aFold f l = some r) : ∃ a as, l = a :: as ∧ aFoldL f a as = some r := by
  cases l with
  | nil => simp [aFold] at h
  | cons a as => exact ⟨a, as, rfl, h⟩

/-- An operation that leaves memory alone yields the same value in every world in which the old blocks are as they were. -/
def YieldsQ (P : Program) (Im : Imm) (ρ : List Loc) (Ω : List Obj) (o : Oper) (act : Act) (w : World) (r : AV) : Prop := ∃ y, VR Im ρ r y ∧ ∀ w', SameK Im ρ Ω w w' → (execOp act.eval o).run P w' = .ok (.value y) w'
theorem aq_ok {P : Program} {o : Oper} {ao : AO} (hc : compOp P o = some ao) {Im : Imm} {ρ : List Loc} {Ω : List Obj} {w : World} (hR : Rel Im ρ Ω w) {e : Env} {act : Act} (hE : EnvOK Im ρ e act) {r : AV} (h : aq e Ω ao = some r) : YieldsQ P Im ρ Ω o act w r := by
  have val : ∀ (s : Sem Value), execOp act.eval o = (do pure (.value (← s)) : Sem Next) → (∃ y, VR Im ρ r y ∧ ∀ w', SameK Im ρ Ω w w' → s.run P w' = .ok y w') → YieldsQ P Im ρ Ω o act w r := fun s hs ⟨y, hy, hr⟩ => ⟨y, hy, fun w' h' => by rw [hs]; exact do_value (hr w' h')⟩
  have val' : ∀ (s : Sem Value), execOp act.eval o = (do pure (.value (← s)) : Sem Next) → (∃ y, VR Im ρ r y ∧ ∀ w', s.run P w' = .ok y w') → YieldsQ P Im ρ Ω o act w r := fun s hs ⟨y, hy, hr⟩ => val s hs ⟨y, hy, fun w' _ => hr w'⟩
  have hc0 := hc
  cases ho : o.op with
  | move x =>
    simp only [compOp, ho, Option.map_eq_some_iff] at hc
    obtain ⟨ax, hx, rfl⟩ := hc
    exact ⟨_, ev_ok hE hx h, fun w' _ => by simp [execOp, ho]⟩
  | assign x =>
    simp only [compOp, ho, Option.map_eq_some_iff] at hc
    obtain ⟨ax, hx, rfl⟩ := hc
    exact ⟨_, ev_ok hE hx h, fun w' _ => by simp [execOp, ho]⟩
  | pick c a b =>
    simp only [compOp, ho, Option.bind_eq_some_iff] at hc
    obtain ⟨xc, h1, xa, h2, xb, h3, hc⟩ := hc
    cases hc
    simp only [aq, Option.bind_eq_some_iff] at h
    obtain ⟨vc, e1, va, e2, vb, e3, h⟩ := h
    obtain ⟨y, hy, hr⟩ := aPick_ok (P := P) h (ev_ok hE h1 e1) (ev_ok hE h2 e2) (ev_ok hE h3 e3)
    exact ⟨y, hy, fun w' _ => by simp only [execOp, ho]; exact hr w'⟩
  | binOp op t x y t' =>
    simp only [compOp, ho, Option.bind_eq_some_iff] at hc
    obtain ⟨ax, h1, ay, h2, d, hd, hc⟩ := hc
    have hex : execOp act.eval o = (do pure (.value (← (do eqGuard op t x y (act.eval x) (act.eval y); binOp op t (act.eval x) (act.eval y) : Sem Value))) : Sem Next) := by simp only [execOp, ho]
    refine val' _ hex ?_
    have boolRes : ∀ b, r = .v (.bool b) → (∀ w', (do eqGuard op t x y (act.eval x) (act.eval y); binOp op t (act.eval x) (act.eval y) : Sem Value).run P w' = .ok (.bool b) w') → ∃ y_1, VR Im ρ r y_1 ∧ ∀ w', (do eqGuard op t x y (act.eval x) (act.eval y); binOp op t (act.eval x) (act.eval y) : Sem Value).run P w' = .ok y_1 w' := fun b hb hw => ⟨_, hb ▸ .v rfl, hw⟩
    split at hc
    · cases hc
      simp only [aq, Option.bind_eq_some_iff] at h
      obtain ⟨vx, e1, vy, e2, h⟩ := h
      exact aBin_ok h t (ev_ok hE h1 e1) (ev_ok hE h2 e2) x y
    · cases hc
      simp only [aq, Option.bind_eq_some_iff] at h
      obtain ⟨vx, e1, vy, e2, h⟩ := h
      exact aBin_ok h t (ev_ok hE h1 e1) (ev_ok hE h2 e2) x y
    · split at hc
      · rename_i hop
        cases hc
        simp only [aq, Option.bind_eq_some_iff, Option.map_eq_some_iff] at h
        obtain ⟨vx, e1, vy, e2, b, hb, rfl⟩ := h
        exact boolRes _ rfl fun w' => aEqB_ok hop hb hd (ev_ok hE h1 e1) (ev_ok hE h2 e2) x y w'
      · cases hc
    · split at hc
      · rename_i hop
        cases hc
        simp only [aq, Option.bind_eq_some_iff, Option.map_eq_some_iff] at h
        obtain ⟨vx, e1, vy, e2, b, hb, rfl⟩ := h
        exact boolRes _ rfl fun w' => aEqP_ok hop hb hd (ev_ok hE h1 e1) (ev_ok hE h2 e2) x y w'
      · cases hc
    · split at hc
      · rename_i hop
        cases hc
        simp only [aq, Option.bind_eq_some_iff, Option.map_eq_some_iff] at h
        obtain ⟨vx, e1, vy, e2, b, hb, rfl⟩ := h
        exact boolRes _ rfl fun w' => aEqS_ok hop hb hd (ev_ok hE h1 e1) (ev_ok hE h2 e2) x y w'
      · cases hc
    · split at hc
      · rename_i hop
        simp only [Bool.and_eq_true, Bool.not_eq_true'] at hop
        simp only [Option.bind_eq_some_iff] at hc
        obtain ⟨ls, hls, hc⟩ := hc
        cases hc
        simp only [aq, Option.bind_eq_some_iff] at h
        obtain ⟨vx, e1, vy, e2, h⟩ := h
        split at h
        · simp only [Option.map_eq_some_iff] at h
          obtain ⟨b, hb, rfl⟩ := h
          exact boolRes _ rfl fun w' => eqst_ok hop.1 hd hop.2 hls hb (ev_ok hE h1 e1) (ev_ok hE h2 e2) x y w'
        · cases h
      · cases hc
    · cases hc
  | unOp op t x =>
    simp only [compOp, ho, Option.map_eq_some_iff] at hc
    obtain ⟨ax, hx, rfl⟩ := hc
    simp only [aq, Option.bind_eq_some_iff] at h
    obtain ⟨vx, e1, h⟩ := h
    exact val' _ (by simp only [execOp, ho]) (aUn_ok h (ev_ok hE hx e1))
  | load t x =>
    simp only [compOp, ho, Option.bind_eq_some_iff] at hc
    obtain ⟨m, hm, ax, hx, hc⟩ := hc
    cases hc
    simp only [aq, Option.bind_eq_some_iff] at h
    obtain ⟨vx, e1, h⟩ := h
    exact val _ (by simp only [execOp, ho]) (aLoad_ok hm hR (ev_ok hE hx e1) h)
  | field t x f =>
    simp only [compOp, ho, Option.bind_eq_some_iff] at hc
    obtain ⟨d, hd, hc⟩ := hc
    split at hc
    · rename_i fs
      simp only [Option.bind_eq_some_iff] at hc
      obtain ⟨fd, hf, m, hm, ax, hx, hc⟩ := hc
      cases hc
      simp only [aq, Option.bind_eq_some_iff] at h
      obtain ⟨vx, e1, h⟩ := h
      obtain ⟨cs, hcs, y, hy, hr⟩ := aField_ok (P := P) hm h (ev_ok hE hx e1)
      exact val' (Instr.field t (act.eval x) f) (by simp only [execOp, ho]) ⟨y, hy, fun w' => by simp [Instr.field, run_underlying hd, hf, hcs, asAgg, hr]⟩
    · cases hc
  | fieldAddr t x f =>
    simp only [compOp, ho, Option.bind_eq_some_iff] at hc
    obtain ⟨d, hd, hc⟩ := hc
    split at hc
    · rename_i fs
      simp only [Option.bind_eq_some_iff] at hc
      obtain ⟨fd, hf, n, hn, hc⟩ := hc
      split at hc
      · cases hc
      · rename_i hn0
        simp only [Option.bind_eq_some_iff] at hc
        obtain ⟨ax, hx, hc⟩ := hc
        cases hc
        simp only [aq, Option.bind_eq_some_iff] at h
        obtain ⟨vx, e1, h⟩ := h
        obtain ⟨b, off, hp, hr⟩ := aFad_ok h (ev_ok hE hx e1)
        exact val' (Instr.fieldAt t (act.eval x) f) (by simp only [execOp, ho]) ⟨_, hr, fun w' => by simp [Instr.fieldAt, run_underlying hd, hf, hp, Instr.sureAddr, fieldPlace, run_sizeOf' hn, hn0, add_at]⟩
    · cases hc
  | nilCheck x =>
    simp only [compOp, ho, Option.map_eq_some_iff] at hc
    obtain ⟨ax, hx, rfl⟩ := hc
    simp only [aq, Option.bind_eq_some_iff] at h
    obtain ⟨vx, e1, h⟩ := h
    obtain ⟨hv, a, ha⟩ := aNilck_ok (P := P) h (ev_ok hE hx e1)
    exact ⟨_, hv, fun w' _ => by simp only [execOp, ho, ha]; rfl⟩
  | indexAddr t x i =>
    simp only [compOp, ho, Option.bind_eq_some_iff] at hc
    obtain ⟨ax, hx, ai, hi, d, hd, hc⟩ := hc
    split at hc
    · simp only [Option.bind_eq_some_iff] at hc
      obtain ⟨n, hn, hc⟩ := hc
      cases hc
      simp only [aq, Option.bind_eq_some_iff] at h
      obtain ⟨vx, e1, vi, e2, h⟩ := h
      exact val' _ (by simp only [execOp, ho]) (aIxS_ok hd hn h (ev_ok hE hx e1) (ev_ok hE hi e2))
    · simp only [Option.bind_eq_some_iff] at hc
      obtain ⟨n, hn, hc⟩ := hc
      cases hc
      simp only [aq, Option.bind_eq_some_iff] at h
      obtain ⟨vx, e1, vi, e2, h⟩ := h
      exact val' _ (by simp only [execOp, ho]) (aIxA_ok hd hn h (ev_ok hE hx e1) (ev_ok hE hi e2))
    · cases hc
  | index t x i =>
    simp only [compOp, ho, Option.bind_eq_some_iff] at hc
    obtain ⟨ax, hx, ai, hi, d, hd, hc⟩ := hc
    split at hc
    · cases hc
      simp only [aq, Option.bind_eq_some_iff] at h
      obtain ⟨vx, e1, vi, e2, h⟩ := h
      exact val' _ (by simp only [execOp, ho]) (aIxStr_ok hd h (ev_ok hE hx e1) (ev_ok hE hi e2))
    · simp only [Option.bind_eq_some_iff] at hc
      obtain ⟨n, hn, m, hm, hc⟩ := hc
      cases hc
      simp only [aq, Option.bind_eq_some_iff] at h
      obtain ⟨vx, e1, vi, e2, h⟩ := h
      exact val' _ (by simp only [execOp, ho]) (aIxV_ok hd hn hm h (ev_ok hE hx e1) (ev_ok hE hi e2))
    · cases hc
  | extract x i =>
    simp only [compOp, ho, Option.map_eq_some_iff] at hc
    obtain ⟨ax, hx, rfl⟩ := hc
    simp only [aq, Option.bind_eq_some_iff] at h
    obtain ⟨vx, e1, h⟩ := h
    exact val' _ (by simp only [execOp, ho]) (aExt_ok h (ev_ok hE hx e1))
  | convert s d x =>
    simp only [compOp, ho, Option.bind_eq_some_iff] at hc
    obtain ⟨ax, hx, su, hs, du, hd, hc⟩ := hc
    split at hc
    · cases hc
      simp only [aq, Option.bind_eq_some_iff] at h
      obtain ⟨vx, e1, h⟩ := h
      exact val' _ (by simp only [execOp, ho]) (aCvi_ok hs hd h (ev_ok hE hx e1))
    · cases hc
      simp only [aq, Option.bind_eq_some_iff] at h
      obtain ⟨vx, e1, h⟩ := h
      exact val' _ (by simp only [execOp, ho]) (aCvs_ok hs hd h (ev_ok hE hx e1))
    · split at hc
      · cases hc
        simp [aq] at h
      · cases hc
    · split at hc
      · rename_i he
        cases hc
        have h' := h
        simp only [aq, Option.bind_eq_some_iff] at h'
        obtain ⟨vx, e1, _⟩ := h'
        exact val _ (by simp only [execOp, ho]) (cvbs_ok hs he hd hR e1 (ev_ok hE hx e1) h)
      · cases hc
    · cases hc
  | slice t x lo hi mx =>
    simp only [compOp, ho, Option.bind_eq_some_iff] at hc
    obtain ⟨ax, hx, al, hl, ah, hh, am, hm, d, hd, hc⟩ := hc
    split at hc
    · split at hc
      · rename_i hmn
        cases hc
        simp only [aq, Option.bind_eq_some_iff] at h
        obtain ⟨vx, e1, vl, e2, vh, e3, h⟩ := h
        have hmx : mx = none := by
          cases mx with
          | none => rfl
          | some m => simp only [cxo, Option.map_eq_some_iff] at hm; obtain ⟨z, _, rfl⟩ := hm; simp at hmn
        subst hmx
        exact val' _ (by simp only [execOp, ho]; rfl) (aSlStr_ok hd h (ev_ok hE hx e1) (evO_ok hE hl e2) (evO_ok hE hh e3))
      · cases hc
    · simp only [Option.bind_eq_some_iff] at hc
      obtain ⟨n, hn, hc⟩ := hc
      split at hc
      · cases hc
      · rename_i hb
        cases hc
        simp only [aq, Option.bind_eq_some_iff] at h
        obtain ⟨vx, e1, vl, e2, vh, e3, vm, e4, h⟩ := h
        exact val' _ (by simp only [execOp, ho]) (aSlS_ok hd hn hR (bnd_mx (Im := Im) (ρ := ρ) hm e4 hh e3 hb) h (ev_ok hE hx e1) (evO_ok hE hl e2) (evO_ok hE hh e3) (evO_ok hE hm e4))
    · cases hc
  | build t parts => exact val' _ (by simp only [execOp, ho]) (build_ok ho hc0 hE h)
  | call c =>
    simp only [compOp, ho, Option.bind_eq_some_iff] at hc
    obtain ⟨xs, hxs, hc⟩ := hc
    split at hc
    · simp only [Option.bind_eq_some_iff] at hc
      obtain ⟨f, hf, hc⟩ := hc
      cases hc
      simp [aq] at h
    · cases hc
    · rename_i bi hcal
      have hargs : (c.args.map act.eval).toList = c.args.toList.map act.eval := Array.toList_map
      have hex : ∀ b, bi = b → execOp act.eval o = builtin b c.argTypes o.type (c.args.map fun | .const _ => true | _ => false) (c.args.map act.eval) := fun b hb => by subst hb; simp only [execOp, ho, resolve, hcal, invoke, pure_bind]; rfl
      split at hc
      · rename_i t ts x hts
        have ht0 : c.argTypes[0]? = some t := by rw [← Array.getElem?_toList, hts]; rfl
        simp only [Option.bind_eq_some_iff] at hc
        obtain ⟨d, hd, hc⟩ := hc
        have hone : ∃ u, c.args.map act.eval = #[u] ∧ ∀ a, ev e x = some a → VR Im ρ a u := by
          cases ha : c.args.toList with
          | nil => rw [ha] at hxs; cases hxs
          | cons p ps =>
            rw [ha] at hxs
            simp only [cxs, Option.bind_eq_some_iff] at hxs
            obtain ⟨b, hb, bs, hbs, hxs⟩ := hxs
            injection hxs with hxs
            injection hxs with e1 e2
            subst e1 e2
            cases ps with
            | nil =>
              refine ⟨act.eval p, ?_, fun a hea => ev_ok hE hb hea⟩
              apply Array.ext'
              rw [Array.toList_map, ha]
              rfl
            | cons q qs =>
              simp only [cxs, Option.bind_eq_some_iff] at hbs
              obtain ⟨_, _, _, _, hbs⟩ := hbs
              cases hbs
        obtain ⟨u, hu, hv⟩ := hone
        split at hc
        · cases hc
          simp only [aq, Option.bind_eq_some_iff] at h
          obtain ⟨vx, e1, h⟩ := h
          obtain ⟨y, hy, hr⟩ := aLenS_ok (P := P) (ty := o.type) ht0 hd h (hv _ e1)
          exact ⟨y, hy, fun w' _ => by rw [hex _ rfl, hu]; exact do_value (hr w')⟩
        · cases hc
          simp only [aq, Option.bind_eq_some_iff] at h
          obtain ⟨vx, e1, h⟩ := h
          obtain ⟨y, hy, hr⟩ := aLen_ok (P := P) (ty := o.type) ht0 hd h (hv _ e1)
          exact ⟨y, hy, fun w' _ => by rw [hex _ rfl, hu]; exact do_value (hr w')⟩
        · cases hc
      · cases hc
        simp only [aq, Option.bind_eq_some_iff] at h
        obtain ⟨l, hl, h⟩ := h
        have hvs := evs_ok hE _ _ _ hxs hl
        obtain ⟨a, as, rfl, h⟩ := aFold_cons h
        rw [← hargs] at hvs
        cases hm : (c.args.map act.eval).toList with
        | nil => rw [hm] at hvs; exact hvs.elim
        | cons v vs =>
          rw [hm] at hvs
          obtain ⟨y, hy, hr⟩ := aFold_ok (P := P) (fun a b r u v => aMin2_ok) as a v vs r h hvs.1 hvs.2
          have he : c.args.map act.eval = (v :: vs).toArray := Array.ext' hm
          exact ⟨y, hy, fun w' _ => by rw [hex _ rfl, he]; exact do_value (run_min (hr w'))⟩
      · cases hc
        simp only [aq, Option.bind_eq_some_iff] at h
        obtain ⟨l, hl, h⟩ := h
        have hvs := evs_ok hE _ _ _ hxs hl
        obtain ⟨a, as, rfl, h⟩ := aFold_cons h
        rw [← hargs] at hvs
        cases hm : (c.args.map act.eval).toList with
        | nil => rw [hm] at hvs; exact hvs.elim
        | cons v vs =>
          rw [hm] at hvs
          obtain ⟨y, hy, hr⟩ := aFold_ok (P := P) (fun a b r u v => aMax2_ok) as a v vs r h hvs.1 hvs.2
          have he : c.args.map act.eval = (v :: vs).toArray := Array.ext' hm
          exact ⟨y, hy, fun w' _ => by rw [hex _ rfl, he]; exact do_value (run_max (hr w'))⟩
      · simp only [Option.bind_eq_some_iff] at hc
        obtain ⟨d, hd, hc⟩ := hc
        split at hc
        · simp only [Option.bind_eq_some_iff] at hc
          obtain ⟨i, hi, z, hz, u, hu, hc⟩ := hc
          split at hc
          · cases hc
            simp [aq] at h
          · cases hc
        · cases hc
      · simp only [Option.bind_eq_some_iff] at hc
        obtain ⟨d, hd, hc⟩ := hc
        split at hc
        · simp only [Option.bind_eq_some_iff] at hc
          obtain ⟨i, hi, hc⟩ := hc
          cases hc
          simp [aq] at h
        · cases hc
      · simp only [Option.bind_eq_some_iff] at hc
        obtain ⟨d, hd, hc⟩ := hc
        split at hc
        · simp only [Option.bind_eq_some_iff] at hc
          obtain ⟨n, hn, z, hz, hc⟩ := hc
          split at hc
          · cases hc
            simp [aq] at h
          · cases hc
        · cases hc
      · cases hc
  | makeFunc f first captured =>
    simp only [compOp, ho] at hc
    split at hc
    case h_2 => cases hc
    rename_i g
    split at hc
    case isFalse => cases hc
    rename_i hfirst
    simp only [Option.map_eq_some_iff] at hc
    obtain ⟨xs, hxs, rfl⟩ := hc
    simp only [aq, Option.bind_eq_some_iff] at h
    obtain ⟨l, hl, h⟩ := h
    split at h
    case isFalse => cases h
    cases h
    have hvs := evs_ok hE _ _ _ hxs hl
    have hf0 : first = #[] := by simpa using hfirst
    refine ⟨.func (.func g) #[] (captured.map act.eval), ?_, fun w' _ => by simp [execOp, ho, Instr.makeFunc, hf0]⟩
    have hcv := vrs_cv hvs
    obtain ⟨h1, f, h2, h3⟩ := hcv
    have ha : (captured.toList.map act.eval).toArray = captured.map act.eval := by apply Array.ext'; simp
    rw [ha] at h1 h2
    exact .fn _ f h1 h2 h3
  | store t a x =>
    simp only [compOp, ho, Option.bind_eq_some_iff] at hc
    obtain ⟨n, hn, ax, hx, ay, hy, hc⟩ := hc
    cases hc
    simp [aq] at h
  | box t x =>
    simp only [compOp, ho, Option.map_eq_some_iff] at hc
    obtain ⟨ax, hx, rfl⟩ := hc
    simp [aq] at h
  | alloc t =>
    simp only [compOp, ho, Option.map_eq_some_iff] at hc
    obtain ⟨z, hz, rfl⟩ := hc
    simp [aq] at h
  | buildSlice t len parts =>
    simp only [compOp, ho, Option.bind_eq_some_iff] at hc
    obtain ⟨d, hd, hc⟩ := hc
    split at hc
    · simp only [Option.bind_eq_some_iff] at hc
      obtain ⟨n, hn, z, hz, hc⟩ := hc
      split at hc
      · simp only [Option.bind_eq_some_iff] at hc
        obtain ⟨ps, hps, hc⟩ := hc
        cases hc
        simp [aq] at h
      · cases hc
    · cases hc
  | makeSlice t l c =>
    simp only [compOp, ho, Option.bind_eq_some_iff] at hc
    obtain ⟨al, hl, ac, hcc, d, hd, hc⟩ := hc
    split at hc
    · simp only [Option.bind_eq_some_iff] at hc
      obtain ⟨i, hi, z, hz, hc⟩ := hc
      split at hc
      · cases hc; simp [aq] at h
      · cases hc
    · cases hc
  | _ => simp [compOp, ho] at hc
end Go.Proofs.Ytkaigdfklihlcaa.Sym
