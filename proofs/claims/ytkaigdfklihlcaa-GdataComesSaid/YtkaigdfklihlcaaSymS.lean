/- What a law is given, as the abstract machine has it. -/
import Derived.Test.YtkaigdfklihlcaaSymQ
import Derived.ChangeArms
import Derived.SizedLaws
import Derived.OpenShut
import Derived.DataReads
import Derived.Below
import Derived.Carry
namespace Go.Proofs.Ytkaigdfklihlcaa.Sym
open Go
set_option linter.unusedVariables false
set_option linter.unusedSimpArgs false

/-- All blocks that are there. -/
def ImOf (w : World) : Imm := fun b => match w.heap[b]? with
  | some (.cells arr _ _) => some arr
  | _ => none
theorem cell_im {w : World} {a : Addr} {v : Value} (h : w.cell? a = some v) : ∃ arr, ImOf w a.block = some arr ∧ arr[a.off]? = some v ∧ a.spot = none := by
  have hs := World.cell?_spot h
  unfold World.cell? at h
  unfold ImOf
  split at h
  · rename_i c T fz hb
    rw [hb]
    rw [hs] at h
    exact ⟨c, rfl, by simpa using h, hs⟩
  · cases h
theorem rel_im (w : World) : Rel (ImOf w) [] [] w where
  len := rfl
  im := fun b arr h => by
    unfold ImOf at h
    split at h
    · rename_i c T fz hb
      cases h
      exact ⟨T, fz, hb⟩
    · cases h
  obj := fun k o h => by simp at h
  atoms := fun k o h => by simp at h
  flat := fun k o h => by simp at h
  sep := fun k k' o o' b s1 s2 b' s1' s2' h => by simp at h

/-- Cells. -/
structure VC (Im : Imm) (as : List AV) (cs : List Value) : Prop where
  len : as.length = cs.length
  at_ : ∀ (i : Nat) a, as[i]? = some a → atom a = true
  val : ∀ (i : Nat) a, as[i]? = some a → ∃ x, cs[i]? = some x ∧ VR Im [] a x
theorem VC.append {Im : Imm} {as bs : List AV} {cs ds : List Value} (h : VC Im as cs) (h' : VC Im bs ds) : VC Im (as ++ bs) (cs ++ ds) := by
  refine ⟨by rw [List.length_append, List.length_append, h.len, h'.len], fun i a hi => ?_, fun i a hi => ?_⟩
  · rw [List.getElem?_append] at hi
    split at hi
    · exact h.at_ _ _ hi
    · exact h'.at_ _ _ hi
  · rw [List.getElem?_append] at hi ⊢
    rw [← h.len]
    split at hi
    · rename_i hlt
      rw [if_pos hlt]
      exact h.val _ _ hi
    · rename_i hlt
      rw [if_neg hlt]
      exact h'.val _ _ hi
theorem VC.one {Im : Imm} {a : AV} {x : Value} (ha : atom a = true) (h : VR Im [] a x) : VC Im [a] [x] := by
  refine ⟨rfl, fun i b hi => ?_, fun i b hi => ?_⟩
  all_goals
    cases i with
    | zero => simp at hi; subst hi; first | exact ha | exact ⟨x, rfl, h⟩
    | succ i => simp at hi
theorem VC.head {Im : Imm} {a : AV} {x : Value} (h : VC Im [a] [x]) : VR Im [] a x := by
  obtain ⟨y, hy, hv⟩ := h.val 0 a rfl
  cases hy
  exact hv
theorem VC.agg {Im : Imm} {as : List AV} {cs : Array Value} (h : VC Im as cs.toList) : VR Im [] (.agg as) (.agg cs) := by
  refine .agg cs (fun i => (cs[i]?).getD undef) (by rw [h.len]; simp) (fun i a hi => ?_) (fun i a hi => ?_)
  all_goals
    obtain ⟨x, hx, hv⟩ := h.val i a hi
    rw [Array.getElem?_toList] at hx
    rw [hx]
  · rfl
  · exact hv

/-- What a value of a type reads as: something of α, with so many cells. -/
structure Rd {α : Type} (P : Program) (t : TypeId) (n : Nat) (av : α → List AV) (Q : α → Prop) : Prop where mk ::
  sz : ∀ v, (av v).length = n
  out : ∀ {H : Type} (enc : TypeId × Value → H) (w : World) (fuel : Nat) (held : Bool) (cs : List Value) (x : DataW H × List MemPlace),
    DataW.trod enc P w 0 (fun _ => true) held fuel t cs = some x → (∀ n, n ∈ x.1.weights P t → n ≤ 140737488351232) → ∃ v, VC (ImOf w) (av v) cs ∧ Q v
theorem rd_int {P : Program} {t : TypeId} {k : IntKind} (ht : P.underlying t = some (.int k)) : Rd P t 1 (fun v => [.v (.int k v)]) (fun v => (Lit.int k v).wf = true) := ⟨fun _ => rfl,
  fun {H} enc w fuel held cs x hx _ => by
    obtain ⟨n, rfl, rfl, hw⟩ := DataW.trod_int ht hx
    exact ⟨n, .one rfl (.v rfl), hw⟩⟩
theorem rd_bool {P : Program} {t : TypeId} (ht : P.underlying t = some .bool) : Rd P t 1 (fun v => [.v (.bool v)]) (fun _ => True) := ⟨fun _ => rfl,
  fun {H} enc w fuel held cs x hx _ => by
    obtain ⟨n, rfl, rfl⟩ := DataW.trod_bool ht hx
    exact ⟨n, .one rfl (.v rfl), trivial⟩⟩
theorem data_length' (s : ByteArray) : s.data.toList.length = s.size := by simp
theorem rd_string {P : Program} {t : TypeId} (ht : P.underlying t = some .string) : Rd P t 1 (fun v => [.v (.string v)]) (fun s => s.size ≤ 140737488351232) := ⟨fun _ => rfl,
  fun {H} enc w fuel held cs x hx hw => by
    obtain ⟨s, rfl, rfl, _⟩ := DataW.trod_string ht hx
    have h1 := hw s.data.toList.length (by simp [DataW.weights])
    rw [data_length'] at h1
    exact ⟨s, .one rfl (.v rfl), h1⟩⟩
theorem rd_imp {α : Type} {P : Program} {t : TypeId} {n : Nat} {av : α → List AV} {Q Q' : α → Prop} (h : Rd P t n av Q) (hq : ∀ v, Q v → Q' v) : Rd P t n av Q' := ⟨h.sz, fun {H} enc w fuel held cs x hx hw => by
  obtain ⟨v, h1, h2⟩ := h.out enc w fuel held cs x hx hw
  exact ⟨v, h1, hq v h2⟩⟩
theorem list_of' {α : Type} (p : Nat → α → Prop) : ∀ n, (∀ i, i < n → ∃ v, p i v) → ∃ l : List α, l.length = n ∧ ∀ (i : Nat) v, l[i]? = some v → p i v
  | 0, _ => ⟨[], rfl, fun i v h => by simp at h⟩
  | n + 1, h => by
    obtain ⟨l, h1, h2⟩ := list_of' p n (fun i hi => h i (by omega))
    obtain ⟨v, hv⟩ := h n (by omega)
    refine ⟨l ++ [v], by rw [List.length_append, h1]; rfl, fun i u hu => ?_⟩
    rcases Nat.lt_or_ge i l.length with hi | hi
    · rw [List.getElem?_append_left hi] at hu
      exact h2 i u hu
    · rw [List.getElem?_append_right hi] at hu
      have hi' : i - l.length = 0 := by
        rcases Nat.eq_zero_or_pos (i - l.length) with z | z
        · exact z
        · rw [List.getElem?_eq_none (by simp; omega)] at hu
          cases hu
      rw [hi'] at hu
      have e : i = n := by omega
      subst e
      obtain rfl : v = u := by simpa using hu
      exact hv
theorem all_mem' {H : Type} {P : Program} {e : TypeId} {d : DataW H} {n : Nat} : ∀ {l : List (DataW H)}, d ∈ l → n ∈ d.weights P e → n ∈ DataW.weightsAll P e l
  | [], h, _ => by cases h
  | x :: r, h, hn => by
    simp only [DataW.weightsAll, List.mem_append]
    rcases List.mem_cons.1 h with rfl | h
    · exact Or.inl hn
    · exact Or.inr (all_mem' h hn)
/-- The cell of an element, in a row of elements. -/
theorem flat_get {α : Type} {n : Nat} {av : α → List AV} (hn : 0 < n) (hs : ∀ v, (av v).length = n) : ∀ (l : List α) (i : Nat) (a : AV), (l.flatMap av)[i]? = some a → ∃ v, l[i / n]? = some v ∧ (av v)[i % n]? = some a
  | [], i, a, h => by simp at h
  | v :: l, i, a, h => by
    rw [List.flatMap_cons, List.getElem?_append, hs] at h
    split at h
    · rename_i hi
      rw [Nat.div_eq_of_lt hi, Nat.mod_eq_of_lt hi]
      exact ⟨v, rfl, h⟩
    · rename_i hi
      obtain ⟨u, h1, h2⟩ := flat_get hn hs l (i - n) a h
      have e : i = (i - n) + n := by omega
      rw [e, Nat.add_div_right _ hn, Nat.add_mod_right]
      exact ⟨u, by simpa using h1, h2⟩
theorem rd_slice {α : Type} {P : Program} {t e : TypeId} {n : Nat} {av : α → List AV} {Q : α → Prop} (ht : P.underlying t = some (.slice e)) (he : Rd P e n av Q) (hc : P.cellsOf e = n) (hby : decide (0 < P.bytesOf e ∧ 0 < n) = true) :
    Rd P t 1 (fun l : List α => [.shr l.length false (l.flatMap av)]) (fun l => l.length ≤ 140737488351232 ∧ ∀ (i : Nat) x, l[i]? = some x → Q x) := ⟨fun _ => rfl,
  fun {H} enc w fuel held cs x hx hw => by
    obtain ⟨hby1, hn0⟩ := of_decide_eq_true hby
    rcases DataW.trod_slice ht hx with ⟨rfl, rfl⟩ | ⟨a, len, cap, elems, rest, m, _, rfl, rfl, hb, hl, hm, hlen, hel, hsp, _⟩
    · exact ⟨[], .one rfl (.shr0 none), by simp, fun i x h => by simp at h⟩
    · have hw1 : ∀ i, (hi : i < len) → ∀ m, m ∈ (elems[i]'(by omega)).1.weights P e → m ≤ 140737488351232 := fun i hi m hm => hw m (by
        simp only [DataW.weights, ht, List.mem_cons, List.mem_append]
        exact Or.inr (Or.inl (all_mem' (List.mem_map.2 ⟨_, List.getElem_mem (by omega), rfl⟩) hm)))
      have hw0 := hw ((elems.map (·.1)).length * P.bytesOf e + (rest.map (·.1)).length * P.bytesOf e) (by
        simp only [DataW.weights, ht, List.mem_cons]
        exact Or.inl (Nat.add_mul _ _ _).symm)
      obtain ⟨l, h1, h2⟩ := list_of' (fun i v => ∃ c, w.cells? 0 (a.add (i * P.cellsOf e)) (P.cellsOf e) = some c ∧ VC (ImOf w) (av v) c ∧ Q v) len (fun i hi => by
        have h := hel i hi
        rw [List.getElem?_eq_getElem (by omega)] at h
        obtain ⟨c, hc1, hc2⟩ := Option.bind_eq_some_iff.1 h
        obtain ⟨v, hv, hq⟩ := he.out enc w m held c _ hc2 (hw1 i hi)
        exact ⟨v, c, hc1, hv, hq⟩)
      refine ⟨l, ?_, ?_, fun i x hx => ?_⟩
      · -- the block
        have first : 0 < cap → ∃ arr, ImOf w a.block = some arr ∧ a.spot = none := fun hcap => by
          have hcell : ∃ c, w.cells? 0 (a.add (0 * P.cellsOf e)) (P.cellsOf e) = some c := by
            rcases Nat.eq_zero_or_pos len with z | z
            · obtain ⟨r1, r2⟩ := hsp rfl
              have h := r2 0 (by omega)
              rw [List.getElem?_eq_getElem (by omega)] at h
              obtain ⟨c, hc1, _⟩ := Option.bind_eq_some_iff.1 h
              rw [z] at hc1
              exact ⟨c, by simpa using hc1⟩
            · have h := hel 0 z
              rw [List.getElem?_eq_getElem (by omega)] at h
              obtain ⟨c, hc1, _⟩ := Option.bind_eq_some_iff.1 h
              exact ⟨c, hc1⟩
          obtain ⟨c, hc1⟩ := hcell
          obtain ⟨_, hcl, hcc⟩ := World.cells?_some hc1
          have h3 := hcc 0 (by omega)
          rw [List.getElem?_eq_getElem (by omega)] at h3
          obtain ⟨arr, e1, _, e3⟩ := cell_im h3
          have e0 : (a.add (0 * P.cellsOf e)).add 0 = a := by simp [Addr.add]
          rw [e0] at e1 e3
          exact ⟨arr, e1, e3⟩
        refine .one rfl ?_
        rcases Nat.eq_zero_or_pos cap with z | z
        · obtain rfl : len = 0 := by omega
          obtain rfl : l = [] := List.eq_nil_of_length_eq_zero h1
          rw [z]
          exact .shr0 (some a)
        · obtain ⟨arr, ha1, ha2⟩ := first z
          obtain ⟨ab, ao, as⟩ := a
          simp only at ha1 ha2
          subst ha2
          have cellAt : ∀ (i : Nat) b, (l.flatMap av)[i]? = some b → atom b = true ∧ ∃ x, arr[ao + i]? = some x ∧ VR (ImOf w) [] b x := fun i b hi => by
            obtain ⟨v, hv1, hv2⟩ := flat_get hn0 he.sz l i b hi
            obtain ⟨c, hc1, hc2, _⟩ := h2 _ v hv1
            obtain ⟨_, hcl, hcc⟩ := World.cells?_some hc1
            obtain ⟨y, hy1, hy2⟩ := hc2.val _ b hv2
            refine ⟨hc2.at_ _ b hv2, y, ?_, hy2⟩
            have h3 := hcc (i % n) (by rw [hc]; exact Nat.mod_lt _ hn0)
            rw [hy1] at h3
            obtain ⟨arr', e1, e2, e3⟩ := cell_im h3
            have o1 : (((⟨ab, ao, none⟩ : Addr).add (i / n * P.cellsOf e)).add (i % n)) = ⟨ab, ao + i, none⟩ := by
              have : i / n * n + i % n = i := by rw [Nat.mul_comm]; exact Nat.div_add_mod i n
              rw [hc]
              unfold Addr.add
              by_cases z1 : i / n * n = 0 <;> by_cases z2 : i % n = 0 <;> simp [z1, z2] <;> omega
            rw [o1] at e1 e2
            simp only at e1 e2
            rw [ha1] at e1
            cases e1
            exact e2
          rw [← h1]
          refine .shr ab ao cap arr (fun i => (arr[ao + i]?).getD undef) ha1 (by omega) (fun h => by cases h) (fun i b hi => (cellAt i b hi).1) (fun i b hi => ?_) (fun i b hi => ?_)
          · obtain ⟨_, x, hx, _⟩ := cellAt i b hi
            rw [hx]
            rfl
          · obtain ⟨_, x, hx, hv⟩ := cellAt i b hi
            rw [hx]
            exact hv
      · rw [List.length_map] at hw0
        have := Nat.le_mul_of_pos_right elems.length hby1
        rw [h1, ← hlen]
        omega
      · obtain ⟨_, _, _, hq⟩ := h2 i x hx
        exact hq⟩

structure RdF {α : Type} (P : Program) (tl : List (TypeId × Nat)) (off n : Nat) (av : α → List AV) (Q : α → Prop) : Prop where mk ::
  sz : ∀ v, (av v).length = n
  out : ∀ {H : Type} (enc : TypeId × Value → H) (w : World) (fuel : Nat) (held : Bool) (cs : List Value) (xs : List (DataW H × List MemPlace)),
    cs.length = off + n → xs.length = tl.length →
    (∀ (i : Nat) (f : TypeId × Nat), tl[i]? = some f → DataW.trod enc P w 0 (fun _ => true) held fuel f.1 ((cs.drop f.2).take (P.cellsOf f.1)) = xs[i]?) →
    (∀ n, n ∈ DataW.weightsEach P (tl.map (·.1)) (xs.map (·.1)) → n ≤ 140737488351232) → ∃ v, VC (ImOf w) (av v) (cs.drop off) ∧ Q v
theorem rdF_one {α : Type} {P : Program} (t : TypeId) (off : Nat) {n : Nat} {av : α → List AV} {Q : α → Prop} (h : Rd P t n av Q) (hc : P.cellsOf t = n) : RdF P [(t, off)] off n av Q := ⟨h.sz,
  fun {H} enc w fuel held cs xs hl hx ht hw => by
    match xs, hx with
    | [x], _ =>
      have h0 := ht 0 (t, off) rfl
      rw [List.take_of_length_le (by rw [List.length_drop]; show _ ≤ P.cellsOf t; omega)] at h0
      exact h.out enc w fuel held _ _ h0 (fun n hn => hw n (by simpa [DataW.weightsEach] using hn))⟩
theorem rdF_cons {α β : Type} {P : Program} (t : TypeId) (off : Nat) {tl : List (TypeId × Nat)} {n1 n2 : Nat} {av1 : α → List AV} {av2 : β → List AV} {Q1 : α → Prop} {Q2 : β → Prop} (h : Rd P t n1 av1 Q1) (hc : P.cellsOf t = n1)
    (hr : RdF P tl (off + n1) n2 av2 Q2) : RdF P ((t, off) :: tl) off (n1 + n2) (fun v : α × β => av1 v.1 ++ av2 v.2) (fun v => Q1 v.1 ∧ Q2 v.2) := ⟨fun v => by rw [List.length_append, h.sz, hr.sz],
  fun {H} enc w fuel held cs xs hl hx ht hw => by
    match xs, hx with
    | x :: xr, hx =>
      have h0 : DataW.trod enc P w 0 (fun _ => true) held fuel t ((cs.drop off).take (P.cellsOf t)) = some x := ht 0 (t, off) rfl
      rw [hc] at h0
      obtain ⟨v1, hk1, hq1⟩ := h.out enc w fuel held _ _ h0 (fun n hn => hw n (by simp only [List.map_cons, DataW.weightsEach, List.mem_append]; exact Or.inl hn))
      obtain ⟨v2, hk2, hq2⟩ := hr.out enc w fuel held cs xr (by omega) (by simpa using hx) (fun i g hg => ht (i + 1) g hg) (fun n hn => hw n (by simp only [List.map_cons, DataW.weightsEach, List.mem_append]; exact Or.inr hn))
      refine ⟨(v1, v2), ?_, hq1, hq2⟩
      have := hk1.append hk2
      rw [← List.drop_drop, List.take_append_drop] at this
      exact this⟩
theorem rd_struct {α β : Type} {P : Program} {t : TypeId} {fs : Array Field} {tl : List (TypeId × Nat)} {n : Nat} {av : α → List AV} {av' : β → List AV} {Q : α → Prop} {Q' : β → Prop} (hf : RdF P tl 0 n av Q) (ht : P.underlying t = some (.struct fs)) (htl : fs.toList.map (fun f => (f.type, f.offset)) = tl) (g : α → β) (hs : ∀ v, (av' v).length = n) (hav : ∀ v, av' (g v) = av v) (hq : ∀ v, Q v → Q' (g v)) (hc : P.cellsOf t = n) :
    Rd P t n av' Q' := ⟨hs,
  fun {H} enc w fuel held cs x hx hw => by
    obtain ⟨xs, m, _, rfl, hl, hxl, h⟩ := DataW.trod_struct ht hx
    subst htl
    obtain ⟨v, hk, hq1⟩ := hf.out enc w m held cs xs (by omega) (by simpa using hxl) (fun i f hi => by
      rw [List.getElem?_map] at hi
      obtain ⟨g, hg, rfl⟩ := Option.map_eq_some_iff.1 hi
      exact h i g (by simpa using hg)) (fun m hm => hw m (by simp only [DataW.weights, ht]; simpa [List.map_map, Function.comp_def] using hm))
    exact ⟨g v, by rw [hav]; exact hk, hq v hq1⟩⟩
/-- An argument. -/
theorem arg_rd {α : Type} {P : Program} {t : TypeId} {n : Nat} {av : α → List AV} {Q : α → Prop} (h : Rd P t n av Q) {H : Type} {enc : TypeId × Value → H} {w : World} {held : Bool} {v : Value} {x : DataW H} {ps : List MemPlace} {ts : List TypeId} {ds : List (DataW H)} {j : Nat}
    (hx : DataW.Trod enc P w 0 (fun _ => true) held t v x ps) (hw : (DataW.weightsEach P ts ds).all (· ≤ reachBytes) = true) (ht : ts[j]? = some t) (hd : ds[j]? = some x) : ∃ u : α, VC (ImOf w) (av u) v.cells.toList ∧ Q u := by
  obtain ⟨fuel, hf⟩ := hx
  exact h.out enc w fuel held _ _ hf (fun n hn => by
    have := List.all_eq_true.1 hw n (DataW.weights_mem_each ht hd n hn)
    exact (of_decide_eq_true this : n ≤ reachBytes))
theorem rng_u8 {v : Int} (h : (Lit.int .u8 v).wf = true) : 0 ≤ v ∧ v ≤ 255 := by
  simp only [Lit.wf, Bool.and_eq_true, decide_eq_true_eq] at h
  exact h
theorem rng_u16 {v : Int} (h : (Lit.int .u16 v).wf = true) : 0 ≤ v ∧ v ≤ 65535 := by
  simp only [Lit.wf, Bool.and_eq_true, decide_eq_true_eq] at h
  exact h
theorem rng_u32 {v : Int} (h : (Lit.int .u32 v).wf = true) : 0 ≤ v ∧ v ≤ 4294967295 := by
  simp only [Lit.wf, Bool.and_eq_true, decide_eq_true_eq] at h
  exact h
theorem rng_u64 {v : Int} (h : (Lit.int .u64 v).wf = true) : 0 ≤ v ∧ v ≤ 18446744073709551615 := by
  simp only [Lit.wf, Bool.and_eq_true, decide_eq_true_eq] at h
  exact h
theorem rng_i8 {v : Int} (h : (Lit.int .i8 v).wf = true) : -128 ≤ v ∧ v ≤ 127 := by
  simp only [Lit.wf, Bool.and_eq_true, decide_eq_true_eq] at h
  exact h
theorem rng_i16 {v : Int} (h : (Lit.int .i16 v).wf = true) : -32768 ≤ v ∧ v ≤ 32767 := by
  simp only [Lit.wf, Bool.and_eq_true, decide_eq_true_eq] at h
  exact h
theorem rng_i32 {v : Int} (h : (Lit.int .i32 v).wf = true) : -2147483648 ≤ v ∧ v ≤ 2147483647 := by
  simp only [Lit.wf, Bool.and_eq_true, decide_eq_true_eq] at h
  exact h
theorem rng_i64 {v : Int} (h : (Lit.int .i64 v).wf = true) : -9223372036854775808 ≤ v ∧ v ≤ 9223372036854775807 := by
  simp only [Lit.wf, Bool.and_eq_true, decide_eq_true_eq] at h
  exact h
theorem agg_of {P : Program} {t : TypeId} {fs : Array Field} {w : World} {r : Reach} {base : Nat} {v : Value} (ht : P.underlying t = some (.struct fs)) (h : Value.okWide P w r base t v) : ∃ cs, v = .agg cs := by
  unfold Value.okWide at h
  rw [ht] at h
  obtain ⟨cs, e, _⟩ := h
  exact ⟨cs, e⟩
/-- What a law's call gives, told as it is asked for. -/
theorem law_calls {P : Program} {T : Tb} (hC : ∀ k, CallsOK P (acall T k)) {k f : Nat} {args : List AV} {ob : List Obj} {d : Nat} {vals : List Value} {w : World} (h : acall T k f 0 args [] = some ⟨.v (.bool true), ob, d⟩) (hv : VRs (ImOf w) [] args vals) :
    Calls P f vals.toArray w fun e w' => e = .returned (.bool true) ∧ Go.RowKit.Below w.heap.size w w' := by
  refine (hC k f 0 args [] _ h (ImOf w) [] w vals (rel_im w) (fun o ho => by simp at ho) (Nat.le_refl _) hv).2.mono ?_
  rintro e w' ⟨x, Im', ρ', rfl, hb⟩
  have hx : x = .bool true := by
    have := hb.val
    cases this
    rfl
  subst hx
  refine ⟨rfl, hb.fr.os, hb.fr.tape, hb.fr.output, hb.fr.size, fun b hlt => hb.fr.block b hlt ?_⟩
  rintro ⟨_, k, o, s1, s2, ho, _⟩
  simp at ho
end Go.Proofs.Ytkaigdfklihlcaa.Sym
