/- Operations that leave memory alone: the abstract machine's are the program's. -/
import Derived.Test.YtkaigdfklihlcaaSymC
import Derived.Laws.Cells
import Derived.Laws.Small
import Derived.Laws.Slices
import Derived.Laws.Strings
namespace Go.Proofs.Ytkaigdfklihlcaa.Sym
open Go
set_option linter.unusedVariables false
set_option linter.unusedSimpArgs false

/-- The old blocks are as they were. -/
def Same (w w' : World) : Prop := ∀ b, b < w.heap.size → w'.heap[b]? = w.heap[b]?
theorem Same.refl (w : World) : Same w w := fun _ _ => rfl
/-- All that is spoken of is as it was. -/
def SameK (Im : Imm) (ρ : List Loc) (Ω : List Obj) (w w' : World) : Prop := ∀ b, ((∃ arr, Im b = some arr) ∨ LB ρ Ω b) → w'.heap[b]? = w.heap[b]?
theorem SameK.refl (Im : Imm) (ρ : List Loc) (Ω : List Obj) (w : World) : SameK Im ρ Ω w w := fun _ _ => rfl
structure EnvOK (Im : Imm) (ρ : List Loc) (e : Env) (act : Act) : Prop where
  val : ∀ i a, get e i = some a → VR Im ρ a (act.tmps.getD i undef)
  lt : ∀ i a, get e i = some a → i < act.tmps.size

theorem pl_cVal {v : Value} {a : AV} (h : cVal v = some a) (Im : Imm) (ρ : List Loc) : VR Im ρ a v := by
  unfold cVal at h
  split at h
  · rename_i cs
    split at h
    · rename_i hp
      cases h
      refine .agg cs (fun i => cs.toList.getD i undef) (by simp) (fun i a hi => ?_) (fun i a hi => ?_)
      · have hl := (List.getElem?_eq_some_iff.1 hi).1
        rw [List.length_map] at hl
        rw [List.getD_eq_getElem?_getD, List.getElem?_eq_getElem hl]
        simp
      · have hl := (List.getElem?_eq_some_iff.1 hi).1
        rw [List.length_map] at hl
        rw [List.getElem?_map, List.getElem?_eq_getElem hl] at hi
        cases hi
        rw [List.getD_eq_getElem?_getD, List.getElem?_eq_getElem hl]
        exact .v (List.all_eq_true.1 hp _ (List.getElem_mem hl))
    · cases h
  · rename_i f first captured
    split at h
    · rename_i hp
      cases h
      simp only [Bool.and_eq_true, Array.isEmpty_iff] at hp
      obtain ⟨rfl, rfl⟩ := hp
      exact .fn #[] (fun _ => undef) rfl (fun i a hi => by simp at hi) (fun i a hi => by simp at hi)
    · cases h
  · split at h
    · rename_i hp
      cases h
      exact .v hp
    · cases h

theorem ev_ok {Im : Imm} {ρ : List Loc} {e : Env} {act : Act} (hE : EnvOK Im ρ e act) {o : Operand} {x : AX} (hc : cx o = some x) {a : AV} (h : ev e x = some a) : VR Im ρ a (act.eval o) := by
  cases o with
  | tmp t => cases hc; exact hE.val _ _ h
  | const v =>
    simp only [cx, Option.map_eq_some_iff] at hc
    obtain ⟨b, hb, rfl⟩ := hc
    cases h
    exact pl_cVal hb _ _
  | func f => cases hc; cases h; exact .fn #[] (fun _ => undef) rfl (fun i a hi => by simp at hi) (fun i a hi => by simp at hi)
  | global g => cases hc

theorem cell_of {w : World} {b i : Nat} {arr : Array Value} {T : TypeId} {fz : Nat × Nat} (h : w.heap[b]? = some (.cells arr T fz)) : w.cell? ⟨b, i, none⟩ = arr[i]? := by
  simp [World.cell?, h]

/-- Cells that can be read: a row of cells of a block. -/
def Lies (w : World) (b o : Nat) (f : Nat → Value) (xs : List AV) : Prop := ∃ (arr : Array Value) (T : TypeId) (fz : Nat × Nat), w.heap[b]? = some (.cells arr T fz) ∧ ∀ (i : Nat) a, xs[i]? = some a → arr[o + i]? = some (f i)
theorem Lies.same {w w' : World} {b o : Nat} {f : Nat → Value} {xs : List AV} (h : Lies w b o f xs) (hs : w'.heap[b]? = w.heap[b]?) : Lies w' b o f xs := by
  obtain ⟨arr, T, fz, h1, h2⟩ := h
  exact ⟨arr, T, fz, hs.trans h1, h2⟩
theorem Lies.lt {w : World} {b o : Nat} {f : Nat → Value} {xs : List AV} (h : Lies w b o f xs) : b < w.heap.size := by
  obtain ⟨arr, T, fz, h1, _⟩ := h
  exact (Array.getElem?_eq_some_iff.1 h1).1
theorem Lies.cell {w : World} {b o : Nat} {f : Nat → Value} {xs : List AV} (h : Lies w b o f xs) {i : Nat} (hi : i < xs.length) : w.cell? ⟨b, o + i, none⟩ = some (f i) := by
  obtain ⟨arr, T, fz, h1, h2⟩ := h
  rw [cell_of h1]
  exact h2 i _ (List.getElem?_eq_getElem hi)
theorem getO_some {Ω : List Obj} {k : Nat} {o : Obj} (h : getO Ω k = some o) : Ω[k]? = some o ∧ o.live = true := by
  unfold getO at h
  split at h
  · split at h
    · cases h
      exact ⟨‹_›, ‹_›⟩
    · cases h
  · cases h
theorem Rel.lies {Im : Imm} {ρ : List Loc} {Ω : List Obj} {w : World} (hR : Rel Im ρ Ω w) {k : Nat} {o : Obj} (hk : getO Ω k = some o) {b base s : Nat} (hl : ρ[k]? = some (some (b, base, s))) :
    ∃ f : Nat → Value, Lies w b base f o.cells ∧ ∀ (i : Nat) a, o.cells[i]? = some a → VR Im ρ a (f i) := by
  obtain ⟨h1, h2⟩ := getO_some hk
  rcases hR.obj k o h1 h2 with ⟨b', base', s', arr, T, fz, e1, e2, e3, e4, e5, e6, e7, f, e8, e9⟩ | ⟨e1, e2⟩
  · rw [hl] at e1
    injection e1 with e1
    injection e1 with e1
    injection e1 with e1 e1'
    injection e1' with e1' e1''
    subst e1 e1' e1''
    exact ⟨f, ⟨arr, T, fz, e2, e8⟩, e9⟩
  · rw [hl] at e1
    cases e1

theorem run_isAgg {P : Program} {t : TypeId} {b : Bool} (h : isAggT P t = some b) (w : World) : (isAgg t).run P w = .ok b w := by
  unfold isAggT at h
  rw [Option.map_eq_some_iff] at h
  obtain ⟨d, hd, hb⟩ := h
  unfold isAgg
  rw [Sem.run_bind, run_underlying hd]
  simp only [Result.andThen_ok]
  cases d <;> simp_all

theorem run_sizeOf' {P : Program} {t : TypeId} {n : Nat} (h : sizeT P t = some n) (w : World) : (sizeOf t).run P w = .ok n w := by
  unfold sizeT at h
  rw [Option.map_eq_some_iff] at h
  obtain ⟨i, hi, rfl⟩ := h
  simp [sizeOf, typeInfo, hi]

/-- Reading a variable of a row of cells. -/
theorem run_loadVar_lies {P : Program} {t : TypeId} {m : Option Nat} (hm : loadM P t = some m) {Im : Imm} {ρ : List Loc} {xs : List AV} {off : Nat} {r : AV} (h : rd xs off m = some r) {w : World} {b o : Nat} {f : Nat → Value} (hL : Lies w b o f xs)
    (hV : ∀ (i : Nat) a, xs[i]? = some a → VR Im ρ a (f i)) : ∃ y, VR Im ρ r y ∧ ∀ w', w'.heap[b]? = w.heap[b]? → (loadVar t ⟨b, o + off, none⟩).run P w' = .ok y w' := by
  unfold loadM at hm
  rw [Option.bind_eq_some_iff] at hm
  obtain ⟨g, hg, hm⟩ := hm
  cases g with
  | false =>
    simp only [Bool.false_eq_true, if_false, Option.some.injEq] at hm
    subst hm
    simp only [rd] at h
    refine ⟨f off, hV _ _ h, fun w' hs => ?_⟩
    have hc := (hL.same hs).cell (List.getElem?_eq_some_iff.1 h).1
    simp [loadVar, run_isAgg hg, hc]
  | true =>
    simp only [if_true, Option.map_eq_some_iff] at hm
    obtain ⟨i, hi, rfl⟩ := hm
    simp only [rd] at h
    split at h
    · rename_i hle
      cases h
      refine ⟨.agg ((List.range i.size).map fun j => f (off + j)).toArray, .agg _ (fun j => f (off + j)) ?_ (fun j a hj => ?_) (fun j a hj => ?_), fun w' hs => ?_⟩
      · simp
        omega
      · have hj2 := (List.getElem?_eq_some_iff.1 hj).1
        rw [List.length_take, Nat.lt_min] at hj2
        rw [List.getElem?_toArray, List.getElem?_map, List.getElem?_range hj2.1]
        rfl
      · have hj2 := (List.getElem?_eq_some_iff.1 hj).1
        rw [List.length_take, Nat.lt_min] at hj2
        rw [List.getElem?_take_of_lt (by omega), List.getElem?_drop] at hj
        exact hV _ _ hj
      · have hc := run_loadCells (P := P) w' ⟨b, o + off, none⟩ i.size (fun j => f (off + j)) (fun j hj => by
          have := (hL.same hs).cell (i := off + j) (by omega)
          rw [Addr.add_lit, Nat.add_assoc]
          exact this)
        simp [loadVar, run_isAgg hg, sizeOf, typeInfo, hi, hc]
    · cases h

theorem aLoad_ok {P : Program} {t : TypeId} {m : Option Nat} (hm : loadM P t = some m) {Im : Imm} {ρ : List Loc} {Ω : List Obj} {w : World} (hR : Rel Im ρ Ω w) {a : AV} {x : Value} (hx : VR Im ρ a x) {r : AV} (h : aLoad Ω m a = some r) :
    ∃ y, VR Im ρ r y ∧ ∀ w', SameK Im ρ Ω w w' → (Instr.loadAt t x).run P w' = .ok y w' := by
  unfold aLoad at h
  split at h
  · rename_i k off
    rw [Option.bind_eq_some_iff] at h
    obtain ⟨o, ho, h⟩ := h
    cases hx with
    | ptr b base s hk =>
      obtain ⟨f, hL, hV⟩ := hR.lies ho hk
      obtain ⟨y, hy, hrun⟩ := run_loadVar_lies hm h hL hV
      exact ⟨y, hy, fun w' hs => by simp only [Instr.loadAt, Instr.sureAddr, Sem.run_bind, Sem.run_pure, Result.andThen_ok, hrun w' (hs b (.inr ⟨k, o, base, s, (getO_some ho).1, (getO_some ho).2, hk⟩))]⟩
  · rename_i xs off
    cases hx with
    | iptr b base arr f hb ha h1 h2 =>
      obtain ⟨T, fz, hw⟩ := hR.im _ _ hb
      obtain ⟨y, hy, hrun⟩ := run_loadVar_lies (ρ := ρ) hm h (w := w) (b := b) (o := base) (f := f) ⟨arr, T, fz, hw, h1⟩ (fun i a hi => (h2 i a hi).mono (ImLe.refl _) ρ (fun k x hk => by simp at hk))
      exact ⟨y, hy, fun w' hs => by simp only [Instr.loadAt, Instr.sureAddr, Sem.run_bind, Sem.run_pure, Result.andThen_ok, hrun w' (hs b (.inl ⟨_, hb⟩))]⟩
  · cases h

/-! ### plain values -/
def Pure' (P : Program) (s : Sem Value) (y : Value) : Prop := ∀ w, s.run P w = .ok y w

theorem aInt_ok {P : Program} {op : BinOp} {k : IntKind} {a b : Int} {r : AV} (h : aInt op k a b = some r) (hs : isShift op = false) (t : TypeId) (ρ : List Loc) (Im : Imm) :
    ∃ y, VR Im ρ r y ∧ ∀ w, (binOp op t (.int k a) (.int k b)).run P w = .ok y w := by
  cases op <;> simp only [aInt] at h <;> first
    | (cases h; exact ⟨_, .v rfl, fun w => by first | rfl | (simp [binOp, Op.intArith, Op.intBits, Op.intCmp, bitsV]; done)⟩)
    | (simp [isShift] at hs; done)
    | (split at h <;> first | (cases h; done) | (cases h; exact ⟨_, .v rfl, fun w => by simp_all [binOp, Op.intDiv]⟩))

theorem aShift_ok {P : Program} {op : BinOp} {k k' : IntKind} {a b : Int} {r : AV} (h : aInt op k a b = some r) (hs : isShift op = true) (t : TypeId) (ρ : List Loc) (Im : Imm) :
    ∃ y, VR Im ρ r y ∧ ∀ w, (binOp op t (.int k a) (.int k' b)).run P w = .ok y w := by
  cases op <;> simp only [isShift, Bool.false_eq_true] at hs <;> simp only [aInt] at h <;> split at h <;> first
    | (cases h; done)
    | (cases h; rename_i hb; exact ⟨_, .v rfl, fun w => by simp [binOp, Op.shift, hb]⟩)

theorem toList_beq (a b : ByteArray) : (a.toList == b.toList) = decide (a = b) := by
  rw [ByteArray.toList_eq, ByteArray.toList_eq]
  obtain ⟨⟨x⟩⟩ := a
  obtain ⟨⟨y⟩⟩ := b
  by_cases h : x = y
  · subst h; simp
  · have : ¬ ((⟨⟨x⟩⟩ : ByteArray) = ⟨⟨y⟩⟩) := fun e => h (by injection e with e; injection e)
    simp [h]
theorem aBin_ok {P : Program} {op : BinOp} {x y : AV} {r : AV} (h : aBin op x y = some r) (t : TypeId) {Im : Imm} {ρ : List Loc} {u v : Value} (hu : VR Im ρ x u) (hv : VR Im ρ y v) (ox oy : Operand) :
    ∃ z, VR Im ρ r z ∧ ∀ w, (do eqGuard op t ox oy u v; binOp op t u v : Sem Value).run P w = .ok z w := by
  unfold aBin at h
  split at h
  · rename_i k a k' b
    cases hu
    cases hv
    split at h
    · rename_i hc
      rw [eqGuard_at_int]
      cases hs : isShift op with
      | true => exact aShift_ok h hs t ρ Im
      | false =>
        rw [hs, Bool.false_or, beq_iff_eq] at hc
        subst hc
        exact aInt_ok h hs t ρ Im
    · cases h
  · rename_i a b
    cases hu
    cases hv
    rw [eqGuard_at_string]
    split at h <;> first
      | (split at h <;> first
          | (cases h; rename_i hc; exact ⟨_, .v rfl, fun w => by
              have hc' : ¬ ((9223372036854775807 : Int) < (a.size : Int) + (b.size : Int)) := by omega
              simp [binOp, Op.stringOp, hc']⟩)
          | (cases h; done))
      | (cases h; exact ⟨_, .v rfl, fun w => by simp [binOp, Op.stringOp, toList_beq]⟩)
      | (cases h; done)
  · cases h

theorem eqs_run {P : Program} {op : BinOp} (hop : eqLike op = true) {t : TypeId} {u v : Value} {r : Bool} (ox oy : Operand) (w : World) (hg : (eqGuard op t ox oy u v).run P w = .ok () w) (hb : binOp op t u v = (do pure (.bool ((← Op.equal t u v) != (op == .neq)))))
    (he : (Op.equal t u v).run P w = .ok r w) : (do eqGuard op t ox oy u v; binOp op t u v : Sem Value).run P w = .ok (.bool (r != (op == .neq))) w := by
  rw [Sem.run_bind, hg, Result.andThen_ok, hb, Sem.run_bind, he]
  rfl
theorem aEqB_ok {P : Program} {op : BinOp} (hop : eqLike op = true) {x y : AV} {r : Bool} (h : aEqB x y = some r) {t : TypeId} (ht : P.underlying t = some .bool)
    {Im : Imm} {ρ : List Loc} {u v : Value} (hu : VR Im ρ x u) (hv : VR Im ρ y v) (ox oy : Operand) (w : World) : (do eqGuard op t ox oy u v; binOp op t u v : Sem Value).run P w = .ok (.bool (r != (op == .neq))) w := by
  unfold aEqB at h
  split at h
  · cases h
    cases hu
    cases hv
    refine eqs_run hop ox oy w (by rw [eqGuard_at_bool]; rfl) ?_ (run_equal_bool w t _ _ ht)
    cases op <;> first | (simp [eqLike] at hop; done) | (simp [binOp]; done) | (simp only [binOp]; congr 1; funext b; cases b <;> rfl)
  · cases h
theorem equalIn_ptr {P : Program} {t e : TypeId} (ht : P.underlying t = some (.pointer e)) (a b : Option Addr) (w : World) (h : a = none ∨ b = none) (d : Nat) : (Op.equalIn (d + 1) t (.pointer a) (.pointer b)).run P w = .ok (a.isNone && b.isNone) w := by
  rcases h with rfl | rfl
  · simp [Op.equalIn, run_underlying ht]
  · cases a <;> simp [Op.equalIn, run_underlying ht]
theorem equal_ptr {P : Program} {t e : TypeId} (ht : P.underlying t = some (.pointer e)) (a b : Option Addr) (w : World) (h : a = none ∨ b = none) : (Op.equal t (.pointer a) (.pointer b)).run P w = .ok (a.isNone && b.isNone) w := equalIn_ptr ht a b w h 9999
theorem aEqP_ok {P : Program} {op : BinOp} (hop : eqLike op = true) {x y : AV} {r : Bool} (h : aEqP x y = some r) {t e : TypeId} (ht : P.underlying t = some (.pointer e))
    {Im : Imm} {ρ : List Loc} {u v : Value} (hu : VR Im ρ x u) (hv : VR Im ρ y v) (ox oy : Operand) (w : World) : (do eqGuard op t ox oy u v; binOp op t u v : Sem Value).run P w = .ok (.bool (r != (op == .neq))) w := by
  have key : ∀ a b, (a = none ∨ b = none) → u = .pointer a → v = .pointer b → r = (a.isNone && b.isNone) → (do eqGuard op t ox oy u v; binOp op t u v : Sem Value).run P w = .ok (.bool (r != (op == .neq))) w := fun a b hn e1 e2 e3 => by
    subst e1 e2 e3
    refine eqs_run hop ox oy w (by rw [eqGuard_at_pointer]; rfl) ?_ (equal_ptr ht _ _ w hn)
    cases op <;> first | (simp [eqLike] at hop; done) | (simp [binOp]; done) | (simp only [binOp]; congr 1; funext b; cases b <;> rfl)
  unfold aEqP at h
  split at h <;> first
    | (cases h; cases hu; cases hv; exact key _ _ (by first | exact .inl rfl | exact .inr rfl) rfl rfl rfl)
    | cases h
theorem equalIn_slice {P : Program} {t e : TypeId} (ht : P.underlying t = some (.slice e)) (a : Option Addr) (n c : Nat) (w : World) (d : Nat) : (Op.equalIn (d + 1) t (.slice a n c) (.slice none 0 0)).run P w = .ok a.isNone w := by
  cases a <;> simp [Op.equalIn, run_underlying ht]
theorem equal_slice {P : Program} {t e : TypeId} (ht : P.underlying t = some (.slice e)) (a : Option Addr) (n c : Nat) (w : World) : (Op.equal t (.slice a n c) (.slice none 0 0)).run P w = .ok a.isNone w := equalIn_slice ht a n c w 9999
theorem aEqS_ok {P : Program} {op : BinOp} (hop : eqLike op = true) {x y : AV} {r : Bool} (h : aEqS x y = some r) {t e : TypeId} (ht : P.underlying t = some (.slice e))
    {Im : Imm} {ρ : List Loc} {u v : Value} (hu : VR Im ρ x u) (hv : VR Im ρ y v) (ox oy : Operand) (w : World) : (do eqGuard op t ox oy u v; binOp op t u v : Sem Value).run P w = .ok (.bool (r != (op == .neq))) w := by
  have key : ∀ a n c, u = .slice a n c → v = .slice none 0 0 → r = a.isNone → (do eqGuard op t ox oy u v; binOp op t u v : Sem Value).run P w = .ok (.bool (r != (op == .neq))) w := fun a n c e1 e2 e3 => by
    subst e1 e2 e3
    refine eqs_run hop ox oy w (by rw [eqGuard_at_slice]; rfl) ?_ (equal_slice ht _ _ _ w)
    cases op <;> first | (simp [eqLike] at hop; done) | (simp [binOp]; done) | (simp only [binOp]; congr 1; funext b; cases b <;> rfl)
  unfold aEqS at h
  split at h <;> first
    | (cases h; cases hu; cases hv; exact key _ _ _ rfl rfl rfl)
    | cases h
theorem aUn_ok {P : Program} {op : UnOp} {x r : AV} (h : aUn op x = some r) {Im : Imm} {ρ : List Loc} {u : Value} (hu : VR Im ρ x u) : ∃ z, VR Im ρ r z ∧ ∀ w, (Op.unary op u).run P w = .ok z w := by
  unfold aUn at h
  split at h <;> first
    | (cases h; cases hu; exact ⟨_, .v rfl, fun w => by first | rfl | (simp [Op.unary, Op.intArith, Op.intBits, bitsV]; done)⟩)
    | cases h
theorem aCvi_ok {P : Program} {s d : TypeId} {k ks : IntKind} (hs : P.underlying s = some (.int ks)) (hd : P.underlying d = some (.int k)) {x r : AV} (h : aCvi k x = some r) {Im : Imm} {ρ : List Loc} {u : Value} (hu : VR Im ρ x u) :
    ∃ z, VR Im ρ r z ∧ ∀ w, (convert s d u).run P w = .ok z w := by
  unfold aCvi at h
  split at h
  · cases h
    cases hu
    exact ⟨_, .v rfl, fun w => by simp [convert, run_underlying hs, run_underlying hd, Conv.intToInt]⟩
  · cases h
theorem aCvs_ok {P : Program} {s d : TypeId} (hs : P.underlying s = some .string) (hd : P.underlying d = some .string) {x r : AV} (h : aCvs x = some r) {Im : Imm} {ρ : List Loc} {u : Value} (hu : VR Im ρ x u) :
    ∃ z, VR Im ρ r z ∧ ∀ w, (convert s d u).run P w = .ok z w := by
  unfold aCvs at h
  split at h
  · cases h
    cases hu
    exact ⟨_, .v rfl, fun w => by simp [convert, run_underlying hs, run_underlying hd]⟩
  · cases h
theorem aField_ok {P : Program} {t : TypeId} {m : Option Nat} (hm : loadM P t = some m) {Im : Imm} {ρ : List Loc} {off : Nat} {x r : AV} {u : Value} (h : aField off m x = some r) (hu : VR Im ρ x u) :
    ∃ cs, u = .agg cs ∧ ∃ y, VR Im ρ r y ∧ ∀ w, (part t cs off).run P w = .ok y w := by
  unfold aField at h
  split at h
  · rename_i xs
    cases hu with
    | agg arr f hl h1 h2 =>
      refine ⟨arr, rfl, ?_⟩
      unfold loadM at hm
      rw [Option.bind_eq_some_iff] at hm
      obtain ⟨g, hg, hm⟩ := hm
      cases g with
      | false =>
        simp only [Bool.false_eq_true, if_false, Option.some.injEq] at hm
        subst hm
        simp only [rd] at h
        exact ⟨f off, h2 _ _ h, fun w => by simp [part, run_isAgg hg, h1 _ _ h]⟩
      | true =>
        simp only [if_true, Option.map_eq_some_iff] at hm
        obtain ⟨i, hi, rfl⟩ := hm
        simp only [rd] at h
        split at h
        · rename_i hle
          cases h
          refine ⟨.agg (arr.extract off (off + i.size)), .agg _ (fun j => f (off + j)) (by simp; omega) (fun j a hj => ?_) (fun j a hj => ?_), fun w => by simp [part, run_isAgg hg, sizeOf, typeInfo, hi]⟩
          · have hj2 := (List.getElem?_eq_some_iff.1 hj).1
            rw [List.length_take, Nat.lt_min] at hj2
            rw [List.getElem?_take_of_lt hj2.1, List.getElem?_drop] at hj
            have := h1 _ _ hj
            rw [Array.getElem?_extract]
            rw [if_pos (by omega)]
            exact this
          · have hj2 := (List.getElem?_eq_some_iff.1 hj).1
            rw [List.length_take, Nat.lt_min] at hj2
            rw [List.getElem?_take_of_lt hj2.1, List.getElem?_drop] at hj
            exact h2 _ _ hj
        · cases h
  · cases h
theorem VR.ptr' {Im : Imm} {ρ : List Loc} {k off b o o' s : Nat} (hk : ρ[k]? = some (some (b, o, s))) (h : o' = o + off) : VR Im ρ (.ptr k off) (.pointer (some ⟨b, o', none⟩)) := h ▸ .ptr b o s hk
theorem aFad_ok {Im : Imm} {ρ : List Loc} {off : Nat} {x r : AV} {u : Value} (h : aFad off x = some r) (hu : VR Im ρ x u) : ∃ b o, u = .pointer (some ⟨b, o, none⟩) ∧ VR Im ρ r (.pointer (some ⟨b, o + off, none⟩)) := by
  unfold aFad at h
  split at h
  · cases h
    cases hu with
    | ptr b o s hk => exact ⟨b, _, rfl, by rw [Nat.add_assoc]; exact .ptr b o s hk⟩
  · cases h
    cases hu with
    | iptr b o arr f hb ha h1 h2 => exact ⟨b, _, rfl, by rw [Nat.add_assoc]; exact .iptr b o arr f hb ha h1 h2⟩
  · cases h
theorem asI_ok {Im : Imm} {ρ : List Loc} {x : AV} {i : Int} {u : Value} (h : asI x = some i) (hu : VR Im ρ x u) : ∃ k, u = .int k i := by
  unfold asI at h
  split at h
  · cases h
    cases hu
    exact ⟨_, rfl⟩
  · cases h
theorem add_at (b o n : Nat) : Addr.add ⟨b, o, none⟩ n = ⟨b, o + n, none⟩ := Addr.add_lit b o n
theorem aIxS_ok {P : Program} {t e : TypeId} {n : Nat} (ht : P.underlying t = some (.slice e)) (hn : sizeT P e = some n) {Im : Imm} {ρ : List Loc} {x i r : AV} {u v : Value} (h : aIxS n x i = some r) (hu : VR Im ρ x u) (hv : VR Im ρ i v) :
    ∃ y, VR Im ρ r y ∧ ∀ w, (Instr.indexAt t u v).run P w = .ok y w := by
  unfold aIxS at h
  rw [Option.bind_eq_some_iff] at h
  obtain ⟨j, hj, h⟩ := h
  obtain ⟨k, rfl⟩ := asI_ok hj hv
  have run : ∀ (b o len cap : Nat) (w : World), 0 ≤ j ∧ j < len → (Instr.indexAt t (.slice (some ⟨b, o, none⟩) len cap) (.int k j)).run P w = .ok (.pointer (some ⟨b, o + j.toNat * n, none⟩)) w := fun b o len cap w hb => by
    simp [Instr.indexAt, asIntOf, run_underlying ht, run_sizeOf' hn, hb, add_at]
  split at h
  · rename_i k' off m sz c
    split at h
    · rename_i hb
      cases h
      cases hu with
      | view b o s cap hk hc h1 h2 h3 => exact ⟨_, VR.ptr' hk (Nat.add_assoc _ _ _), fun w => run _ _ _ _ w hb⟩
      | viewE b o s o' hk h1 h2 h3 => omega
      | view0 hk h1 => omega
    · cases h
  · rename_i m cl xs
    split at h
    · rename_i hb
      cases h
      cases hu with
      | shr b o cap arr f hb' hc hcl ha h1 h2 => exact ⟨_, .iptr b o arr f hb' ha h1 h2, fun w => run _ _ _ _ w hb⟩
      | shr0 => omega
    · cases h
  · cases h
theorem aIxA_ok {P : Program} {t e : TypeId} {len n : Nat} (ht : P.underlying t = some (.array len e)) (hn : sizeT P e = some n) {Im : Imm} {ρ : List Loc} {x i r : AV} {u v : Value} (h : aIxA len n x i = some r) (hu : VR Im ρ x u) (hv : VR Im ρ i v) :
    ∃ y, VR Im ρ r y ∧ ∀ w, (Instr.indexAt t u v).run P w = .ok y w := by
  unfold aIxA at h
  rw [Option.bind_eq_some_iff] at h
  obtain ⟨j, hj, h⟩ := h
  obtain ⟨k, rfl⟩ := asI_ok hj hv
  split at h
  · rename_i hb
    obtain ⟨b, o, rfl, hr⟩ := aFad_ok h hu
    exact ⟨_, hr, fun w => by simp [Instr.indexAt, Instr.sureAddr, asIntOf, run_underlying ht, run_sizeOf' hn, hb, add_at]⟩
  · cases h
theorem aIxStr_ok {P : Program} {t : TypeId} (ht : P.underlying t = some .string) {Im : Imm} {ρ : List Loc} {x i r : AV} {u v : Value} (h : aIxStr x i = some r) (hu : VR Im ρ x u) (hv : VR Im ρ i v) :
    ∃ y, VR Im ρ r y ∧ ∀ w, (Instr.index t u v).run P w = .ok y w := by
  unfold aIxStr at h
  rw [Option.bind_eq_some_iff] at h
  obtain ⟨j, hj, h⟩ := h
  obtain ⟨k, rfl⟩ := asI_ok hj hv
  split at h
  · rename_i s
    split at h
    · rename_i hb
      cases h
      cases hu
      refine ⟨_, .v rfl, fun w => ?_⟩
      simp [Instr.index, asIntOf, run_underlying ht, hb.1, getElem?_pos, hb.2]
    · cases h
  · cases h
theorem aIxV_ok {P : Program} {t e : TypeId} {len n : Nat} {m : Option Nat} (ht : P.underlying t = some (.array len e)) (hn : sizeT P e = some n) (hm : loadM P e = some m) {Im : Imm} {ρ : List Loc} {x i r : AV} {u v : Value} (h : aIxV len n m x i = some r) (hu : VR Im ρ x u) (hv : VR Im ρ i v) :
    ∃ y, VR Im ρ r y ∧ ∀ w, (Instr.index t u v).run P w = .ok y w := by
  unfold aIxV at h
  rw [Option.bind_eq_some_iff] at h
  obtain ⟨j, hj, h⟩ := h
  obtain ⟨k, rfl⟩ := asI_ok hj hv
  split at h
  · rename_i hb
    obtain ⟨cs, rfl, y, hy, hrun⟩ := aField_ok hm h hu
    exact ⟨y, hy, fun w => by simp [Instr.index, asIntOf, run_underlying ht, run_sizeOf' hn, hb, hrun]⟩
  · cases h
theorem aExt_ok {P : Program} {Im : Imm} {ρ : List Loc} {i : Nat} {x r : AV} {u : Value} (h : aExt i x = some r) (hu : VR Im ρ x u) : ∃ y, VR Im ρ r y ∧ ∀ w, (Instr.extract u i).run P w = .ok y w := by
  unfold aExt at h
  split at h
  · cases hu with
    | tup arr f hl h1 h2 => exact ⟨_, h2 _ _ h, fun w => by simp [Instr.extract, h1 _ _ h]⟩
  · cases h
theorem aPick_ok {P : Program} {Im : Imm} {ρ : List Loc} {c a b r : AV} {u v z : Value} (h : aPick c a b = some r) (hu : VR Im ρ c u) (hv : VR Im ρ a v) (hz : VR Im ρ b z) : ∃ y, VR Im ρ r y ∧ ∀ w, (do pure (.value (if ← asBool u then v else z)) : Sem Next).run P w = .ok (.value y) w := by
  unfold aPick at h
  split at h
  · cases h
    cases hu
    rename_i t _
    exact ⟨if t = true then v else z, by cases t <;> simpa, fun w => by simp [asBool]⟩
  · cases h
theorem aNilck_ok {P : Program} {Im : Imm} {ρ : List Loc} {x r : AV} {u : Value} (h : aNilck x = some r) (hu : VR Im ρ x u) : VR Im ρ r u ∧ ∃ a, u = .pointer (some a) := by
  unfold aNilck at h
  split at h
  · cases h; exact ⟨hu, by cases hu; exact ⟨_, rfl⟩⟩
  · cases h; exact ⟨hu, by cases hu; exact ⟨_, rfl⟩⟩
  · cases h
end Go.Proofs.Ytkaigdfklihlcaa.Sym
