/- What the abstract machine's values and objects stand for in a program's memory. -/
import Derived.Test.YtkaigdfklihlcaaSymA
import Derived.Laws.World
import Derived.Laws.Entries
namespace Go.Proofs.Ytkaigdfklihlcaa.Sym
open Go
set_option linter.unusedVariables false
set_option linter.unusedSimpArgs false

abbrev Loc := Option (Nat × Nat × Nat)
abbrev Imm := Nat → Option (Array Value)

inductive VR (Im : Imm) : List Loc → AV → Value → Prop
  | v {ρ x} (h : pl x = true) : VR Im ρ (.v x) x
  | dead {ρ} : VR Im ρ .dead undef
  | shr {ρ n cl xs} (b o cap : Nat) (arr : Array Value) (f : Nat → Value) (hb : Im b = some arr) (hc : n ≤ cap) (hcl : cl = true → cap = n) (ha : ∀ (i : Nat) a, xs[i]? = some a → atom a = true)
      (h1 : ∀ (i : Nat) a, xs[i]? = some a → arr[o + i]? = some (f i)) (h2 : ∀ (i : Nat) a, xs[i]? = some a → VR Im [] a (f i)) : VR Im ρ (.shr n cl xs) (.slice (some ⟨b, o, none⟩) n cap)
  | shr0 {ρ cl} (a : Option Addr) : VR Im ρ (.shr 0 cl []) (.slice a 0 0)
  | iptr {ρ xs off} (b o : Nat) (arr : Array Value) (f : Nat → Value) (hb : Im b = some arr) (ha : ∀ (i : Nat) a, xs[i]? = some a → atom a = true)
      (h1 : ∀ (i : Nat) a, xs[i]? = some a → arr[o + i]? = some (f i)) (h2 : ∀ (i : Nat) a, xs[i]? = some a → VR Im [] a (f i)) : VR Im ρ (.iptr xs off) (.pointer (some ⟨b, o + off, none⟩))
  | ptr {ρ k off} (b o s : Nat) (hk : ρ[k]? = some (some (b, o, s))) : VR Im ρ (.ptr k off) (.pointer (some ⟨b, o + off, none⟩))
  | view {ρ k off n sz c} (b o s cap : Nat) (hk : ρ[k]? = some (some (b, o, s))) (hc : n ≤ cap) (h1 : ∀ m, c = some m → cap = m) (h2 : o + off + cap * sz ≤ s) (h3 : c = none → o + off + cap * sz = s) :
      VR Im ρ (.view k off n sz c) (.slice (some ⟨b, o + off, none⟩) n cap)
  | viewE {ρ k off sz c} (b o s o' : Nat) (hk : ρ[k]? = some (some (b, o, s))) (h1 : ∀ m, c = some m → m = 0) (h2 : o' ≤ s) (h3 : c = none → o + off = s) : VR Im ρ (.view k off 0 sz c) (.slice (some ⟨b, o', none⟩) 0 0)
  | view0 {ρ k off sz c} (hk : ρ[k]? = some none) (h1 : ∀ m, c = some m → m = 0) : VR Im ρ (.view k off 0 sz c) (.slice none 0 0)
  | agg {ρ cs} (arr : Array Value) (f : Nat → Value) (hl : cs.length = arr.size) (h1 : ∀ (i : Nat) a, cs[i]? = some a → arr[i]? = some (f i)) (h2 : ∀ (i : Nat) a, cs[i]? = some a → VR Im ρ a (f i)) : VR Im ρ (.agg cs) (.agg arr)
  | tup {ρ cs} (arr : Array Value) (f : Nat → Value) (hl : cs.length = arr.size) (h1 : ∀ (i : Nat) a, cs[i]? = some a → arr[i]? = some (f i)) (h2 : ∀ (i : Nat) a, cs[i]? = some a → VR Im ρ a (f i)) : VR Im ρ (.tup cs) (.tuple arr)
  | fn {ρ g cs} (arr : Array Value) (f : Nat → Value) (hl : cs.length = arr.size) (h1 : ∀ (i : Nat) a, cs[i]? = some a → arr[i]? = some (f i)) (h2 : ∀ (i : Nat) a, cs[i]? = some a → VR Im ρ a (f i)) : VR Im ρ (.fn g cs) (.func (.func g) #[] arr)

def ImLe (Im Im' : Imm) : Prop := ∀ b arr, Im b = some arr → Im' b = some arr
def RhoLe (ρ ρ' : List Loc) : Prop := ∀ (k : Nat) (x : Loc), ρ[k]? = some x → ρ'[k]? = some x
theorem ImLe.refl (Im : Imm) : ImLe Im Im := fun _ _ h => h
theorem ImLe.trans {a b c : Imm} (h : ImLe a b) (h' : ImLe b c) : ImLe a c := fun x y hh => h' _ _ (h _ _ hh)
theorem RhoLe.refl (ρ : List Loc) : RhoLe ρ ρ := fun _ _ h => h
theorem RhoLe.trans {a b c : List Loc} (h : RhoLe a b) (h' : RhoLe b c) : RhoLe a c := fun x y hh => h' _ _ (h _ _ hh)
theorem RhoLe.snoc (ρ : List Loc) (l : Loc) : RhoLe ρ (ρ ++ [l]) := fun k x h => by
  rw [List.getElem?_append_left (List.getElem?_eq_some_iff.1 h).1]
  exact h

theorem VR.mono {Im Im' : Imm} (hI : ImLe Im Im') {ρ : List Loc} {a : AV} {x : Value} (h : VR Im ρ a x) : ∀ ρ', RhoLe ρ ρ' → VR Im' ρ' a x := by
  induction h with
  | v h => exact fun _ _ => .v h
  | dead => exact fun _ _ => .dead
  | shr b o cap arr f hb hc hcl ha h1 h2 ih => exact fun _ _ => .shr b o cap arr f (hI _ _ hb) hc hcl ha h1 (fun i a hi => ih i a hi _ (RhoLe.refl _))
  | shr0 a => exact fun _ _ => .shr0 a
  | iptr b o arr f hb ha h1 h2 ih => exact fun _ _ => .iptr b o arr f (hI _ _ hb) ha h1 (fun i a hi => ih i a hi _ (RhoLe.refl _))
  | ptr b o s hk => exact fun _ hρ => .ptr b o s (hρ _ _ hk)
  | view b o s cap hk hc h1 h2 h3 => exact fun _ hρ => .view b o s cap (hρ _ _ hk) hc h1 h2 h3
  | viewE b o s o' hk h1 h2 h3 => exact fun _ hρ => .viewE b o s o' (hρ _ _ hk) h1 h2 h3
  | view0 hk h1 => exact fun _ hρ => .view0 (hρ _ _ hk) h1
  | agg arr f hl h1 h2 ih => exact fun _ hρ => .agg arr f hl h1 (fun i a hi => ih i a hi _ hρ)
  | tup arr f hl h1 h2 ih => exact fun _ hρ => .tup arr f hl h1 (fun i a hi => ih i a hi _ hρ)
  | fn arr f hl h1 h2 ih => exact fun _ hρ => .fn arr f hl h1 (fun i a hi => ih i a hi _ hρ)

theorem VR.flat {Im : Imm} {ρ ρ' : List Loc} {a : AV} {x : Value} (hf : flat0 a = true) (h : VR Im ρ a x) : VR Im ρ' a x := by
  cases h with
  | v h => exact .v h
  | shr b o cap arr f hb hc hcl ha h1 h2 => exact .shr b o cap arr f hb hc hcl ha h1 h2
  | shr0 a => exact .shr0 a
  | iptr b o arr f hb ha h1 h2 => exact .iptr b o arr f hb ha h1 h2
  | _ => simp [flat0] at hf

theorem VR.one {Im : Imm} {ρ : List Loc} {a : AV} {x : Value} (hf : atom a = true) (h : VR Im ρ a x) : x.oneCell' = true := by
  cases h with
  | v h => cases x <;> simp_all [pl, Value.oneCell']
  | dead => simp [atom] at hf
  | agg => simp [atom] at hf
  | tup => simp [atom] at hf
  | _ => rfl

theorem oneCell_cells {x : Value} (h : x.oneCell' = true) : x.cells = #[x] := by cases x <;> simp_all [Value.oneCell', Value.cells]

/-- A value's cells. -/
theorem VR.cells {Im : Imm} {ρ : List Loc} {a : AV} {x : Value} (hf : (cellsOf a).all atom = true) (h : VR Im ρ a x) :
    ∃ f : Nat → Value, (cellsOf a).length = x.cells.size ∧ (∀ (i : Nat) c, (cellsOf a)[i]? = some c → x.cells[i]? = some (f i)) ∧ (∀ (i : Nat) c, (cellsOf a)[i]? = some c → VR Im ρ c (f i)) := by
  have one : cellsOf a = [a] → ∃ f : Nat → Value, (cellsOf a).length = x.cells.size ∧ (∀ (i : Nat) c, (cellsOf a)[i]? = some c → x.cells[i]? = some (f i)) ∧ (∀ (i : Nat) c, (cellsOf a)[i]? = some c → VR Im ρ c (f i)) := fun e => by
    rw [e] at hf ⊢
    have h1 : atom a = true := by simpa using hf
    rw [oneCell_cells (h.one h1)]
    refine ⟨fun _ => x, rfl, fun i c hi => ?_, fun i c hi => ?_⟩
    · have : i = 0 := by have := (List.getElem?_eq_some_iff.1 hi).1; simp at this; omega
      subst this
      rfl
    · have : i = 0 := by have := (List.getElem?_eq_some_iff.1 hi).1; simp at this; omega
      subst this
      simp only [List.getElem?_cons_zero, Option.some.injEq] at hi
      subst hi
      exact h
  cases h with
  | agg arr f hl h1 h2 => exact ⟨f, hl, h1, h2⟩
  | _ => exact one rfl

/-- Does an object lie where it is said to lie? -/
def ObjAt (Im : Imm) (ρ : List Loc) (w : World) (k : Nat) (o : Obj) : Prop :=
  (∃ (b base s : Nat) (arr : Array Value) (T : TypeId) (fz : Nat × Nat), ρ[k]? = some (some (b, base, s)) ∧ w.heap[b]? = some (.cells arr T fz) ∧ fz.2 ≤ fz.1 + 1 ∧ (fz.1 < fz.2 → s ≤ fz.1) ∧ arr.size = s ∧ base + o.cells.length ≤ s ∧ Im b = none ∧
    ∃ f : Nat → Value, (∀ (i : Nat) a, o.cells[i]? = some a → arr[base + i]? = some (f i)) ∧ (∀ (i : Nat) a, o.cells[i]? = some a → VR Im ρ a (f i))) ∨
  (ρ[k]? = some none ∧ o.cells = [])

structure Rel (Im : Imm) (ρ : List Loc) (Ω : List Obj) (w : World) : Prop where
  len : ρ.length = Ω.length
  im : ∀ b arr, Im b = some arr → ∃ T fz, w.heap[b]? = some (.cells arr T fz)
  obj : ∀ (k : Nat) o, Ω[k]? = some o → o.live = true → ObjAt Im ρ w k o
  atoms : ∀ (k : Nat) o, Ω[k]? = some o → o.live = true → ∀ a ∈ o.cells, atom a = true
  flat : ∀ (k : Nat) o, Ω[k]? = some o → o.live = true → o.flat = true → ∀ a ∈ o.cells, flat0 a = true
  sep : ∀ (k k' : Nat) o o' b s1 s2 b' s1' s2', Ω[k]? = some o → Ω[k']? = some o' → o.live = true → o'.live = true → k ≠ k' → ρ[k]? = some (some (b, s1, s2)) → ρ[k']? = some (some (b', s1', s2')) → b ≠ b'

/-- Blocks of live objects. -/
def LB (ρ : List Loc) (Ω : List Obj) (b : Nat) : Prop := ∃ (k : Nat) (o : Obj) (s1 s2 : Nat), Ω[k]? = some o ∧ o.live = true ∧ ρ[k]? = some (some (b, s1, s2))
/-- Nothing that was there has changed, but for blocks of S. -/
structure Fr (w w' : World) (S : Nat → Prop) : Prop where
  os : w'.os = w.os
  tape : w'.tape = w.tape
  output : w'.output = w.output
  size : w.heap.size ≤ w'.heap.size
  block : ∀ b, b < w.heap.size → ¬ S b → w'.heap[b]? = w.heap[b]?
theorem Fr.refl (w : World) (S : Nat → Prop) : Fr w w S := ⟨rfl, rfl, rfl, Nat.le_refl _, fun _ _ _ => rfl⟩
theorem Fr.trans {w w1 w2 : World} {S S' : Nat → Prop} (h : Fr w w1 S) (h' : Fr w1 w2 S') (hS : ∀ b, S' b → S b ∨ w.heap.size ≤ b) : Fr w w2 S :=
  ⟨h'.os.trans h.os, h'.tape.trans h.tape, h'.output.trans h.output, Nat.le_trans h.size h'.size, fun b hb hn => by
    rw [h'.block b (Nat.lt_of_lt_of_le hb h.size) (fun hs => by rcases hS b hs with h | h; exact hn h; omega), h.block b hb hn]⟩
theorem Fr.imp {w w' : World} {S S' : Nat → Prop} (h : Fr w w' S) (hS : ∀ b, S b → S' b) : Fr w w' S' := ⟨h.os, h.tape, h.output, h.size, fun b hb hn => h.block b hb (fun hs => hn (hS b hs))⟩
theorem Fr.drew {w w' : World} {S : Nat → Prop} (h : Fr w w' S) : Fr w w'.drew S := ⟨h.os, h.tape, h.output, h.size, h.block⟩
theorem Fr.alloc {w w' : World} {S : Nat → Prop} (h : Fr w w' S) (o : Go.Obj) : Fr w (w'.alloc o) S := by
  refine ⟨h.os, h.tape, h.output, ?_, fun b hb hn => ?_⟩
  · show w.heap.size ≤ (w'.heap.push o).size
    rw [Array.size_push]
    have := h.size
    omega
  · show (w'.heap.push o)[b]? = _
    have := h.size
    rw [Array.getElem?_push_lt (by omega), ← h.block b hb hn, Array.getElem?_eq_getElem (by omega)]
end Go.Proofs.Ytkaigdfklihlcaa.Sym
