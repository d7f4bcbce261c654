/- Pieces in cells. -/
import Derived.Test.YthmmgpdniijkeaaTab
import Derived.Test.YthmmgpdniijkeaaSymR
namespace Go.Proofs.Ythmmgpdniijkeaa.Bus
open Go Go.Proofs.Ythmmgpdniijkeaa.Sym Go.Proofs.Ythmmgpdniijkeaa.Tab
set_option linter.unusedVariables false
set_option linter.unusedSimpArgs false
set_option maxHeartbeats 4000000
structure Pc where
  b : ByteArray
  src : Int
  to : Int
  hurt : Bool
def Pc.c (p : Pc) : List AV := [.v (.string p.b), .v (.int .i64 p.src), .v (.int .u32 p.to), .v (.bool p.hurt)]
def zp : Pc := ⟨ByteArray.empty, 0, 0, false⟩
def pcs (l : List Pc) : List AV := l.flatMap Pc.c
theorem pcs_nil : pcs [] = [] := rfl
theorem pcs_cons {p : Pc} {l : List Pc} : pcs (p :: l) = p.c ++ pcs l := rfl
theorem pcs_len {l : List Pc} : (pcs l).length = l.length * 4 := by
  induction l with
  | nil => rfl
  | cons f l ih => rw [pcs_cons, List.length_append, ih]; simp [Pc.c]; omega
theorem pcs_flat {l : List Pc} : (pcs l).all flat0 = true := by
  induction l with
  | nil => rfl
  | cons f l ih => rw [pcs_cons, List.all_append, ih]; rfl
theorem pcs_atom {l : List Pc} : (pcs l).all atom = true := by
  induction l with
  | nil => rfl
  | cons f l ih => rw [pcs_cons, List.all_append, ih]; rfl
theorem pcs_app {l m : List Pc} : pcs l ++ pcs m = pcs (l ++ m) := by simp [pcs]
theorem pcs_one {l : List Pc} {p : Pc} : pcs (l ++ [p]) = pcs l ++ p.c := by simp [pcs]
theorem pcs_drop : ∀ (l : List Pc) (k : Nat), (pcs l).drop (k * 4) = pcs (l.drop k)
  | l, 0 => by simp
  | [], k + 1 => by simp [pcs]
  | f :: l, k + 1 => by
    have := pcs_drop l k
    rw [List.drop_succ_cons, ← this, pcs_cons, show (k + 1) * 4 = f.c.length + k * 4 by simp [Pc.c]; omega, ← List.drop_drop]
    simp
theorem pcs_take : ∀ (l : List Pc) (k : Nat), (pcs l).take (k * 4) = pcs (l.take k)
  | l, 0 => by simp [pcs]
  | [], k + 1 => by simp [pcs]
  | f :: l, k + 1 => by
    have := pcs_take l k
    rw [List.take_succ_cons, pcs_cons, pcs_cons, ← this, show (k + 1) * 4 = f.c.length + k * 4 by simp [Pc.c]; omega, List.take_append, List.take_of_length_le (by omega), Nat.add_sub_cancel_left]
theorem pcs_at {l : List Pc} {k : Nat} (h : k < l.length) : ((pcs l).drop (k * 4)).take 4 = l[k].c := by
  rw [pcs_drop, List.drop_eq_getElem_cons h, pcs_cons, show 4 = (l[k].c).length from rfl, List.take_left]
theorem pcs_cell {l : List Pc} {k : Nat} (h : k < l.length) (j : Nat) (hj : j < 4) : (pcs l)[k * 4 + j]? = l[k].c[j]? := by
  rw [← pcs_at h, List.getElem?_take_of_lt hj, List.getElem?_drop]
theorem pcs_set0 : ∀ (l : List Pc) (k : Nat) (p : Pc) (j : Nat) (a : AV), k < l.length → l[k]? = some p → j < 4 → (pcs l).set (k * 4 + j) a = (pcs (l.take k)) ++ (p.c.set j a) ++ pcs (l.drop (k + 1))
  | [], k, p, j, a, h, _, _ => by simp at h
  | f :: l, 0, p, j, a, h, hp, hj => by
    simp only [List.getElem?_cons_zero, Option.some.injEq] at hp
    subst hp
    rw [pcs_cons, List.set_append_left _ _ (by simp [Pc.c]; omega)]
    simp [pcs]
  | f :: l, k + 1, p, j, a, h, hp, hj => by
    have ih := pcs_set0 l k p j a (by simpa using h) (by simpa using hp) hj
    rw [pcs_cons, List.set_append_right _ _ (by simp [Pc.c]; omega)]
    have e : (k + 1) * 4 + j - f.c.length = k * 4 + j := by simp [Pc.c]; omega
    rw [e, ih, List.take_succ_cons, pcs_cons]
    simp
theorem pcs_set {l : List Pc} {k : Nat} {p q : Pc} {j : Nat} {a : AV} (hp : l[k]? = some p) (hj : j < 4) (hq : p.c.set j a = q.c) : (pcs l).set (k * 4 + j) a = pcs (l.set k q) := by
  have hk := (List.getElem?_eq_some_iff.1 hp).1
  rw [pcs_set0 l k p j a hk hp hj, hq, List.set_eq_take_append_cons_drop, if_pos hk]
  simp [pcs]
theorem putL_mid : ∀ (m l r s : List AV), m.length = s.length → putL (l ++ s ++ r) l.length m = l ++ m ++ r
  | [], l, r, s, h => by
    obtain rfl : s = [] := List.eq_nil_of_length_eq_zero (by simpa using h.symm)
    rfl
  | x :: m, l, r, s, h => by
    cases s with
    | nil => simp at h
    | cons y s =>
      rw [putL]
      have e : (l ++ (y :: s) ++ r).set l.length x = (l ++ [x]) ++ s ++ r := by simp
      have ih := putL_mid m (l ++ [x]) r s (by simpa using h)
      rw [List.length_append, List.length_singleton] at ih
      rw [e, ih]
      simp
theorem pcs_putL {l m : List Pc} {k : Nat} (h : k + m.length ≤ l.length) : putL (pcs l) (k * 4) (pcs m) = pcs (l.take k ++ m ++ l.drop (k + m.length)) := by
  have e : l = l.take k ++ (l.drop k).take m.length ++ l.drop (k + m.length) := by
    rw [← List.drop_drop, List.append_assoc, List.take_append_drop, List.take_append_drop]
  have h1 : (pcs (l.take k)).length = k * 4 := by rw [pcs_len, List.length_take]; omega
  have h2 : (pcs m).length = (pcs ((l.drop k).take m.length)).length := by rw [pcs_len, pcs_len, List.length_take, List.length_drop]; omega
  conv => lhs; rw [e]
  rw [← pcs_app, ← pcs_app, ← pcs_app, ← pcs_app, ← h1]
  exact putL_mid _ _ _ _ h2
theorem reps_zp (n : Nat) : reps n zp.c = pcs (List.replicate n zp) := by
  induction n with
  | zero => rfl
  | succ n ih => rw [reps, ih, List.replicate_succ, pcs_cons]
/-- A bus: its pieces, how many places behind them are known, the fault; was nothing ever sent? -/
structure Bs where
  l : List Pc
  z : Nat
  fault : Bool
def Bs.all (b : Bs) : List Pc := b.l ++ List.replicate b.z zp
def Bs.ob (b : Bs) (fr : Bool) : List Sym.Obj := [⟨true, fr, false, [.view 1 0 b.l.length 4 none, .v (.bool b.fault)]⟩, ⟨true, fr, true, pcs b.all⟩]
/-- One to which nothing was ever sent. -/
def ob0 (fault fr : Bool) : List Sym.Obj := [⟨true, fr, true, [.v (.slice none 0 0), .v (.bool fault)]⟩]
theorem all_len (b : Bs) : b.all.length = b.l.length + b.z := by simp [Bs.all]
theorem all_at (b : Bs) {k : Nat} (h : k < b.l.length) : b.all[k]? = b.l[k]? := by
  unfold Bs.all
  rw [List.getElem?_append_left h]
end Go.Proofs.Ythmmgpdniijkeaa.Bus
