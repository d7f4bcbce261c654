/- A value's frames. -/
import Derived.Test.YtkaigdfklihlcaaPut
import Derived.Test.YtkaigdfklihlcaaAll
namespace Go.Proofs.Ytkaigdfklihlcaa.Spl
open Go Go.Proofs.Ytkaigdfklihlcaa.Sym Go.Proofs.Ytkaigdfklihlcaa.Tab Go.Proofs.Ytkaigdfklihlcaa.Blk Go.Proofs.Ytkaigdfklihlcaa.Glue Go.Proofs.Ytkaigdfklihlcaa.Refs
set_option linter.unusedVariables false
set_option linter.unusedSimpArgs false
set_option maxHeartbeats 4000000
set_option maxRecDepth 20000
def frs (l : List Fr) : List AV := l.flatMap Fr.c
/-- What is in a frame's other cells may stand in cells. -/
def Fr.Ok (f : Fr) : Prop := True
theorem frs_nil : frs [] = [] := rfl
theorem frs_cons {f : Fr} {l : List Fr} : frs (f :: l) = f.c ++ frs l := rfl
theorem frs_len {l : List Fr} : (frs l).length = l.length * 19 := by
  induction l with
  | nil => rfl
  | cons f l ih => rw [frs_cons, List.length_append, ih]; simp [Fr.c]; omega
theorem frs_flat {l : List Fr} : (frs l).all flat0 = true := by
  induction l with
  | nil => rfl
  | cons f l ih => rw [frs_cons, List.all_append, ih]; rfl
theorem frs_atom {l : List Fr} : (frs l).all atom = true := by
  induction l with
  | nil => rfl
  | cons f l ih => rw [frs_cons, List.all_append, ih]; rfl
theorem frs_app {l m : List Fr} : frs l ++ frs m = frs (l ++ m) := by simp [frs]
theorem frs_snoc {l : List Fr} {f : Fr} : frs l ++ f.c = frs (l ++ [f]) := by simp [frs]
theorem frs_take {l : List Fr} : (frs l).take (l.length * 19) = frs l := by rw [← frs_len, List.take_length]
theorem snoc_len {l : List Fr} {f : Fr} : (l ++ [f]).length = l.length + 1 := by simp
theorem frs_take' {l : List Fr} {f : Fr} : (frs (l ++ [f])).take ((l.length + 1) * 19) = frs (l ++ [f]) := by
  have := frs_take (l := l ++ [f])
  rwa [snoc_len] at this
theorem frs_one {l : List Fr} {f : Fr} : frs (l ++ [f]) = frs l ++ f.c := frs_snoc.symm
/-- A part's bytes. -/
def cut (s : ByteArray) (p : Int) : ByteArray := s.extract (piece s.size p).1.toNat ((piece s.size p).1 + (piece s.size p).2).toNat
def fr (g : Fr) (s : ByteArray) (i : Nat) : Fr := { g with kind := 4, part := i, np := parts s.size, b := cut s i }
theorem fr_fr (g : Fr) (s : ByteArray) (i j : Nat) : fr (fr g s i) s j = fr g s j := rfl
def tail (g : Fr) (s : ByteArray) : Nat → Nat → List Fr
  | 0, _ => []
  | n + 1, i => fr g s i :: tail g s n (i + 1)
theorem tail_fr (g : Fr) (s : ByteArray) (j : Nat) : ∀ n i, tail (fr g s j) s n i = tail g s n i
  | 0, _ => rfl
  | n + 1, i => by rw [tail, tail, tail_fr g s j n, fr_fr]
/-- All of a value's frames. -/
def split (g : Fr) (s : ByteArray) : List Fr := tail g s (parts s.size).toNat 0
def rowA (l : List Fr) : AV := if l.isEmpty = true then .v (.slice none 0 0) else .shr l.length false (frs l)
end Go.Proofs.Ytkaigdfklihlcaa.Spl
