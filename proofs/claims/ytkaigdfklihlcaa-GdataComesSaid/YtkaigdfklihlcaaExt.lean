/- What is known of library functions: strings.Repeat. -/
import Derived.Test.YtkaigdfklihlcaaRep
import Derived.Test.YtkaigdfklihlcaaSymQ
namespace Go.Proofs.Ytkaigdfklihlcaa.Ext
open Go Go.Proofs.Ytkaigdfklihlcaa.Sym
set_option linter.unusedVariables false
def rep (s : ByteArray) (c : Nat) : ByteArray := ⟨(Lib.repeatL s.data.toList c).toArray⟩
def ext : CT := fun f n args Ω => match args, Ω with
  | [.v (.string s), .v (.int .i64 c)], [] => if f = 28 ∧ n = 0 ∧ 0 ≤ c ∧ c ≤ 9223372036854775807 ∧ s.size * c.toNat ≤ 140737488355328 then some ⟨.v (.string (rep s c.toNat)), [], 1⟩ else none
  | _, _ => none
theorem ext_ok : CallsOK Try.prog ext := by
  intro f n args Ω r h Im ρ w vals hR hst hn hv
  unfold ext at h
  split at h
  case h_2 => cases h
  rename_i s c
  split at h
  case isFalse => cases h
  rename_i hc
  obtain ⟨rfl, rfl, h0, h1, h2⟩ := hc
  cases h
  have hvals : vals = [.string s, .int .i64 c] := by
    match vals, hv with
    | [a, b], hv =>
      obtain ⟨ha, hb, _⟩ := hv
      cases ha
      cases hb
      rfl
  subst hvals
  have hx := Go.Proofs.Try.strings_Repeat s c.toNat w (by omega) h2
  rw [Int.toNat_of_nonneg h0] at hx
  refine ⟨⟨_, Try.func28, by kernel_rfl, by kernel_rfl⟩, hx.mono fun e w' h => ?_⟩
  obtain ⟨he, hb⟩ := h
  refine ⟨_, Im, ρ, he, ?_⟩
  exact
    { val := .v rfl
      rel := hR.same hb.block
      im := fun b arr h => h
      imn := fun b h _ => h
      roots := fun i hi => rfl
      fr := ⟨hb.os, hb.tape, hb.output, hb.size, fun b h _ => hb.block b h⟩
      still := fun h => by cases h
      lvl := by show 1 ≤ 2; decide
      new := fun b h => .inl h
      fresh := fun b h => by
        obtain ⟨k, o, s1, s2, hk, _⟩ := h
        cases hk }
end Go.Proofs.Ytkaigdfklihlcaa.Ext
