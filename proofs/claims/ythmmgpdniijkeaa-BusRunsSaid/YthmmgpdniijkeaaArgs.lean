/- What the laws are given. Written by a program for this claim. -/
import Derived.Test.YthmmgpdniijkeaaSymS
import Derived.Test.YthmmgpdniijkeaaProg
import Derived.KernelRfl
namespace Go.Proofs.Ythmmgpdniijkeaa.Args
open Go Go.Proofs.Ythmmgpdniijkeaa.Sym
set_option linter.unusedVariables false
/-- fuglemanlaw09.Act = fugleman/fuglemanlaw09.Act -/
structure S32 where
  f0 : Int
  f1 : Int
  f2 : Int
  f3 : Int
  f4 : ByteArray
def S32.av (v : S32) : List AV := [.v (.int .u8 v.f0), .v (.int .i64 v.f1), .v (.int .i64 v.f2), .v (.int .u16 v.f3), .v (.string v.f4)]
structure S32.In (v : S32) : Prop where
  f0 : (0 ≤ v.f0 ∧ v.f0 ≤ 255)
  f1 : (-9223372036854775808 ≤ v.f1 ∧ v.f1 ≤ 9223372036854775807)
  f2 : (-9223372036854775808 ≤ v.f2 ∧ v.f2 ≤ 9223372036854775807)
  f3 : (0 ≤ v.f3 ∧ v.f3 ≤ 65535)
  f4 : v.f4.size ≤ 140737488351232
theorem rd32 : Rd Try.prog 32 5 S32.av S32.In := rd_struct (rdF_cons 5 0 (rd_imp (rd_int Try.underlying5) fun v h => rng_u8 h) (by kernel_rfl) (rdF_cons 3 1 (rd_imp (rd_int Try.underlying3) fun v h => rng_i64 h) (by kernel_rfl) (rdF_cons 3 2 (rd_imp (rd_int Try.underlying3) fun v h => rng_i64 h) (by kernel_rfl) (rdF_cons 30 3 (rd_imp (rd_int Try.underlying30) fun v h => rng_u16 h) (by kernel_rfl) (rdF_one 9 4 (rd_string Try.underlying9) (by kernel_rfl)))))) Try.underlying32 rfl (fun v => ⟨v.1, v.2.1, v.2.2.1, v.2.2.2.1, v.2.2.2.2⟩) (fun _ => rfl) (fun _ => rfl) (fun v h => ⟨h.1, h.2.1, h.2.2.1, h.2.2.2.1, h.2.2.2.2⟩) (by kernel_rfl)
theorem rBusHurts1 : Rd Try.prog 32 5 S32.av (fun v : S32 => S32.In v) := rd32
theorem rBusHurts2 : Rd Try.prog 32 5 S32.av (fun v : S32 => S32.In v) := rd32
theorem rBusRuns0 : Rd Try.prog 42 1 (fun x : List (S32) => [.shr x.length false (x.flatMap S32.av)]) (fun v : List (S32) => (v.length ≤ 140737488351232 ∧ ∀ (i0 : Nat) x0, v[i0]? = some x0 → S32.In x0)) := (rd_slice Try.underlying42 rd32 (by kernel_rfl) (by kernel_rfl))
end Go.Proofs.Ythmmgpdniijkeaa.Args
