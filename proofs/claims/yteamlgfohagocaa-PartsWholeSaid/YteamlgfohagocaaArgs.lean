/- What the laws are given. Written by a program for this claim. -/
import Derived.Test.YteamlgfohagocaaSymS
import Derived.Test.YteamlgfohagocaaProg
import Derived.KernelRfl
namespace Go.Proofs.Yteamlgfohagocaa.Args
open Go Go.Proofs.Yteamlgfohagocaa.Sym
set_option linter.unusedVariables false
/-- api.Epoch = fugleman/api.Epoch -/
structure S24 where
  f0 : Int
  f1 : Int
  f2 : Int
def S24.av (v : S24) : List AV := [.v (.int .u16 v.f0), .v (.int .u8 v.f1), .v (.int .u16 v.f2)]
structure S24.In (v : S24) : Prop where
  f0 : (0 ≤ v.f0 ∧ v.f0 ≤ 65535)
  f1 : (0 ≤ v.f1 ∧ v.f1 ≤ 255)
  f2 : (0 ≤ v.f2 ∧ v.f2 ≤ 65535)
theorem rd24 : Rd Try.prog 24 3 S24.av S24.In := rd_struct (rdF_cons 22 0 (rd_imp (rd_int Try.underlying22) fun v h => rng_u16 h) (by kernel_rfl) (rdF_cons 5 1 (rd_imp (rd_int Try.underlying5) fun v h => rng_u8 h) (by kernel_rfl) (rdF_one 22 2 (rd_imp (rd_int Try.underlying22) fun v h => rng_u16 h) (by kernel_rfl)))) Try.underlying24 rfl (fun v => ⟨v.1, v.2.1, v.2.2⟩) (fun _ => rfl) (fun _ => rfl) (fun v h => ⟨h.1, h.2.1, h.2.2⟩) (by kernel_rfl)
/-- api.Version = fugleman/api.Version -/
structure S27 where
  f0 : Int
  f1 : Int
def S27.av (v : S27) : List AV := [.v (.int .u16 v.f0), .v (.int .u32 v.f1)]
structure S27.In (v : S27) : Prop where
  f0 : (0 ≤ v.f0 ∧ v.f0 ≤ 65535)
  f1 : (0 ≤ v.f1 ∧ v.f1 ≤ 4294967295)
theorem rd27 : Rd Try.prog 27 2 S27.av S27.In := rd_struct (rdF_cons 22 0 (rd_imp (rd_int Try.underlying22) fun v h => rng_u16 h) (by kernel_rfl) (rdF_one 25 1 (rd_imp (rd_int Try.underlying25) fun v h => rng_u32 h) (by kernel_rfl))) Try.underlying27 rfl (fun v => ⟨v.1, v.2⟩) (fun _ => rfl) (fun _ => rfl) (fun v h => ⟨h.1, h.2⟩) (by kernel_rfl)
/-- api.Frame = fugleman/api.Frame -/
structure S29 where
  f0 : Int
  f1 : Int
  f2 : Int
  f3 : Int
  f4 : Int
  f5 : S24
  f6 : Int
  f7 : S24
  f8 : Bool
  f9 : Int
  f10 : S27
  f11 : Int
  f12 : Int
  f13 : ByteArray
def S29.av (v : S29) : List AV := [.v (.int .i64 v.f0), .v (.int .u8 v.f1), .v (.int .u8 v.f2), .v (.int .u16 v.f3), .v (.int .u16 v.f4), .v (.int .u16 v.f5.f0), .v (.int .u8 v.f5.f1), .v (.int .u16 v.f5.f2), .v (.int .u16 v.f6), .v (.int .u16 v.f7.f0), .v (.int .u8 v.f7.f1), .v (.int .u16 v.f7.f2), .v (.bool v.f8), .v (.int .u8 v.f9), .v (.int .u16 v.f10.f0), .v (.int .u32 v.f10.f1), .v (.int .u8 v.f11), .v (.int .u8 v.f12), .v (.string v.f13)]
structure S29.In (v : S29) : Prop where
  f0 : (-9223372036854775808 ≤ v.f0 ∧ v.f0 ≤ 9223372036854775807)
  f1 : (0 ≤ v.f1 ∧ v.f1 ≤ 255)
  f2 : (0 ≤ v.f2 ∧ v.f2 ≤ 255)
  f3 : (0 ≤ v.f3 ∧ v.f3 ≤ 65535)
  f4 : (0 ≤ v.f4 ∧ v.f4 ≤ 65535)
  f5 : S24.In v.f5
  f6 : (0 ≤ v.f6 ∧ v.f6 ≤ 65535)
  f7 : S24.In v.f7
  f8 : True
  f9 : (0 ≤ v.f9 ∧ v.f9 ≤ 255)
  f10 : S27.In v.f10
  f11 : (0 ≤ v.f11 ∧ v.f11 ≤ 255)
  f12 : (0 ≤ v.f12 ∧ v.f12 ≤ 255)
  f13 : v.f13.size ≤ 140737488351232
theorem rd29 : Rd Try.prog 29 19 S29.av S29.In := rd_struct (rdF_cons 3 0 (rd_imp (rd_int Try.underlying3) fun v h => rng_i64 h) (by kernel_rfl) (rdF_cons 5 1 (rd_imp (rd_int Try.underlying5) fun v h => rng_u8 h) (by kernel_rfl) (rdF_cons 5 2 (rd_imp (rd_int Try.underlying5) fun v h => rng_u8 h) (by kernel_rfl) (rdF_cons 22 3 (rd_imp (rd_int Try.underlying22) fun v h => rng_u16 h) (by kernel_rfl) (rdF_cons 22 4 (rd_imp (rd_int Try.underlying22) fun v h => rng_u16 h) (by kernel_rfl) (rdF_cons 24 5 rd24 (by kernel_rfl) (rdF_cons 22 8 (rd_imp (rd_int Try.underlying22) fun v h => rng_u16 h) (by kernel_rfl) (rdF_cons 24 9 rd24 (by kernel_rfl) (rdF_cons 4 12 (rd_bool Try.underlying4) (by kernel_rfl) (rdF_cons 5 13 (rd_imp (rd_int Try.underlying5) fun v h => rng_u8 h) (by kernel_rfl) (rdF_cons 27 14 rd27 (by kernel_rfl) (rdF_cons 5 16 (rd_imp (rd_int Try.underlying5) fun v h => rng_u8 h) (by kernel_rfl) (rdF_cons 5 17 (rd_imp (rd_int Try.underlying5) fun v h => rng_u8 h) (by kernel_rfl) (rdF_one 9 18 (rd_string Try.underlying9) (by kernel_rfl))))))))))))))) Try.underlying29 rfl (fun v => ⟨v.1, v.2.1, v.2.2.1, v.2.2.2.1, v.2.2.2.2.1, v.2.2.2.2.2.1, v.2.2.2.2.2.2.1, v.2.2.2.2.2.2.2.1, v.2.2.2.2.2.2.2.2.1, v.2.2.2.2.2.2.2.2.2.1, v.2.2.2.2.2.2.2.2.2.2.1, v.2.2.2.2.2.2.2.2.2.2.2.1, v.2.2.2.2.2.2.2.2.2.2.2.2.1, v.2.2.2.2.2.2.2.2.2.2.2.2.2⟩) (fun _ => rfl) (fun _ => rfl) (fun v h => ⟨h.1, h.2.1, h.2.2.1, h.2.2.2.1, h.2.2.2.2.1, h.2.2.2.2.2.1, h.2.2.2.2.2.2.1, h.2.2.2.2.2.2.2.1, h.2.2.2.2.2.2.2.2.1, h.2.2.2.2.2.2.2.2.2.1, h.2.2.2.2.2.2.2.2.2.2.1, h.2.2.2.2.2.2.2.2.2.2.2.1, h.2.2.2.2.2.2.2.2.2.2.2.2.1, h.2.2.2.2.2.2.2.2.2.2.2.2.2⟩) (by kernel_rfl)
/-- fuglemanlaw17.Came = fugleman/fuglemanlaw17.Came -/
structure S44 where
  f0 : Int
  f1 : Int
def S44.av (v : S44) : List AV := [.v (.int .u8 v.f0), .v (.int .u8 v.f1)]
structure S44.In (v : S44) : Prop where
  f0 : (0 ≤ v.f0 ∧ v.f0 ≤ 255)
  f1 : (0 ≤ v.f1 ∧ v.f1 ≤ 255)
theorem rd44 : Rd Try.prog 44 2 S44.av S44.In := rd_struct (rdF_cons 5 0 (rd_imp (rd_int Try.underlying5) fun v h => rng_u8 h) (by kernel_rfl) (rdF_one 5 1 (rd_imp (rd_int Try.underlying5) fun v h => rng_u8 h) (by kernel_rfl))) Try.underlying44 rfl (fun v => ⟨v.1, v.2⟩) (fun _ => rfl) (fun _ => rfl) (fun v h => ⟨h.1, h.2⟩) (by kernel_rfl)
theorem rPartsSplits0 : Rd Try.prog 29 19 S29.av (fun v : S29 => S29.In v) := rd29
theorem rPartsSplits2 : Rd Try.prog 30 1 (fun x : List (Int) => [.shr x.length false (x.flatMap (fun x : Int => [.v (.int .u8 x)]))]) (fun v : List (Int) => (v.length ≤ 140737488351232 ∧ ∀ (i0 : Nat) x0, v[i0]? = some x0 → (0 ≤ x0 ∧ x0 ≤ 255))) := (rd_slice Try.underlying30 (rd_imp (rd_int Try.underlying5) fun v h => rng_u8 h) (by kernel_rfl) (by kernel_rfl))
theorem rPartsWhole1 : Rd Try.prog 40 1 (fun x : List (ByteArray) => [.shr x.length false (x.flatMap (fun x : ByteArray => [.v (.string x)]))]) (fun v : List (ByteArray) => (v.length ≤ 140737488351232 ∧ ∀ (i0 : Nat) x0, v[i0]? = some x0 → x0.size ≤ 140737488351232)) := (rd_slice Try.underlying40 (rd_string Try.underlying9) (by kernel_rfl) (by kernel_rfl))
theorem rPartsWhole2 : Rd Try.prog 41 1 (fun x : List (S44) => [.shr x.length false (x.flatMap S44.av)]) (fun v : List (S44) => (v.length ≤ 140737488351232 ∧ ∀ (i0 : Nat) x0, v[i0]? = some x0 → S44.In x0)) := (rd_slice Try.underlying41 rd44 (by kernel_rfl) (by kernel_rfl))
end Go.Proofs.Yteamlgfohagocaa.Args
