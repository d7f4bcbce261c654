/- What the laws are given. Written by a program for this claim. -/
import Derived.Test.YtkaigdfklihlcaaSymS
import Derived.Test.YtkaigdfklihlcaaProg
import Derived.KernelRfl
namespace Go.Proofs.Ytkaigdfklihlcaa.Args
open Go Go.Proofs.Ytkaigdfklihlcaa.Sym
set_option linter.unusedVariables false
/-- api.Epoch = fugleman/api.Epoch -/
structure S31 where
  f0 : Int
  f1 : Int
  f2 : Int
def S31.av (v : S31) : List AV := [.v (.int .u16 v.f0), .v (.int .u8 v.f1), .v (.int .u16 v.f2)]
structure S31.In (v : S31) : Prop where
  f0 : (0 ≤ v.f0 ∧ v.f0 ≤ 65535)
  f1 : (0 ≤ v.f1 ∧ v.f1 ≤ 255)
  f2 : (0 ≤ v.f2 ∧ v.f2 ≤ 65535)
theorem rd31 : Rd Try.prog 31 3 S31.av S31.In := rd_struct (rdF_cons 27 0 (rd_imp (rd_int Try.underlying27) fun v h => rng_u16 h) (by kernel_rfl) (rdF_cons 5 1 (rd_imp (rd_int Try.underlying5) fun v h => rng_u8 h) (by kernel_rfl) (rdF_one 27 2 (rd_imp (rd_int Try.underlying27) fun v h => rng_u16 h) (by kernel_rfl)))) Try.underlying31 rfl (fun v => ⟨v.1, v.2.1, v.2.2⟩) (fun _ => rfl) (fun _ => rfl) (fun v h => ⟨h.1, h.2.1, h.2.2⟩) (by kernel_rfl)
/-- api.Version = fugleman/api.Version -/
structure S34 where
  f0 : Int
  f1 : Int
def S34.av (v : S34) : List AV := [.v (.int .u16 v.f0), .v (.int .u32 v.f1)]
structure S34.In (v : S34) : Prop where
  f0 : (0 ≤ v.f0 ∧ v.f0 ≤ 65535)
  f1 : (0 ≤ v.f1 ∧ v.f1 ≤ 4294967295)
theorem rd34 : Rd Try.prog 34 2 S34.av S34.In := rd_struct (rdF_cons 27 0 (rd_imp (rd_int Try.underlying27) fun v h => rng_u16 h) (by kernel_rfl) (rdF_one 32 1 (rd_imp (rd_int Try.underlying32) fun v h => rng_u32 h) (by kernel_rfl))) Try.underlying34 rfl (fun v => ⟨v.1, v.2⟩) (fun _ => rfl) (fun _ => rfl) (fun v h => ⟨h.1, h.2⟩) (by kernel_rfl)
/-- api.Frame = fugleman/api.Frame -/
structure S36 where
  f0 : Int
  f1 : Int
  f2 : Int
  f3 : Int
  f4 : Int
  f5 : S31
  f6 : Int
  f7 : S31
  f8 : Bool
  f9 : Int
  f10 : S34
  f11 : Int
  f12 : Int
  f13 : ByteArray
def S36.av (v : S36) : List AV := [.v (.int .i64 v.f0), .v (.int .u8 v.f1), .v (.int .u8 v.f2), .v (.int .u16 v.f3), .v (.int .u16 v.f4), .v (.int .u16 v.f5.f0), .v (.int .u8 v.f5.f1), .v (.int .u16 v.f5.f2), .v (.int .u16 v.f6), .v (.int .u16 v.f7.f0), .v (.int .u8 v.f7.f1), .v (.int .u16 v.f7.f2), .v (.bool v.f8), .v (.int .u8 v.f9), .v (.int .u16 v.f10.f0), .v (.int .u32 v.f10.f1), .v (.int .u8 v.f11), .v (.int .u8 v.f12), .v (.string v.f13)]
structure S36.In (v : S36) : Prop where
  f0 : (-9223372036854775808 ≤ v.f0 ∧ v.f0 ≤ 9223372036854775807)
  f1 : (0 ≤ v.f1 ∧ v.f1 ≤ 255)
  f2 : (0 ≤ v.f2 ∧ v.f2 ≤ 255)
  f3 : (0 ≤ v.f3 ∧ v.f3 ≤ 65535)
  f4 : (0 ≤ v.f4 ∧ v.f4 ≤ 65535)
  f5 : S31.In v.f5
  f6 : (0 ≤ v.f6 ∧ v.f6 ≤ 65535)
  f7 : S31.In v.f7
  f8 : True
  f9 : (0 ≤ v.f9 ∧ v.f9 ≤ 255)
  f10 : S34.In v.f10
  f11 : (0 ≤ v.f11 ∧ v.f11 ≤ 255)
  f12 : (0 ≤ v.f12 ∧ v.f12 ≤ 255)
  f13 : v.f13.size ≤ 140737488351232
theorem rd36 : Rd Try.prog 36 19 S36.av S36.In := rd_struct (rdF_cons 3 0 (rd_imp (rd_int Try.underlying3) fun v h => rng_i64 h) (by kernel_rfl) (rdF_cons 5 1 (rd_imp (rd_int Try.underlying5) fun v h => rng_u8 h) (by kernel_rfl) (rdF_cons 5 2 (rd_imp (rd_int Try.underlying5) fun v h => rng_u8 h) (by kernel_rfl) (rdF_cons 27 3 (rd_imp (rd_int Try.underlying27) fun v h => rng_u16 h) (by kernel_rfl) (rdF_cons 27 4 (rd_imp (rd_int Try.underlying27) fun v h => rng_u16 h) (by kernel_rfl) (rdF_cons 31 5 rd31 (by kernel_rfl) (rdF_cons 27 8 (rd_imp (rd_int Try.underlying27) fun v h => rng_u16 h) (by kernel_rfl) (rdF_cons 31 9 rd31 (by kernel_rfl) (rdF_cons 4 12 (rd_bool Try.underlying4) (by kernel_rfl) (rdF_cons 5 13 (rd_imp (rd_int Try.underlying5) fun v h => rng_u8 h) (by kernel_rfl) (rdF_cons 34 14 rd34 (by kernel_rfl) (rdF_cons 5 16 (rd_imp (rd_int Try.underlying5) fun v h => rng_u8 h) (by kernel_rfl) (rdF_cons 5 17 (rd_imp (rd_int Try.underlying5) fun v h => rng_u8 h) (by kernel_rfl) (rdF_one 9 18 (rd_string Try.underlying9) (by kernel_rfl))))))))))))))) Try.underlying36 rfl (fun v => ⟨v.1, v.2.1, v.2.2.1, v.2.2.2.1, v.2.2.2.2.1, v.2.2.2.2.2.1, v.2.2.2.2.2.2.1, v.2.2.2.2.2.2.2.1, v.2.2.2.2.2.2.2.2.1, v.2.2.2.2.2.2.2.2.2.1, v.2.2.2.2.2.2.2.2.2.2.1, v.2.2.2.2.2.2.2.2.2.2.2.1, v.2.2.2.2.2.2.2.2.2.2.2.2.1, v.2.2.2.2.2.2.2.2.2.2.2.2.2⟩) (fun _ => rfl) (fun _ => rfl) (fun v h => ⟨h.1, h.2.1, h.2.2.1, h.2.2.2.1, h.2.2.2.2.1, h.2.2.2.2.2.1, h.2.2.2.2.2.2.1, h.2.2.2.2.2.2.2.1, h.2.2.2.2.2.2.2.2.1, h.2.2.2.2.2.2.2.2.2.1, h.2.2.2.2.2.2.2.2.2.2.1, h.2.2.2.2.2.2.2.2.2.2.2.1, h.2.2.2.2.2.2.2.2.2.2.2.2.1, h.2.2.2.2.2.2.2.2.2.2.2.2.2⟩) (by kernel_rfl)
/-- fuglemanlaw18.Came = fugleman/fuglemanlaw18.Came -/
structure S52 where
  f0 : S36
def S52.av (v : S52) : List AV := [.v (.int .i64 v.f0.f0), .v (.int .u8 v.f0.f1), .v (.int .u8 v.f0.f2), .v (.int .u16 v.f0.f3), .v (.int .u16 v.f0.f4), .v (.int .u16 v.f0.f5.f0), .v (.int .u8 v.f0.f5.f1), .v (.int .u16 v.f0.f5.f2), .v (.int .u16 v.f0.f6), .v (.int .u16 v.f0.f7.f0), .v (.int .u8 v.f0.f7.f1), .v (.int .u16 v.f0.f7.f2), .v (.bool v.f0.f8), .v (.int .u8 v.f0.f9), .v (.int .u16 v.f0.f10.f0), .v (.int .u32 v.f0.f10.f1), .v (.int .u8 v.f0.f11), .v (.int .u8 v.f0.f12), .v (.string v.f0.f13)]
structure S52.In (v : S52) : Prop where
  f0 : S36.In v.f0
theorem rd52 : Rd Try.prog 52 19 S52.av S52.In := rd_struct (rdF_one 36 0 rd36 (by kernel_rfl)) Try.underlying52 rfl (fun v => ⟨v⟩) (fun _ => rfl) (fun _ => rfl) (fun v h => ⟨h⟩) (by kernel_rfl)
/-- fuglemanlaw18.Turn = fugleman/fuglemanlaw18.Turn -/
structure S66 where
  f0 : Int
  f1 : Int
  f2 : ByteArray
def S66.av (v : S66) : List AV := [.v (.int .u8 v.f0), .v (.int .u16 v.f1), .v (.string v.f2)]
structure S66.In (v : S66) : Prop where
  f0 : (0 ≤ v.f0 ∧ v.f0 ≤ 255)
  f1 : (0 ≤ v.f1 ∧ v.f1 ≤ 65535)
  f2 : v.f2.size ≤ 140737488351232
theorem rd66 : Rd Try.prog 66 3 S66.av S66.In := rd_struct (rdF_cons 5 0 (rd_imp (rd_int Try.underlying5) fun v h => rng_u8 h) (by kernel_rfl) (rdF_cons 27 1 (rd_imp (rd_int Try.underlying27) fun v h => rng_u16 h) (by kernel_rfl) (rdF_one 9 2 (rd_string Try.underlying9) (by kernel_rfl)))) Try.underlying66 rfl (fun v => ⟨v.1, v.2.1, v.2.2⟩) (fun _ => rfl) (fun _ => rfl) (fun v h => ⟨h.1, h.2.1, h.2.2⟩) (by kernel_rfl)
theorem rGdataPublishes2 : Rd Try.prog 22 1 (fun x : List (ByteArray) => [.shr x.length false (x.flatMap (fun x : ByteArray => [.v (.string x)]))]) (fun v : List (ByteArray) => (v.length ≤ 140737488351232 ∧ ∀ (i0 : Nat) x0, v[i0]? = some x0 → x0.size ≤ 140737488351232)) := (rd_slice Try.underlying22 (rd_string Try.underlying9) (by kernel_rfl) (by kernel_rfl))
theorem rGdataSubscribes2 : Rd Try.prog 48 1 (fun x : List (S52) => [.shr x.length false (x.flatMap S52.av)]) (fun v : List (S52) => (v.length ≤ 140737488351232 ∧ ∀ (i0 : Nat) x0, v[i0]? = some x0 → S52.In x0)) := (rd_slice Try.underlying48 rd52 (by kernel_rfl) (by kernel_rfl))
theorem rGdataComes1 : Rd Try.prog 22 1 (fun x : List (ByteArray) => [.shr x.length false (x.flatMap (fun x : ByteArray => [.v (.string x)]))]) (fun v : List (ByteArray) => (v.length ≤ 140737488351232 ∧ ∀ (i0 : Nat) x0, v[i0]? = some x0 → x0.size ≤ 140737488351232)) := (rd_slice Try.underlying22 (rd_string Try.underlying9) (by kernel_rfl) (by kernel_rfl))
theorem rGdataComes2 : Rd Try.prog 23 1 (fun x : List (Int) => [.shr x.length false (x.flatMap (fun x : Int => [.v (.int .u8 x)]))]) (fun v : List (Int) => (v.length ≤ 140737488351232 ∧ ∀ (i0 : Nat) x0, v[i0]? = some x0 → (0 ≤ x0 ∧ x0 ≤ 255))) := (rd_slice Try.underlying23 (rd_imp (rd_int Try.underlying5) fun v h => rng_u8 h) (by kernel_rfl) (by kernel_rfl))
theorem rGdataWhole2 : Rd Try.prog 62 1 (fun x : List (S66) => [.shr x.length false (x.flatMap S66.av)]) (fun v : List (S66) => (v.length ≤ 140737488351232 ∧ ∀ (i0 : Nat) x0, v[i0]? = some x0 → S66.In x0)) := (rd_slice Try.underlying62 rd66 (by kernel_rfl) (by kernel_rfl))
end Go.Proofs.Ytkaigdfklihlcaa.Args
