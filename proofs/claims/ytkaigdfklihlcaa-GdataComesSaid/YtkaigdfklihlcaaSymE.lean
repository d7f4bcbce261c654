/- Operations that leave memory alone, all of them. -/
import Derived.Test.YtkaigdfklihlcaaSymD
namespace Go.Proofs.Ytkaigdfklihlcaa.Sym
open Go
set_option linter.unusedVariables false
set_option linter.unusedSimpArgs false

theorem aLenS_ok {P : Program} {t ty : TypeId} {args : Array TypeId} (h0 : args[0]? = some t) {x r : AV} {u : Value} {Im : Imm} {ρ : List Loc} (ht : P.underlying t = some .string) (h : aLenS x = some r) (hu : VR Im ρ x u) :
    ∃ y, VR Im ρ r y ∧ ∀ w, (Builtin.len_ args ty #[u]).run P w = .ok y w := by
  unfold aLenS at h
  split at h
  · cases h
    cases hu
    exact ⟨_, .v rfl, fun w => by simp [Builtin.len_, h0, run_underlying ht, goInt]⟩
  · cases h
theorem aLen_ok {P : Program} {t ty e : TypeId} {args : Array TypeId} (h0 : args[0]? = some t) {x r : AV} {u : Value} {Im : Imm} {ρ : List Loc} (ht : P.underlying t = some (.slice e)) (h : aLen x = some r) (hu : VR Im ρ x u) :
    ∃ y, VR Im ρ r y ∧ ∀ w, (Builtin.len_ args ty #[u]).run P w = .ok y w := by
  have run : ∀ (a : Option Addr) (n c : Nat) w, (Builtin.len_ args ty #[.slice a n c]).run P w = .ok (.int .i64 n) w := fun a n c w => by simp [Builtin.len_, h0, run_underlying ht, goInt]
  unfold aLen at h
  split at h
  · cases h; cases hu; exact ⟨_, .v rfl, run _ _ _⟩
  · cases h; cases hu <;> exact ⟨_, .v rfl, run _ _ _⟩
  · cases h; cases hu <;> exact ⟨_, .v rfl, run _ _ _⟩
  · cases h

/-- Values one by one. -/
def VRs (Im : Imm) (ρ : List Loc) : List AV → List Value → Prop
  | [], [] => True
  | a :: as, v :: vs => VR Im ρ a v ∧ VRs Im ρ as vs
  | _, _ => False
theorem evs_ok {Im : Imm} {ρ : List Loc} {e : Env} {act : Act} (hE : EnvOK Im ρ e act) : ∀ (os : List Operand) (xs : List AX) (as : List AV), cxs os = some xs → evs e xs = some as → VRs Im ρ as (os.map act.eval)
  | [], xs, as, hc, h => by cases hc; cases h; trivial
  | o :: os, xs, as, hc, h => by
    simp only [cxs, Option.bind_eq_some_iff] at hc
    obtain ⟨x, hx, xs', hxs, hc⟩ := hc
    cases hc
    simp only [evs, Option.bind_eq_some_iff] at h
    obtain ⟨a, ha, as', has, h⟩ := h
    cases h
    exact ⟨ev_ok hE hx ha, evs_ok hE os xs' as' hxs has⟩
theorem aMin2_ok {P : Program} {Im : Imm} {ρ : List Loc} {a b r : AV} {u v : Value} (h : aMin2 a b = some r) (hu : VR Im ρ a u) (hv : VR Im ρ b v) : ∃ y, VR Im ρ r y ∧ ∀ w, (Builtin.min2 u v).run P w = .ok y w := by
  unfold aMin2 at h
  split at h
  · cases h; cases hu; cases hv; exact ⟨_, .v rfl, fun w => by simp [Builtin.min2]⟩
  · cases h
theorem aMax2_ok {P : Program} {Im : Imm} {ρ : List Loc} {a b r : AV} {u v : Value} (h : aMax2 a b = some r) (hu : VR Im ρ a u) (hv : VR Im ρ b v) : ∃ y, VR Im ρ r y ∧ ∀ w, (Builtin.max2 u v).run P w = .ok y w := by
  unfold aMax2 at h
  split at h
  · cases h; cases hu; cases hv; exact ⟨_, .v rfl, fun w => by simp [Builtin.max2]⟩
  · cases h
theorem aFold_ok {P : Program} {Im : Imm} {ρ : List Loc} {f : AV → AV → Option AV} {g : Value → Value → Sem Value} (hf : ∀ a b r u v, f a b = some r → VR Im ρ a u → VR Im ρ b v → ∃ y, VR Im ρ r y ∧ ∀ w, (g u v).run P w = .ok y w) :
    ∀ (as : List AV) (a : AV) (u : Value) (vs : List Value) (r : AV), aFoldL f a as = some r → VR Im ρ a u → VRs Im ρ as vs → ∃ y, VR Im ρ r y ∧ ∀ w, (vs.foldlM g u).run P w = .ok y w
  | [], a, u, vs, r, h, hu, hs => by
    cases vs with
    | nil => simp only [aFoldL, Option.some.injEq] at h; subst h; exact ⟨u, hu, fun w => rfl⟩
    | cons v vs => exact hs.elim
  | b :: as, a, u, vs, r, h, hu, hs => by
    cases vs with
    | nil => exact hs.elim
    | cons v vs =>
      obtain ⟨hv, hs⟩ := hs
      rw [aFoldL, Option.bind_eq_some_iff] at h
      obtain ⟨c, hc, h⟩ := h
      obtain ⟨y, hy, hr⟩ := hf _ _ _ _ _ hc hu hv
      obtain ⟨z, hz, hr'⟩ := aFold_ok hf as c y vs r h hy hs
      exact ⟨z, hz, fun w => by rw [List.foldlM_cons, Sem.run_bind, hr w, Result.andThen_ok, hr' w]⟩

/-- A bound of a slice expression. -/
def BV (Im : Imm) (ρ : List Loc) : Option AV → Option Value → Prop
  | none, none => True
  | some a, some v => VR Im ρ a v
  | _, _ => False
theorem evO_ok {Im : Imm} {ρ : List Loc} {e : Env} {act : Act} (hE : EnvOK Im ρ e act) {o : Option Operand} {x : Option AX} {a : Option AV} (hc : cxo o = some x) (h : evO e x = some a) : BV Im ρ a (o.map act.eval) := by
  cases o with
  | none => cases hc; cases h; trivial
  | some o =>
    simp only [cxo, Option.map_eq_some_iff] at hc
    obtain ⟨y, hy, rfl⟩ := hc
    simp only [evO, Option.map_eq_some_iff] at h
    obtain ⟨b, hb, rfl⟩ := h
    exact ev_ok hE hy hb
theorem bnd_some {Im : Imm} {ρ : List Loc} {a : AV} {v : Value} {d n : Nat} (h : bnd (some a) d = some n) (hv : VR Im ρ a v) : ∃ k, v = .int k (n : Int) := by
  simp only [bnd, Option.bind_eq_some_iff] at h
  obtain ⟨i, hi, h⟩ := h
  split at h
  · rename_i h0
    cases h
    obtain ⟨k, rfl⟩ := asI_ok hi hv
    exact ⟨k, by rw [Int.toNat_of_nonneg h0]⟩
  · cases h
theorem run_bound {P : Program} (k : IntKind) (n y : Nat) (code : BoundsCode) (h : n ≤ y) (w : World) : (Instr.sliceBound (.int k (n : Int)) y code).run P w = .ok n w := by
  have h0 : (0 : Int) ≤ (n : Int) ∧ (n : Int) ≤ (y : Int) := by omega
  simp [Instr.sliceBound, asIntOf, h0]
theorem run_bounds {P : Program} {Im : Imm} {ρ : List Loc} {lo hi mx : Option AV} {ul uh um : Option Value} (hl : BV Im ρ lo ul) (hh : BV Im ρ hi uh) (hm : BV Im ρ mx um) (hx : mx.isSome = true → hi.isSome = true) (s : Bool) {len cap l h m : Nat} (e1 : bnd hi len = some h) (e2 : bnd lo 0 = some l) (e3 : bnd mx cap = some m)
    (h1 : l ≤ h) (h2 : h ≤ m) (h3 : m ≤ cap) (w : World) : (Instr.sliceBounds s len cap ul uh um).run P w = .ok (l, h, m) w := by
  unfold Instr.sliceBounds
  cases mx with
  | none =>
    cases um with
    | some v => exact hm.elim
    | none =>
      cases e3
      cases hi with
      | none =>
        cases uh with
        | some v => exact hh.elim
        | none =>
          cases e1
          cases lo with
          | none =>
            cases ul with
            | some v => exact hl.elim
            | none => cases e2; simp
          | some a =>
            cases ul with
            | none => exact hl.elim
            | some v => obtain ⟨k, rfl⟩ := bnd_some e2 hl; simp [run_bound k l _ _ h1]
      | some a =>
        cases uh with
        | none => exact hh.elim
        | some v =>
          obtain ⟨k, rfl⟩ := bnd_some e1 hh
          cases lo with
          | none =>
            cases ul with
            | some v => exact hl.elim
            | none => cases e2; simp [run_bound k h _ _ h2]
          | some a =>
            cases ul with
            | none => exact hl.elim
            | some v => obtain ⟨k', rfl⟩ := bnd_some e2 hl; simp [run_bound k h _ _ h2, run_bound k' l _ _ h1]
  | some a =>
    cases um with
    | none => exact hm.elim
    | some v =>
      obtain ⟨km, rfl⟩ := bnd_some e3 hm
      cases hi with
      | none => simp at hx
      | some a =>
        cases uh with
        | none => exact hh.elim
        | some v =>
          obtain ⟨k, rfl⟩ := bnd_some e1 hh
          cases lo with
          | none =>
            cases ul with
            | some v => exact hl.elim
            | none => cases e2; simp [run_bound km m _ _ h3, run_bound k h _ _ h2]
          | some a =>
            cases ul with
            | none => exact hl.elim
            | some v => obtain ⟨k', rfl⟩ := bnd_some e2 hl; simp [run_bound km m _ _ h3, run_bound k h _ _ h2, run_bound k' l _ _ h1]
theorem aSlStr_ok {P : Program} {t : TypeId} (ht : P.underlying t = some .string) {Im : Imm} {ρ : List Loc} {x r : AV} {lo hi : Option AV} {u : Value} {ul uh : Option Value} (h : aSlStr x lo hi = some r) (hu : VR Im ρ x u) (hl : BV Im ρ lo ul) (hh : BV Im ρ hi uh) :
    ∃ y, VR Im ρ r y ∧ ∀ w, (Instr.sliceAt t u ul uh none).run P w = .ok y w := by
  unfold aSlStr at h
  split at h
  · rename_i s
    simp only [Option.bind_eq_some_iff] at h
    obtain ⟨hn, e1, ln, e2, h⟩ := h
    split at h
    · rename_i hb
      cases h
      cases hu
      exact ⟨_, .v rfl, fun w => by
        have := run_bounds (P := P) hl hh (mx := none) (um := none) trivial (by simp) false e1 e2 (e3 := rfl) hb.1 hb.2 (Nat.le_refl _) w
        simp [Instr.sliceAt, Instr.slice, run_underlying ht, this]⟩
    · cases h
  · cases h
theorem run_sl {P : Program} {t e : TypeId} {n : Nat} (ht : P.underlying t = some (.slice e)) (hn : sizeT P e = some n) {Im : Imm} {ρ : List Loc} {lo hi mx : Option AV} {ul uh um : Option Value} (hl : BV Im ρ lo ul) (hh : BV Im ρ hi uh) (hm : BV Im ρ mx um) (hx : mx.isSome = true → hi.isSome = true) {len cap l h m : Nat} (e1 : bnd hi len = some h) (e2 : bnd lo 0 = some l) (e3 : bnd mx cap = some m)
    (h1 : l ≤ h) (h2 : h ≤ m) (h3 : m ≤ cap) (a : Option Addr) (w : World) : (Instr.sliceAt t (.slice a len cap) ul uh um).run P w = .ok (.slice (if m = l then a else a.map (·.add (l * n))) (h - l) (m - l)) w := by
  have := run_bounds (P := P) hl hh hm hx true e1 e2 e3 h1 h2 h3 w
  simp [Instr.sliceAt, Instr.slice, run_underlying ht, this, run_sizeOf' hn]
theorem sub_mul_add {l c n : Nat} (h : l ≤ c) : l * n + (c - l) * n = c * n := by
  rw [← Nat.add_mul]
  congr 1
  omega
theorem VR.viewAt {Im : Imm} {ρ : List Loc} {k off n sz : Nat} {c : Option Nat} (b o s cap o' : Nat) (hk : ρ[k]? = some (some (b, o, s))) (hc : n ≤ cap) (h1 : ∀ m, c = some m → cap = m) (h2 : o + off + cap * sz ≤ s) (h3 : c = none → o + off + cap * sz = s) (ho : o' = o + off) :
    VR Im ρ (.view k off n sz c) (.slice (some ⟨b, o', none⟩) n cap) := ho ▸ .view b o s cap hk hc h1 h2 h3
theorem aSlS_ok {P : Program} {t e : TypeId} {n : Nat} (ht : P.underlying t = some (.slice e)) (hn : sizeT P e = some n) {Im : Imm} {ρ : List Loc} {x r : AV} {lo hi mx : Option AV} {u : Value} {ul uh um : Option Value} {Ω : List Obj} {w0 : World} (hR : Rel Im ρ Ω w0) (hx : mx.isSome = true → hi.isSome = true) (h : aSlS Ω n x lo hi mx = some r) (hu : VR Im ρ x u) (hl : BV Im ρ lo ul) (hh : BV Im ρ hi uh) (hm : BV Im ρ mx um) :
    ∃ y, VR Im ρ r y ∧ ∀ w, (Instr.sliceAt t u ul uh um).run P w = .ok y w := by
  unfold aSlS at h
  split at h
  · simp only [Option.bind_eq_some_iff] at h
    obtain ⟨hn', e1, ln, e2, mn, e3, h⟩ := h
    split at h
    · rename_i hb
      cases h
      cases hu
      refine ⟨_, .v rfl, fun w => ?_⟩
      rw [run_sl ht hn hl hh hm hx e1 e2 e3 hb.1 hb.2.1 hb.2.2]
      obtain ⟨b1, b2, b3⟩ := hb
      obtain rfl : mn = 0 := by omega
      obtain rfl : hn' = 0 := by omega
      obtain rfl : ln = 0 := by omega
      rfl
    · cases h
  · rename_i k off m sz c
    simp only [Option.bind_eq_some_iff] at h
    obtain ⟨hn', e1, ln, e2, h⟩ := h
    cases mx with
    | some a =>
      simp only [Option.bind_eq_some_iff] at h
      obtain ⟨mn, e3, h⟩ := h
      split at h
      · rename_i hb
        obtain ⟨b1, b2, b3, rfl⟩ := hb
        cases h
        cases hu with
        | view b o s cap hk hc h1 h2 h3 =>
          have hcap : mn ≤ cap := by
            cases c with
            | none => simp at b3; omega
            | some c => rw [h1 c rfl]; exact b3
          have e3' : bnd (some a) cap = some mn := e3
          refine ⟨_, ?_, fun w => run_sl ht hn hl hh hm hx e1 e2 e3' b1 b2 hcap _ w⟩
          by_cases hml : mn = ln
          · rw [if_pos hml]
            obtain rfl : hn' = ln := by omega
            subst hml
            rw [Nat.sub_self]
            exact VR.viewE b o s _ hk (fun m hm => by cases hm; rfl) (by omega) (fun hh => by cases hh)
          · rw [if_neg hml]
            show VR Im ρ _ (.slice (some (Addr.add ⟨b, o + off, none⟩ (ln * sz))) _ _)
            rw [add_at]
            have hs := sub_mul_add (n := sz) (show ln ≤ mn by omega)
            have hs2 : mn * sz ≤ cap * sz := Nat.mul_le_mul_right _ hcap
            refine VR.viewAt b o s (mn - ln) _ hk (by omega) (fun m hm => by cases hm; rfl) (by omega) (fun hh => by cases hh) (by omega)
        | viewE b o s o' hk h1 h2 h3 =>
          have hz : mn = 0 := by
            cases c with
            | none => simp at b3; omega
            | some c => have := h1 c rfl; simp at b3; omega
          subst hz
          obtain rfl : hn' = 0 := by omega
          obtain rfl : ln = 0 := by omega
          refine ⟨_, ?_, fun w => run_sl ht hn hl hh hm hx e1 e2 e3 b1 b2 (Nat.le_refl _) _ w⟩
          rw [if_pos rfl]
          exact VR.viewE b o s _ hk (fun m hm => by cases hm; rfl) h2 (fun hh => by cases hh)
        | view0 hk h1 =>
          have hz : mn = 0 := by
            cases c with
            | none => simp at b3; omega
            | some c => have := h1 c rfl; simp at b3; omega
          subst hz
          obtain rfl : hn' = 0 := by omega
          obtain rfl : ln = 0 := by omega
          refine ⟨_, ?_, fun w => run_sl ht hn hl hh hm hx e1 e2 e3 b1 b2 (Nat.le_refl _) _ w⟩
          rw [if_pos rfl]
          exact VR.view0 hk (fun m hm => by cases hm; rfl)
      · cases h
    | none =>
      simp only at h
      split at h
      · rename_i hb
        obtain ⟨b1, b2, rfl⟩ := hb
        cases h
        cases hu with
        | view b o s cap hk hc h1 h2 h3 =>
          have hcap : hn' ≤ cap := by
            cases c with
            | none => simp at b2; omega
            | some c => rw [h1 c rfl]; exact b2
          refine ⟨_, ?_, fun w => run_sl ht hn hl hh hm hx e1 e2 (e3 := rfl) b1 hcap (Nat.le_refl _) _ w⟩
          by_cases hcl : cap = ln
          · rw [if_pos hcl]
            obtain rfl : hn' = ln := by omega
            subst hcl
            rw [Nat.sub_self]
            refine VR.viewE b o s _ hk (fun m hm => ?_) (by omega) (fun hh => ?_)
            · cases c with
              | none => cases hm
              | some c => have := h1 c rfl; simp at hm; omega
            · cases c with
              | none => have := h3 rfl; omega
              | some c => cases hh
          · rw [if_neg hcl]
            show VR Im ρ _ (.slice (some (Addr.add ⟨b, o + off, none⟩ (ln * sz))) _ _)
            rw [add_at]
            have hs := sub_mul_add (n := sz) (show ln ≤ cap by omega)
            refine VR.viewAt b o s (cap - ln) _ hk (by omega) (fun m hm => ?_) (by omega) (fun hh => ?_) (by omega)
            · cases c with
              | none => cases hm
              | some c => have := h1 c rfl; simp at hm; omega
            · cases c with
              | none => have := h3 rfl; omega
              | some c => cases hh
        | viewE b o s o' hk h1 h2 h3 =>
          have hz : hn' = 0 := by
            cases c with
            | none => simp at b2; omega
            | some c => have := h1 c rfl; simp at b2; omega
          subst hz
          obtain rfl : ln = 0 := by omega
          refine ⟨_, ?_, fun w => run_sl ht hn hl hh hm hx e1 e2 (e3 := rfl) b1 (Nat.zero_le _) (Nat.le_refl _) _ w⟩
          rw [if_pos rfl]
          refine VR.viewE b o s _ hk (fun m hm => ?_) h2 (fun hh => ?_)
          · cases c with
            | none => cases hm
            | some c => have := h1 c rfl; simp at hm; omega
          · cases c with
            | none => have := h3 rfl; omega
            | some c => cases hh
        | view0 hk h1 =>
          have hz : hn' = 0 := by
            cases c with
            | none => simp at b2; omega
            | some c => have := h1 c rfl; simp at b2; omega
          subst hz
          obtain rfl : ln = 0 := by omega
          refine ⟨_, ?_, fun w => run_sl ht hn hl hh hm hx e1 e2 (e3 := rfl) b1 (Nat.zero_le _) (Nat.le_refl _) _ w⟩
          rw [if_pos rfl]
          refine VR.view0 hk (fun m hm => ?_)
          cases c with
          | none => cases hm
          | some c => have := h1 c rfl; simp at hm; omega
      · split at h
        case isFalse => cases h
        rename_i hb
        obtain ⟨b1, b2, rfl, b3⟩ := hb
        rw [Option.bind_eq_some_iff] at h
        obtain ⟨ob, hob, h⟩ := h
        split at h
        case isFalse => cases h
        rename_i hle
        cases h
        obtain ⟨hk0, hl0⟩ := getO_some hob
        have hcn : c = none := by cases c with | none => rfl | some c => simp at b2
        subst hcn
        cases hu with
        | view b o s cap hk hc h1 h2 h3 =>
          have h3' := h3 rfl
          rcases hR.obj k ob hk0 hl0 with ⟨b', base', s', arr, T, fz, e1', e2', e3', e4', e5', e6', e7', f, e8', e9'⟩ | ⟨e1', e2'⟩
          case inr => rw [hk] at e1'; cases e1'
          rw [hk] at e1'
          cases e1'
          have hcap : hn' ≤ cap := by
            rcases Nat.lt_or_ge cap hn' with z | z
            · have := Nat.mul_lt_mul_of_pos_right z b3
              omega
            · exact z
          refine ⟨_, ?_, fun w => run_sl ht hn hl hh hm hx e1 e2 (e3 := rfl) b1 hcap (Nat.le_refl _) _ w⟩
          by_cases hcl : cap = ln
          · rw [if_pos hcl]
            obtain rfl : hn' = ln := by omega
            subst hcl
            rw [Nat.sub_self]
            exact VR.viewE b o s _ hk (fun m hm => by cases hm) (by omega) (fun hh => by omega)
          · rw [if_neg hcl]
            show VR Im ρ _ (.slice (some (Addr.add ⟨b, o + off, none⟩ (ln * sz))) _ _)
            rw [add_at]
            have hs := sub_mul_add (n := sz) (show ln ≤ cap by omega)
            exact VR.viewAt b o s (cap - ln) _ hk (by omega) (fun m hm => by cases hm) (by omega) (fun hh => by omega) (by omega)
        | viewE b o s o' hk h1 h2 h3 =>
          have h3' := h3 rfl
          rcases hR.obj k ob hk0 hl0 with ⟨b', base', s', arr, T, fz, e1', e2', e3', e4', e5', e6', e7', f, e8', e9'⟩ | ⟨e1', e2'⟩
          case inr => rw [hk] at e1'; cases e1'
          rw [hk] at e1'
          cases e1'
          have hz : hn' = 0 := by
            rcases Nat.eq_zero_or_pos hn' with z | z
            · exact z
            · have := Nat.mul_pos z b3
              omega
          subst hz
          obtain rfl : ln = 0 := by omega
          refine ⟨_, ?_, fun w => run_sl ht hn hl hh hm hx e1 e2 (e3 := rfl) b1 (Nat.zero_le _) (Nat.le_refl _) _ w⟩
          rw [if_pos rfl]
          exact VR.viewE b o s _ hk (fun m hm => by cases hm) h2 (fun hh => by omega)
        | view0 hk h1 =>
          rcases hR.obj k ob hk0 hl0 with ⟨b', base', s', arr, T, fz, e1', e2', e3', e4', e5', e6', e7', f, e8', e9'⟩ | ⟨e1', e2'⟩
          · rw [hk] at e1'; cases e1'
          have hz : hn' = 0 := by
            rcases Nat.eq_zero_or_pos hn' with z | z
            · exact z
            · have := Nat.mul_pos z b3
              rw [e2'] at hle
              simp at hle
              omega
          subst hz
          obtain rfl : ln = 0 := by omega
          refine ⟨_, ?_, fun w => run_sl ht hn hl hh hm hx e1 e2 (e3 := rfl) b1 (Nat.zero_le _) (Nat.le_refl _) _ w⟩
          rw [if_pos rfl]
          exact VR.view0 hk (fun m hm => by cases hm)
  · rename_i m cl xs
    simp only [Option.bind_eq_some_iff] at h
    obtain ⟨hn', e1, ln, e2, h⟩ := h
    have piece : ∀ (b o cap cap' : Nat) (arr : Array Value) (f : Nat → Value) (cl' : Bool), Im b = some arr → hn' - ln ≤ cap' → (cl' = true → cap' = hn' - ln) → (∀ (i : Nat) a, xs[i]? = some a → atom a = true) → (∀ (i : Nat) a, xs[i]? = some a → arr[o + i]? = some (f i)) → (∀ (i : Nat) a, xs[i]? = some a → VR Im [] a (f i)) →
        VR Im ρ (.shr (hn' - ln) cl' ((xs.drop (ln * n)).take ((hn' - ln) * n))) (.slice (some ⟨b, o + ln * n, none⟩) (hn' - ln) cap') := fun b o cap cap' arr f cl' hb hc hcl ha h1 h2 => by
      have get : ∀ (i : Nat) a, ((xs.drop (ln * n)).take ((hn' - ln) * n))[i]? = some a → xs[ln * n + i]? = some a := fun i a hi => by
        have hj2 := (List.getElem?_eq_some_iff.1 hi).1
        rw [List.length_take, Nat.lt_min] at hj2
        rw [List.getElem?_take_of_lt hj2.1, List.getElem?_drop] at hi
        exact hi
      refine .shr b _ cap' arr (fun i => f (ln * n + i)) hb hc hcl (fun i a hi => ha _ _ (get i a hi)) (fun i a hi => ?_) (fun i a hi => h2 _ _ (get i a hi))
      have := h1 _ _ (get i a hi)
      rw [Nat.add_assoc]
      exact this
    cases mx with
    | some a =>
      simp only [Option.bind_eq_some_iff] at h
      obtain ⟨mn, e3, h⟩ := h
      split at h
      · rename_i hb
        obtain ⟨b1, b2, b3⟩ := hb
        cases h
        cases hu with
        | shr b o cap arr f hb hc hcl ha h1 h2 =>
          have e3' : bnd (some a) cap = some mn := e3
          refine ⟨_, ?_, fun w => run_sl ht hn hl hh hm hx e1 e2 e3' b1 b2 (by omega) _ w⟩
          by_cases hz : mn = ln
          · rw [if_pos hz]
            obtain rfl : hn' = ln := by omega
            subst hz
            rw [Nat.sub_self, Nat.zero_mul, List.take_zero]
            exact .shr b o 0 arr f hb (Nat.le_refl _) (fun _ => rfl) (fun i a hi => by simp at hi) (fun i a hi => by simp at hi) (fun i a hi => by simp at hi)
          · rw [if_neg hz]
            have := piece b o cap (mn - ln) arr f (mn == hn') hb (by omega) (fun hq => by have := eq_of_beq hq; omega) ha h1 h2
            simpa [add_at] using this
        | shr0 a0 =>
          obtain rfl : mn = 0 := by omega
          obtain rfl : hn' = 0 := by omega
          obtain rfl : ln = 0 := by omega
          exact ⟨_, by simpa using (VR.shr0 (Im := Im) (ρ := ρ) a0), fun w => run_sl ht hn hl hh hm hx e1 e2 e3 (Nat.le_refl _) (Nat.le_refl _) (Nat.le_refl _) _ w⟩
      · cases h
    | none =>
      simp only at h
      split at h
      · rename_i hb
        obtain ⟨b1, b2⟩ := hb
        cases h
        cases hu with
        | shr b o cap arr f hb hc hcl ha h1 h2 =>
          refine ⟨_, ?_, fun w => run_sl ht hn hl hh hm hx e1 e2 (e3 := rfl) b1 (by omega) (Nat.le_refl _) _ w⟩
          by_cases hz : cap = ln
          · rw [if_pos hz]
            obtain rfl : hn' = ln := by omega
            subst hz
            rw [Nat.sub_self, Nat.zero_mul, List.take_zero]
            exact .shr b o 0 arr f hb (Nat.le_refl _) (fun _ => rfl) (fun i a hi => by simp at hi) (fun i a hi => by simp at hi) (fun i a hi => by simp at hi)
          · rw [if_neg hz]
            have := piece b o cap (cap - ln) arr f (cl && hn' == m) hb (by omega) (fun hq => by
              rw [Bool.and_eq_true] at hq
              have e := eq_of_beq hq.2
              have := hcl hq.1
              omega) ha h1 h2
            simpa [add_at] using this
        | shr0 a0 =>
          obtain rfl : hn' = 0 := by omega
          obtain rfl : ln = 0 := by omega
          exact ⟨_, by simpa using (VR.shr0 (Im := Im) (ρ := ρ) a0), fun w => run_sl ht hn hl hh hm hx e1 e2 (e3 := rfl) (Nat.le_refl _) (Nat.le_refl _) (Nat.le_refl _) _ w⟩
      · cases h
  · cases h
end Go.Proofs.Ytkaigdfklihlcaa.Sym
