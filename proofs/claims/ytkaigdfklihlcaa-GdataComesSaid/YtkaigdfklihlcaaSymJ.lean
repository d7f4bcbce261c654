/- copy; all operations that make or change memory. -/
import Derived.Test.YtkaigdfklihlcaaSymI
namespace Go.Proofs.Ytkaigdfklihlcaa.Sym
open Go
set_option linter.unusedVariables false
set_option linter.unusedSimpArgs false

theorem set_self {Ω : List Obj} {k : Nat} {o : Obj} (h : Ω[k]? = some o) : Ω.set k o = Ω := by
  apply List.ext_getElem?
  intro i
  rw [List.getElem?_set]
  split
  · rename_i e
    subst e
    rw [if_pos (List.getElem?_eq_some_iff.1 h).1, h]
  · rfl
theorem aCpy_ok {P : Program} {ts : Array TypeId} {t ty e : TypeId} {rr : List TypeId} (hts : ts.toList = t :: rr) (ht : P.underlying t = some (.slice e)) {esz : Nat} (hsz : sizeT P e = some esz) {Im : Imm} {ρ : List Loc} {Ω : List Obj} {w : World} (hR : Rel Im ρ Ω w) {x y : AV} {u v : Value} (hx : VR Im ρ x u) (hy : VR Im ρ y v)
    {r : AV} {Ω' : List Obj} {d : Bool} (h : aCpy Ω esz x y = some (r, Ω', d)) : ∃ (q : Value) (w' : World) (ρ' : List Loc), (Builtin.copy_ ts ty #[u, v]).run P w = .ok q w' ∧ VR Im ρ' r q ∧ Step Im ρ Ω w Im ρ' Ω' w' d := by
  have h0 : ts[0]? = some t := by rw [← Array.getElem?_toList, hts]; rfl
  unfold aCpy at h
  rw [Option.bind_eq_some_iff] at h
  obtain ⟨⟨m, ys⟩, hys, h⟩ := h
  simp only at h
  split at h
  case isFalse => cases h
  rename_i hat
  have hylen := elemsS_length hys
  obtain ⟨hlen, news, hnews⟩ := elemsS_ok (P := P) hR hys hy
  have run : ∀ (base : Option Addr) (n cap : Nat) (new : Array Value), (Builtin.firstCells esz (Nat.min m n) v).run P w = .ok new w → (Builtin.copy_ ts ty #[.slice base n cap, v]).run P w = match base with
      | none => .ok (.int .i64 (Nat.min m n)) w
      | some a => ((storeCells a new.toList).run P w).andThen fun _ w' => .ok (.int .i64 (Nat.min m n)) w' := fun base n cap new hf => by
    cases base <;> simp [Builtin.copy_, h0, run_underlying ht, hlen w, run_sizeOf' hsz, hf, goInt]
  split at h
  · cases h
    have hu := hx.inv_v
    subst hu
    have hmin : Nat.min m 0 = 0 := Nat.min_zero m
    obtain ⟨_, hf⟩ := hnews 0 (Nat.zero_le _)
    refine ⟨_, w, ρ, run none 0 0 _ (by rw [hmin]; exact hf w (Same.refl w)), ?_, Step.refl hR _⟩
    rw [hmin]
    exact .v rfl
  · rename_i k off n sz c
    rw [Option.bind_eq_some_iff] at h
    obtain ⟨ob, hob, h⟩ := h
    obtain ⟨hk, hl⟩ := getO_some hob
    split at h
    case isFalse => cases h
    rename_i hb
    obtain ⟨rfl, hle⟩ := hb
    cases h
    obtain ⟨hcv, hf⟩ := hnews (Nat.min m n) (Nat.min_le_left _ _)
    have hat' : (ys.take (Nat.min m n * sz)).all atom = true := List.all_eq_true.2 fun a ha => List.all_eq_true.1 hat a (List.mem_of_mem_take ha)
    have hone := hcv.one (all_mem hat')
    have hmul : Nat.min m n * sz ≤ m * sz := Nat.mul_le_mul_right _ (Nat.min_le_left _ _)
    have hmul2 : Nat.min m n * sz ≤ n * sz := Nat.mul_le_mul_right _ (Nat.min_le_right _ _)
    have hnl : (ys.take (Nat.min m n * sz)).length = Nat.min m n * sz := by rw [List.length_take]; omega
    have idle : n = 0 → (∀ new, new = (#[] : Array Value) → (Builtin.copy_ ts ty #[u, v]).run P w = .ok (.int .i64 (Nat.min m n)) w) → ∃ (q : Value) (w' : World) (ρ' : List Loc), (Builtin.copy_ ts ty #[u, v]).run P w = .ok q w' ∧ VR Im ρ' (.v (.int .i64 (Nat.min m n))) q ∧ Step Im ρ Ω w Im ρ' (Ω.set k { ob with flat := ob.flat && (ys.take (Nat.min m n * sz)).all flat0, cells := putL ob.cells off (ys.take (Nat.min m n * sz)) }) w' (!ob.fresh) := fun hn hrun => by
      subst hn
      have e0 : ys.take (Nat.min m 0 * sz) = [] := by rw [show Nat.min m 0 = 0 from Nat.min_zero m, Nat.zero_mul, List.take_zero]
      have eo : ({ ob with flat := ob.flat && (ys.take (Nat.min m 0 * sz)).all flat0, cells := putL ob.cells off (ys.take (Nat.min m 0 * sz)) } : Obj) = ob := by rw [e0]; cases ob; simp [putL]
      rw [eo, set_self hk]
      exact ⟨_, w, ρ, hrun _ rfl, .v rfl, Step.refl hR _⟩
    have hnew0 : n = 0 → news (Nat.min m n) = #[] := fun hn => by
      subst hn
      have e0 : ys.take (Nat.min m 0 * sz) = [] := by rw [show Nat.min m 0 = 0 from Nat.min_zero m, Nat.zero_mul, List.take_zero]
      rw [e0] at hcv
      exact hcv.nil
    cases hx with
    | view b o s cap hk' hc h1 h2 h3 =>
      rcases hR.obj k ob hk hl with ⟨b', base', s', arr, T, fz, e1, e2, e3, e4, e5, e6, e7, f, e8, e9⟩ | ⟨e1, e2⟩
      · rw [hk'] at e1
        cases e1
        have hst := run_storeCells_put (P := P) (b := b) (o := o + off) (vs := news (Nat.min m n)) e2 (by rw [e5]; exact e4) (by rw [← hcv.1, hnl, e5]; omega) hone
        refine ⟨.int .i64 (Nat.min m n), _, ρ, ?_, .v rfl, write_step hR hk hl hk' e2 hcv hat' (by rw [hnl]; omega)⟩
        rw [run _ n cap _ (hf w (Same.refl w))]
        simp only [hst, Result.andThen_ok]
      · rw [hk'] at e1
        cases e1
    | viewE b o s o' hk' h1 h2 h3 =>
      refine idle rfl fun new _ => ?_
      rw [run _ 0 0 _ (hf w (Same.refl w)), hnew0 rfl]
      simp [storeCells]
    | view0 hk' h1 =>
      refine idle rfl fun new _ => ?_
      rw [run _ 0 0 _ (hf w (Same.refl w))]
  · cases h

theorem run_zeroCells_eq (zero : Array Value) (n : Nat) : Builtin.zeroCells zero n = (Array.range (n * zero.size)).map (zero[· % zero.size]!) := rfl
theorem aClr_ok {P : Program} {ts : Array TypeId} {t ty e : TypeId} {rr : List TypeId} (hts : ts.toList = t :: rr) (ht : P.underlying t = some (.slice e)) {esz : Nat} {z : List AV} (hcz : cz P e = some z) (hzp : 0 < esz) (hzl : z.length = esz) {Im : Imm} {ρ : List Loc} {Ω : List Obj} {w : World} (hR : Rel Im ρ Ω w) {x : AV} {u : Value} (hx : VR Im ρ x u)
    {Ω' : List Obj} {d : Bool} (h : aClr Ω esz z x = some (Ω', d)) : ∃ (w' : World) (ρ' : List Loc), (Builtin.clear_ ts ty #[u]).run P w = .ok undef w' ∧ Step Im ρ Ω w Im ρ' Ω' w' d := by
  have h0 : ts[0]? = some t := by rw [← Array.getElem?_toList, hts]; rfl
  obtain ⟨i', zv, hi', hzv, hzc, hzat, hzfl⟩ := cz_ok hcz Im ρ
  unfold aClr at h
  split at h
  · cases h
    have hu := hx.inv_v
    subst hu
    exact ⟨w, ρ, by simp [undef, Builtin.clear_, h0, run_underlying ht], Step.refl hR _⟩
  · rename_i k off n sz c
    rw [Option.bind_eq_some_iff] at h
    obtain ⟨ob, hob, h⟩ := h
    obtain ⟨hk, hl⟩ := getO_some hob
    split at h
    case isFalse => cases h
    rename_i hb
    obtain ⟨rfl, hle⟩ := hb
    cases h
    have hreps := reps_cv hzc (by omega) n
    have hmade : Builtin.zeroCells zv.cells n = (Array.range (n * z.length)).map (zv.cells[· % zv.cells.size]!) := by rw [run_zeroCells_eq, hzc.1]
    rw [← hmade] at hreps
    have hat : (reps n z).all atom = true := List.all_eq_true.2 (reps_mem hzat _)
    have hone := hreps.one (all_mem hat)
    have hnl : (reps n z).length = n * sz := by rw [reps_length, hzl]
    have idle : n = 0 → Step Im ρ Ω w Im ρ (Ω.set k { ob with flat := ob.flat && (reps n z).all flat0, cells := putL ob.cells off (reps n z) }) w (!ob.fresh) := fun hn => by
      subst hn
      have eo : ({ ob with flat := ob.flat && (reps 0 z).all flat0, cells := putL ob.cells off (reps 0 z) } : Obj) = ob := by cases ob; simp [reps, putL]
      rw [eo, set_self hk]
      exact Step.refl hR _
    by_cases hn0 : n = 0
    · refine ⟨w, ρ, ?_, idle hn0⟩
      subst hn0
      cases hx <;> simp [undef, Builtin.clear_, h0, run_underlying ht]
    cases hx with
    | view b o s cap hk' hc h1 h2 h3 =>
      rcases hR.obj k ob hk hl with ⟨b', base', s', arr, T, fz, e1, e2, e3, e4, e5, e6, e7, f, e8, e9⟩ | ⟨e1, e2⟩
      · rw [hk'] at e1
        cases e1
        have hst := run_storeCells_put (P := P) (b := b) (o := o + off) (vs := Builtin.zeroCells zv.cells n) e2 (by rw [e5]; exact e4) (by rw [← hreps.1, hnl, e5]; omega) hone
        refine ⟨_, ρ, ?_, write_step hR hk hl hk' e2 hreps hat (by rw [hnl]; omega)⟩
        obtain ⟨n, rfl⟩ : ∃ n', n = n' + 1 := ⟨n - 1, by omega⟩
        simp [undef, Builtin.clear_, h0, run_underlying ht, zeroValue, typeInfo, hi', hzv, hst]
      · rw [hk'] at e1
        cases e1
    | viewE b o s o' hk' h1 h2 h3 => exact absurd rfl hn0
    | view0 hk' h1 => exact absurd rfl hn0
  · cases h

theorem two_args {Im : Imm} {ρ : List Loc} {e : Env} {act : Act} (hE : EnvOK Im ρ e act) {c : Call} {x y : AX} (h : cxs c.args.toList = some [x, y]) : ∃ u v, c.args.map act.eval = #[u, v] ∧ (∀ a, ev e x = some a → VR Im ρ a u) ∧ ∀ a, ev e y = some a → VR Im ρ a v := by
  cases ha : c.args.toList with
  | nil => rw [ha] at h; cases h
  | cons p ps =>
    rw [ha] at h
    simp only [cxs, Option.bind_eq_some_iff] at h
    obtain ⟨b, hb, bs, hbs, h⟩ := h
    injection h with h
    injection h with e1 e2
    subst e1 e2
    cases ps with
    | nil => cases hbs
    | cons q qs =>
      simp only [cxs, Option.bind_eq_some_iff] at hbs
      obtain ⟨b', hb', bs', hbs', h⟩ := hbs
      injection h with h
      injection h with e1 e2
      subst e1 e2
      cases qs with
      | nil =>
        refine ⟨act.eval p, act.eval q, ?_, fun a hea => ev_ok hE hb hea, fun a hea => ev_ok hE hb' hea⟩
        apply Array.ext'
        rw [Array.toList_map, ha]
        rfl
      | cons q' qs' =>
        simp only [cxs, Option.bind_eq_some_iff] at hbs'
        obtain ⟨_, _, _, _, h⟩ := hbs'
        cases h
theorem one_arg {Im : Imm} {ρ : List Loc} {e : Env} {act : Act} (hE : EnvOK Im ρ e act) {c : Call} {x : AX} (h : cxs c.args.toList = some [x]) : ∃ u, c.args.map act.eval = #[u] ∧ (∀ a, ev e x = some a → VR Im ρ a u) := by
  cases ha : c.args.toList with
  | nil => rw [ha] at h; cases h
  | cons p ps =>
    rw [ha] at h
    simp only [cxs, Option.bind_eq_some_iff] at h
    obtain ⟨b, hb, bs, hbs, h⟩ := h
    injection h with h
    injection h with e1 e2
    subst e1 e2
    cases ps with
    | nil =>
      refine ⟨act.eval p, ?_, fun a hea => ev_ok hE hb hea⟩
      apply Array.ext'
      rw [Array.toList_map, ha]
      rfl
    | cons q qs =>
      simp only [cxs, Option.bind_eq_some_iff] at hbs
      obtain ⟨_, _, _, _, h⟩ := hbs
      cases h
theorem ae_ok {P : Program} {o : Oper} {ao : AO} (hc : compOp P o = some ao) {Im : Imm} {ρ : List Loc} {Ω : List Obj} {w : World} (hR : Rel Im ρ Ω w) {e : Env} {act : Act} (hE : EnvOK Im ρ e act) {r : AV} {Ω' : List Obj} {d : Bool} (h : ae e Ω ao = some (r, Ω', d)) : YieldsE P Im ρ Ω o act w r Ω' d (clsOf ao == 3) := by
  have hc0 := hc
  cases ho : o.op with
  | box t x =>
    simp only [compOp, ho, Option.map_eq_some_iff] at hc
    obtain ⟨ax, hx, rfl⟩ := hc
    exact box_ok ho hx hR hE h
  | alloc t =>
    simp only [compOp, ho, Option.map_eq_some_iff] at hc
    obtain ⟨z, hz, rfl⟩ := hc
    exact alloc_ok ho hz hR h
  | buildSlice t len parts =>
    have hk : (clsOf ao == 3) = true := by
      simp only [compOp, ho] at hc
      repeat' (first | (cases hc; rfl) | (cases hc; done) | (split at hc) | (rw [Option.bind_eq_some_iff] at hc; obtain ⟨_, _, hc⟩ := hc))
    rw [hk]
    exact row_ok ho hc0 hR hE h
  | makeSlice t l c =>
    have hk : (clsOf ao == 3) = true := by
      simp only [compOp, ho] at hc
      repeat' (first | (cases hc; rfl) | (cases hc; done) | (split at hc) | (rw [Option.bind_eq_some_iff] at hc; obtain ⟨_, _, hc⟩ := hc))
    rw [hk]
    exact mks_ok ho hc0 hR hE h
  | store t a x =>
    simp only [compOp, ho, Option.bind_eq_some_iff] at hc
    obtain ⟨n, hn, ax, hx, ay, hy, hc⟩ := hc
    cases hc
    exact store_ok ho hn hx hy hR hE h
  | convert s d x =>
    simp only [compOp, ho, Option.bind_eq_some_iff] at hc
    obtain ⟨ax, hx, su, hs, du, hd, hc⟩ := hc
    split at hc
    · cases hc; cases h
    · cases hc; cases h
    · split at hc
      · rename_i he
        cases hc
        exact cvsb_ok ho hs hd he hx hR hE h
      · cases hc
    · split at hc
      · cases hc; cases h
      · cases hc
    · cases hc
  | call c =>
    simp only [compOp, ho, Option.bind_eq_some_iff] at hc
    obtain ⟨xs, hxs, hc⟩ := hc
    split at hc
    · simp only [Option.bind_eq_some_iff] at hc
      obtain ⟨f, hf, hc⟩ := hc
      cases hc
      cases h
    · cases hc
    · rename_i bi hcal
      have hex : ∀ b, bi = b → execOp act.eval o = builtin b c.argTypes o.type (c.args.map fun | .const _ => true | _ => false) (c.args.map act.eval) := fun b hb => by subst hb; simp only [execOp, ho, resolve, hcal, invoke, pure_bind]; rfl
      split at hc
      · simp only [Option.bind_eq_some_iff] at hc
        obtain ⟨d, hd, hc⟩ := hc
        split at hc <;> cases hc <;> cases h
      · cases hc; cases h
      · cases hc; cases h
      · rename_i t t' rr x y hts
        simp only [Option.bind_eq_some_iff] at hc
        obtain ⟨d, hd, hc⟩ := hc
        split at hc
        · simp only [Option.bind_eq_some_iff] at hc
          obtain ⟨i, hi, z, hz, ud, hu, hc⟩ := hc
          split at hc
          · rename_i hb
            cases hc
            simp only [ae, Option.bind_eq_some_iff] at h
            obtain ⟨vx, e1, vy, e2, h⟩ := h
            obtain ⟨u, v, hargs, hvx, hvy⟩ := two_args hE hxs
            obtain ⟨q, w', ρ', hrun, hv, hst⟩ := aApp_ok (ty := o.type) hts hd hi hz hb.1 hb.2.1 hu hb.2.2 hR (hvx _ e1) (hvy _ e2) h
            exact ⟨_, q, w', ρ', by rw [hex _ rfl, hargs]; exact do_val hrun, .inl rfl, hv, hst, fun h => by cases h⟩
          · cases hc
        · cases hc
      · rename_i t rr x y hts
        simp only [Option.bind_eq_some_iff] at hc
        obtain ⟨d, hd, hc⟩ := hc
        split at hc
        · simp only [Option.bind_eq_some_iff] at hc
          obtain ⟨n, hn, hc⟩ := hc
          cases hc
          simp only [ae, Option.bind_eq_some_iff] at h
          obtain ⟨vx, e1, vy, e2, h⟩ := h
          obtain ⟨u, v, hargs, hvx, hvy⟩ := two_args hE hxs
          obtain ⟨q, w', ρ', hrun, hv, hst⟩ := aCpy_ok (ty := o.type) hts hd hn hR (hvx _ e1) (hvy _ e2) h
          exact ⟨_, q, w', ρ', by rw [hex _ rfl, hargs]; exact do_val hrun, .inl rfl, hv, hst, fun h => by cases h⟩
        · cases hc
      · rename_i t rr x hts
        simp only [Option.bind_eq_some_iff] at hc
        obtain ⟨d, hd, hc⟩ := hc
        split at hc
        · simp only [Option.bind_eq_some_iff] at hc
          obtain ⟨n, hn, z, hz, hc⟩ := hc
          split at hc
          case isFalse => cases hc
          rename_i hzz
          cases hc
          simp only [ae, Option.bind_eq_some_iff, Option.map_eq_some_iff] at h
          obtain ⟨vx, e1, ⟨Ω1, d1⟩, hcl, h⟩ := h
          cases h
          obtain ⟨u, hargs, hvx⟩ := one_arg hE hxs
          obtain ⟨w', ρ', hrun, hst⟩ := aClr_ok (ty := o.type) hts hd hz hzz.1 hzz.2 hR (hvx _ e1) hcl
          exact ⟨_, undef, w', ρ', by rw [hex _ rfl, hargs]; exact do_val hrun, .inl rfl, .dead, hst, fun h => by cases h⟩
        · cases hc
      · cases hc
  | makeFunc f first captured =>
    simp only [compOp, ho] at hc
    split at hc
    case h_2 => cases hc
    split at hc
    case isFalse => cases hc
    simp only [Option.map_eq_some_iff] at hc
    obtain ⟨xs, hxs, rfl⟩ := hc
    cases h
  | move x => simp only [compOp, ho, Option.map_eq_some_iff] at hc; obtain ⟨_, _, rfl⟩ := hc; cases h
  | assign x => simp only [compOp, ho, Option.map_eq_some_iff] at hc; obtain ⟨_, _, rfl⟩ := hc; cases h
  | pick c a b => simp only [compOp, ho, Option.bind_eq_some_iff] at hc; obtain ⟨_, _, _, _, _, _, hc⟩ := hc; cases hc; cases h
  | binOp op t x y t' =>
    simp only [compOp, ho, Option.bind_eq_some_iff] at hc
    obtain ⟨_, _, _, _, d, _, hc⟩ := hc
    split at hc <;> first
      | (cases hc; cases h; done)
      | (split at hc <;> first | (cases hc; cases h; done) | (cases hc; done) | (simp only [Option.bind_eq_some_iff] at hc; obtain ⟨_, _, hc⟩ := hc; cases hc; cases h))
      | cases hc
  | unOp op t x => simp only [compOp, ho, Option.map_eq_some_iff] at hc; obtain ⟨_, _, rfl⟩ := hc; cases h
  | load t x => simp only [compOp, ho, Option.bind_eq_some_iff] at hc; obtain ⟨_, _, _, _, hc⟩ := hc; cases hc; cases h
  | field t x f =>
    simp only [compOp, ho, Option.bind_eq_some_iff] at hc
    obtain ⟨d, _, hc⟩ := hc
    split at hc
    · simp only [Option.bind_eq_some_iff] at hc; obtain ⟨_, _, _, _, _, _, hc⟩ := hc; cases hc; cases h
    · cases hc
  | fieldAddr t x f =>
    simp only [compOp, ho, Option.bind_eq_some_iff] at hc
    obtain ⟨d, _, hc⟩ := hc
    split at hc
    · simp only [Option.bind_eq_some_iff] at hc
      obtain ⟨_, _, _, _, hc⟩ := hc
      split at hc
      · cases hc
      · simp only [Option.bind_eq_some_iff] at hc; obtain ⟨_, _, hc⟩ := hc; cases hc; cases h
    · cases hc
  | nilCheck x => simp only [compOp, ho, Option.map_eq_some_iff] at hc; obtain ⟨_, _, rfl⟩ := hc; cases h
  | indexAddr t x i =>
    simp only [compOp, ho, Option.bind_eq_some_iff] at hc
    obtain ⟨_, _, _, _, d, _, hc⟩ := hc
    split at hc <;> first | (simp only [Option.bind_eq_some_iff] at hc; obtain ⟨_, _, hc⟩ := hc; cases hc; cases h; done) | cases hc
  | index t x i =>
    simp only [compOp, ho, Option.bind_eq_some_iff] at hc
    obtain ⟨_, _, _, _, d, _, hc⟩ := hc
    split at hc <;> first | (cases hc; cases h; done) | (simp only [Option.bind_eq_some_iff] at hc; obtain ⟨_, _, _, _, hc⟩ := hc; cases hc; cases h; done) | cases hc
  | extract x i => simp only [compOp, ho, Option.map_eq_some_iff] at hc; obtain ⟨_, _, rfl⟩ := hc; cases h
  | slice t x lo hi mx =>
    simp only [compOp, ho, Option.bind_eq_some_iff] at hc
    obtain ⟨_, _, _, _, _, _, _, _, d, _, hc⟩ := hc
    split at hc
    · split at hc
      · cases hc; cases h
      · cases hc
    · simp only [Option.bind_eq_some_iff] at hc
      obtain ⟨_, _, hc⟩ := hc
      split at hc
      · cases hc
      · cases hc; cases h
    · cases hc
  | build t parts =>
    simp only [compOp, ho, Option.bind_eq_some_iff] at hc
    obtain ⟨_, _, d, _, hc⟩ := hc
    split at hc
    · simp only [Option.bind_eq_some_iff] at hc
      obtain ⟨_, _, hc⟩ := hc
      split at hc
      · cases hc; cases h
      · cases hc
    · simp only [Option.bind_eq_some_iff] at hc
      obtain ⟨_, _, _, _, hc⟩ := hc
      cases hc; cases h
    · cases hc
  | _ => simp [compOp, ho] at hc
end Go.Proofs.Ytkaigdfklihlcaa.Sym
