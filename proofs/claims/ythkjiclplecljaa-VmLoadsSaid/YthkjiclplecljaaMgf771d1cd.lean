/- copy; all operations that make or change memory. -/
import Derived.Test.YthkjiclplecljaaMg9234258b
namespace Go.Proofs.Ythkjiclplecljaa.Sym
open Go
set_option linter.unusedVariables false
set_option linter.unusedSimpArgs false

theorem set_self {Ω : List Obj} {k : Nat} {o : Obj} (h : Ω[k]? = some o) : Ω.set k o = Ω := by
  apply List.ext_getElem?
  intro i
  rw [List.getElem?_set]
  split
  · rename_i e
    subst e
    rw [if_pos (List.getElem?_eq_some_iff.1 h).1, h]
  · rfl
theorem aCpy_ok {P : Program} {ts : Array TypeId} {t ty e : TypeId} {rr : List TypeId} (hts : ts.toList = t :: rr) (ht : P.underlying t = some (.slice e)) {esz : Nat} (hsz : sizeT P e = some esz) {Im : Imm} {ρ : List Loc} {Ω : List Obj} {w : World} (hR : Rel Im ρ Ω w) {x y : AV} {u v : Value} (hx : VR Im ρ x u) (hy : VR Im ρ y v)
    {r : AV} {Ω' : List Obj} {d : Bool} (h : aCpy Ω esz x y = some (r, Ω', d)) : ∃ (q : Value) (w' : World) (ρ' : List Loc), (Builtin.copy_ ts ty #[u, v]).run P w = .ok q w' ∧ VR Im ρ' r q ∧ Step Im ρ Ω w Im ρ' Ω' w' d := by
  have h0 : ts[0]? = some t := by rw [← Array.getElem?_toList, hts]; rfl
  unfold aCpy at h
  rw [Option.bind_eq_some_iff] at h
  obtain ⟨⟨m, ys⟩, hys, h⟩ := h
  simp only at h
  split at h
  case isFalse => cases h
  rename_i hat
  have hylen := elemsS_length hys
  obtain ⟨hlen, news, hnews⟩ := elemsS_ok (P := P) hR hys hy
  have run : ∀ (base : Option Addr) (n cap : Nat) (new : Array Value), (Builtin.firstCells esz (Nat.min m n) v).run P w = .ok new w → (Builtin.copy_ ts ty #[.slice base n cap, v]).run P w = match base with
      | none => .ok (.int .i64 (Nat.min m n)) w
      | some a => ((storeCells a new.toList).run P w).andThen fun _ w' => .ok (.int .i64 (Nat.min m n)) w' := fun base n cap new hf => by
    cases base <;> simp [Builtin.copy_, h0, run_underlying ht, hlen w, run_sizeOf' hsz, hf, goInt]
  split at h
  · cases h
    have hu := hx.inv_v
    subst hu
    have hmin : Nat.min m 0 = 0 := Nat.min_zero m
    obtain ⟨_, hf⟩ := hnews 0 (Nat.zero_le _)
    refine ⟨_, w, ρ, run none 0 0 _ (by rw [hmin]; exact hf w (Same.refl w)), ?_, Step.refl hR _⟩
    rw [hmin]
    exact .v rfl
  · rename_i k off n sz c
    rw [Option.bind_eq_some_iff] at h
    obtain ⟨ob, hob, h⟩ := h
    obtain ⟨hk, hl⟩ := getO_some hob
    split at h
    case isFalse => cases h
    rename_i hb
    obtain ⟨rfl, hle⟩ := hb
    cases h
    obtain ⟨hcv, hf⟩ := hnews (Nat.min m n) (Nat.min_le_left _ _)
    have hat' : (ys.take (Nat.min m n * sz)).all atom = true := List.all_eq_true.2 fun a ha => List.all_eq_true.1 hat a (List.mem_of_mem_take ha)
    have hone := hcv.one (all_mem hat')
    have hmul : Nat.min m n * sz ≤ m * sz := Nat.mul_le_mul_right _ (Nat.min_le_left _ _)
    have hmul2 : Nat.min m n * sz ≤ n * sz := Nat.mul_le_mul_right _ (Nat.min_le_right _ _)
    have hnl : (ys.take (Nat.min m n * sz)).length = Nat.min m n * sz := by rw [List.length_take]; omega
    have idle : n = 0 → (∀ new, new = (#[] : Array Value) → (Builtin.copy_ ts ty #[u, v]).run P w = .ok (.int .i64 (Nat.min m n)) w) → ∃ (q : Value) (w' : World) (ρ' : List Loc), (Builtin.copy_ ts ty #[u, v]).run P w = .ok q w' ∧ VR Im ρ' (.v (.int .i64 (Nat.min m n))) q ∧ Step Im ρ Ω w Im ρ' (Ω.set k { ob with flat := ob.flat && (ys.take (Nat.min m n * sz)).all flat0, cells := putL ob.cells off (ys.take (Nat.min m n * sz)) }) w' (!ob.fresh) := fun hn hrun => by
      subst hn
      have e0 : ys.take (Nat.min m 0 * sz) = [] := by rw [show Nat.min m 0 = 0 from Nat.min_zero m, Nat.zero_mul, List.take_zero]
      have eo : ({ ob with flat := ob.flat && (ys.take (Nat.min m 0 * sz)).all flat0, cells := putL ob.cells off (ys.take (Nat.min m 0 * sz)) } : Obj) = ob := by rw [e0]; cases ob; simp [putL]
      rw [eo, set_self hk]
      exact ⟨_, w, ρ, hrun _ rfl, .v rfl, Step.refl hR _⟩
    have hnew0 : n = 0 → news (Nat.min m n) = #[] := fun hn => by
      subst hn
      have e0 : ys.take (Nat.min m 0 * sz) = [] := by rw [show Nat.min m 0 = 0 from Nat.min_zero m, Nat.zero_mul, List.take_zero]
      rw [e0] at hcv
      exact hcv.nil
    cases hx with
    | view b o s cap hk' hc h1 h2 h3 =>
      rcases hR.obj k ob hk hl with ⟨b', base', s', arr, T, fz, e1, e2, e3, e4, e5, e6, e7, f, e8, e9⟩ | ⟨e1, e2⟩
      · rw [hk'] at e1
        cases e1
        have hst := run_storeCells_put (P := P) (b := b) (o := o + off) (vs := news (Nat.min m n)) e2 (by rw [e5]; exact e4) (by rw [← hcv.1, hnl, e5]; omega) hone
        refine ⟨.int .i64 (Nat.min m n), _, ρ, ?_, .v rfl, write_step hR hk hl hk' e2 hcv hat' (by rw [hnl]; omega)⟩
        rw [run _ n cap _ (hf w (Same.refl w))]
        simp only [hst, Result.andThen_ok]
      · rw [hk'] at e1
        cases e1
    | viewE b o s o' hk' h1 h2 h3 =>
      refine idle rfl fun new _ => ?_
      rw [run _ 0 0 _ (hf w (Same.refl w)), hnew0 rfl]
      simp [storeCells]
    | view0 hk' h1 =>
      refine idle rfl fun new _ => ?_
      rw [run _ 0 0 _ (hf w (Same.refl w))]
  · cases h

theorem run_zeroCells_eq (zero : Array Value) (n : Nat) : Builtin.zeroCells zero n = (Array.range (n * zero.size)).map (zero[· % zero.size]!) := rfl
theorem aClr_ok {P : Program} {ts : Array TypeId} {t ty e : TypeId} {rr : List TypeId} (hts : ts.toList = t :: rr) (ht : P.underlying t = some (.slice e)) {esz : Nat} {z : List AV} (hcz : cz P e = some z) (hzp : 0 < esz) (hzl : z.length = esz) {Im : Imm} {ρ : List Loc} {Ω : List Obj} {w : World} (hR : Rel Im ρ Ω w) {x : AV} {u : Value} (hx : VR Im ρ x u)
    {Ω' : List Obj} {d : Bool} (h : aClr Ω esz z x = some (Ω', d)) : ∃ (w' : World) (ρ' : List Loc), (Builtin.clear_ ts ty #[u]).run P w = .ok undef w' ∧ Step Im ρ Ω w Im ρ' Ω' w' d := by
  have h0 : ts[0]? = some t := by rw [← Array.getElem?_toList, hts]; rfl
  obtain ⟨i', zv, hi', hzv, hzc, hzat, hzfl⟩ := cz_ok hcz Im ρ
  unfold aClr at h
  split at h
  · cases h
    have hu := hx.inv_v
    subst hu
    exact ⟨w, ρ, by simp [undef, Builtin.clear_, h0, run_underlying ht], Step.refl hR _⟩
  · rename_i k off n sz c
    rw [Option.bind_eq_some_iff] at h
    obtain ⟨ob, hob, h⟩ := h
    obtain ⟨hk, hl⟩ := getO_some hob
    split at h
    case isFalse => cases h
    rename_i hb
    obtain ⟨rfl, hle⟩ := hb
    cases h
    have hreps := reps_cv hzc (by omega) n
    have hmade : Builtin.zeroCells zv.cells n = (Array.range (n * z.length)).map (zv.cells[· % zv.cells.size]!) := by rw [run_zeroCells_eq, hzc.1]
    rw [← hmade] at hreps
    have hat : (reps n z).all atom = true := List.all_eq_true.2 (reps_mem hzat _)
    have hone := hreps.one (all_mem hat)
    have hnl : (reps n z).length = n * sz := by rw [reps_length, hzl]
    have idle : n = 0 → Step Im ρ Ω w Im ρ (Ω.set k { ob with flat := ob.flat && (reps n z).all flat0, cells := putL ob.cells off (reps n z) }) w (!ob.fresh) := fun hn => by
      subst hn
      have eo : ({ ob with flat := ob.flat && (reps 0 z).all flat0, cells := putL ob.cells off (reps 0 z) } : Obj) = ob := by cases ob; simp [reps, putL]
      rw [eo, set_self hk]
      exact Step.refl hR _
    by_cases hn0 : n = 0
    · refine ⟨w, ρ, ?_, idle hn0⟩
      subst hn0
      cases hx <;> simp [undef, Builtin.clear_, h0, run_underlying ht]
    cases hx with
    | view b o s cap hk' hc h1 h2 h3 =>
      rcases hR.obj k ob hk hl with ⟨b', base', s', arr, T, fz, e1, e2, e3, e4, e5, e6, e7, f, e8, e9⟩ | ⟨e1, e2⟩
      · rw [hk'] at e1
        cases e1
        have hst := run_storeCells_put (P := P) (b := b) (o := o + off) (vs := Builtin.zeroCells zv.cells n) e2 (by rw [e5]; exact e4) (by rw [← hreps.1, hnl, e5]; omega) hone
        refine ⟨_, ρ, ?_, write_step hR hk hl hk' e2 hreps hat (by rw [hnl]; omega)⟩
        obtain ⟨n, rfl⟩ : ∃ n', n = n' + 1 := ⟨n - 1, by omega⟩
        simp [undef, Builtin.clear_, h0, run_underlying ht, zeroValue, typeInfo, hi', hzv, hst]
      · rw [hk'] at e1
        cases e1
    | viewE b o s o' hk' h1 h2 h3 => exact absurd rfl hn0
    | view0 hk' h1 => exact absurd rfl hn0
  · cases h

theorem two_args {Im : Imm} {ρ : List Loc} {e : Env} {act : Act} (hE : EnvOK Im ρ e act) {c : Call} {x y : AX} (h : cxs c.args.toList = some [x, y]) : ∃ u v, c.args.map act.eval = #[u, v] ∧ (∀ a, ev e x = some a → VR Im ρ a u) ∧ ∀ a, ev e y = some a → VR Im ρ a v := by
  cases ha : c.args.toList with
  | nil => rw [ha] at h; cases h
  | cons p ps =>
    rw [ha] at h
    simp only [cxs, Option.bind_eq_some_iff] at h
    obtain ⟨b, hb, bs, hbs, h⟩ := h
    injection h with h
    injection h with e1 e2
    subst e1 e2
    cases ps with
    | nil => cases hbs
    | cons q qs =>
      simp only [cxs, Option.bind_eq_some_iff] at hbs
      obtain ⟨b', hb', bs', hbs', h⟩ := hbs
      injection h with h
      injection h with e1 e2
      subst e1 e2
      cases qs with
      | nil =>
        refine ⟨act.eval p, act.eval q, ?_, fun a hea => ev_ok hE hb hea, fun a hea => ev_ok hE hb' hea⟩
        apply Array.ext'
        rw [Array.toList_map, ha]
        rfl
      | cons q' qs' =>
        simp only [cxs, Option.bind_eq_some_iff] at hbs'
        obtain ⟨_, _, _, _, h⟩ := hbs'
        cases h
theorem one_arg {Im : Imm} {ρ : List Loc} {e : Env} {act : Act} (hE : EnvOK Im ρ e act) {c : Call} {x : AX} (h : cxs c.args.toList = some [x]) : ∃ u, c.args.map act.eval = #[u] ∧ (∀ a, ev e x = some a → VR Im ρ a u) := by
  cases ha : c.args.toList with
  | nil => rw [ha] at h; cases h
  | cons p ps =>
    rw [ha] at h
    simp only [cxs, Option.bind_eq_some_iff] at h
    obtain ⟨b, hb, bs, hbs, h⟩ := h
    injection h with h
    injection h with e1 e2
    subst e1 e2
    cases ps with
    | nil =>
      refine ⟨act.eval p, ?_, fun a hea => ev_ok hE hb hea⟩
      apply Array.ext'
      rw [Array.toList_map, ha]
      rfl
    | cons q qs =>
      simp only [cxs, Option.bind_eq_some_iff] at hbs
      obtain ⟨_, _, _, _, h⟩ := hbs
      cases h
theorem ae_ok {P : Program} {o : Oper} {ao : AO} (hc : compOp P o = some ao) {Im : Imm} {ρ : List Loc} {Ω : List Obj} {w : World} (hR : Rel Im ρ Ω w) {e : Env} {act : Act} (hE : EnvOK Im ρ e act) {r : AV} {Ω' : List Obj} {d : Bool} (h : ae e Ω ao = some (r, Ω', d)) : YieldsE P Im ρ Ω o act w r Ω' d (clsOf ao == 3) := by
  have hc0 := hc
  cases ho : o.op with
  | box t x =>
    simp only [compOp, ho, Option.map_eq_some_iff] at hc
    obtain ⟨ax, hx, rfl⟩ := hc
    exact box_ok ho hx hR hE h
  | alloc t =>
    simp only [compOp, ho, Option.map_eq_some_iff] at hc
    obtain ⟨z, hz, rfl⟩ := hc
    exact alloc_ok ho hz hR h
  | buildSlice t len parts =>
    have hk : (clsOf ao == 3) = true := by
      simp only [compOp, ho] at hc
      repeat' (first | (cases hc; rfl) | (cases hc; done) | (split at hc) | (rw [Option.bind_eq_some_iff] at hc; obtain ⟨_, _, hc⟩ := hc))
    rw [hk]
    exact row_ok ho hc0 hR hE h
  | makeSlice t l c =>
    have hk : (clsOf ao == 3) = true := by
      simp only [compOp, ho] at hc
      repeat' (first | (cases hc; rfl) | (cases hc; done) | (split at hc) | (rw [Option.bind_eq_some_iff] at hc; obtain ⟨_, _, hc⟩ := hc))
    rw [hk]
    exact mks_ok ho hc0 hR hE h
  | store t a x =>
    simp only [compOp, ho, Option.bind_eq_some_iff] at hc
    obtain ⟨n, hn, ax, hx, ay, hy, hc⟩ := hc
    cases hc
    exact store_ok ho hn hx hy hR hE h
  | convert s d x =>
    simp only [compOp, ho, Option.bind_eq_some_iff] at hc
    obtain ⟨ax, hx, su, hs, du, hd, hc⟩ := hc
    split at hc
    · cases hc; cases h
    · cases hc; cases h
    · split at hc
      · rename_i he
        cases hc
        exact cvsb_ok ho hs hd he hx hR hE h
      · cases hc
    · split at hc
      · cases hc; cases h
      · cases hc
    · cases hc
  | call c =>
    simp only [compOp, ho, Option.bind_eq_some_iff] at hc
    obtain ⟨xs, hxs, hc⟩ := hc
    split at hc
    · simp only [Option.bind_eq_some_iff] at hc
      obtain ⟨f, hf, hc⟩ := hc
      cases hc
      cases h
    · cases hc
    · rename_i bi hcal
      have hex : ∀ b, bi = b → execOp act.eval o = builtin b c.argTypes o.type (c.args.map fun | .const _ => true | _ => false) (c.args.map act.eval) := fun b hb => by subst hb; simp only [execOp, ho, resolve, hcal, invoke, pure_bind]; rfl
      split at hc
      · simp only [Option.bind_eq_some_iff] at hc
        obtain ⟨d, hd, hc⟩ := hc
        split at hc <;> cases hc <;> cases h
      · cases hc; cases h
      · cases hc; cases h
      · rename_i t t' rr x y hts
        simp only [Option.bind_eq_some_iff] at hc
        obtain ⟨d, hd, hc⟩ := hc
        split at hc
        · simp only [Option.bind_eq_some_iff] at hc
          obtain ⟨i, hi, z, hz, ud, hu, hc⟩ := hc
          split at hc
          · rename_i hb
            cases hc
            simp only [ae, Option.bind_eq_some_iff] at h
            obtain ⟨vx, e1, vy, e2, h⟩ := h
            obtain ⟨u, v, hargs, hvx, hvy⟩ := two_args hE hxs
            obtain ⟨q, w', ρ', hrun, hv, hst⟩ := aApp_ok (ty := o.type) hts hd hi hz hb.1 hb.2.1 hu hb.2.2 hR (hvx _ e1) (hvy _ e2) h
            exact ⟨_, q, w', ρ', by rw [hex _ rfl, hargs]; exact do_val hrun, .inl rfl, hv, hst, fun h => by cases h⟩
          · cases hc
        · cases hc
      · rename_i t rr x y hts
        simp only [Option.bind_eq_some_iff] at hc
        obtain ⟨d, hd, hc⟩ := hc
        split at hc
        · simp only [Option.bind_eq_some_iff] at hc
          obtain ⟨n, hn, hc⟩ := hc
          cases hc
          simp only [ae, Option.bind_eq_some_iff] at h
          obtain ⟨vx, e1, vy, e2, h⟩ := h
          obtain ⟨u, v, hargs, hvx, hvy⟩ := two_args hE hxs
          obtain ⟨q, w', ρ', hrun, hv, hst⟩ := aCpy_ok (ty := o.type) hts hd hn hR (hvx _ e1) (hvy _ e2) h
          exact ⟨_, q, w', ρ', by rw [hex _ rfl, hargs]; exact do_val hrun, .inl rfl, hv, hst, fun h => by cases h⟩
        · cases hc
      · rename_i t rr x hts
        simp only [Option.bind_eq_some_iff] at hc
        obtain ⟨d, hd, hc⟩ := hc
        split at hc
        · simp only [Option.bind_eq_some_iff] at hc
          obtain ⟨n, hn, z, hz, hc⟩ := hc
          split at hc
          case isFalse => cases hc
          rename_i hzz
          cases hc
          simp only [ae, Option.bind_eq_some_iff, Option.map_eq_some_iff] at h
          obtain ⟨vx, e1, ⟨Ω1, d1⟩, hcl, h⟩ := h
          cases h
          obtain ⟨u, hargs, hvx⟩ := one_arg hE hxs
          obtain ⟨w', ρ', hrun, hst⟩ := aClr_ok (ty := o.type) hts hd hz hzz.1 hzz.2 hR (hvx _ e1) hcl
          exact ⟨_, undef, w', ρ', by rw [hex _ rfl, hargs]; exact do_val hrun, .inl rfl, .dead, hst, fun h => by cases h⟩
        · cases hc
      · cases hc
  | makeFunc f first captured =>
    simp only [compOp, ho] at hc
    split at hc
    case h_2 => cases hc
    split at hc
    case isFalse => cases hc
    simp only [Option.map_eq_some_iff] at hc
    obtain ⟨xs, hxs, rfl⟩ := hc
    cases h
  | move x => simp only [compOp, ho, Option.map_eq_some_iff] at hc; obtain ⟨_, _, rfl⟩ := hc; cases h
  | assign x => simp only [compOp, ho, Option.map_eq_some_iff] at hc; obtain ⟨_, _, rfl⟩ := hc; cases h
  | pick c a b => simp only [compOp, ho, Option.bind_eq_some_iff] at hc; obtain ⟨_, _, _, _, _, _, hc⟩ := hc; cases hc; cases h
  | binOp op t x y t' =>
    simp only [compOp, ho, Option.bind_eq_some_iff] at hc
    obtain ⟨_, _, _, _, d, _, hc⟩ := hc
    split at hc <;> first
      | (cases hc; cases h; done)
      | (split at hc <;> first | (cases hc; cases h; done) | (cases hc; done) | (simp only [Option.bind_eq_some_iff] at hc; obtain ⟨_, _, hc⟩ := hc; cases hc; cases h))
      | cases hc
  | unOp op t x => simp only [compOp, ho, Option.map_eq_some_iff] at hc; obtain ⟨_, _, rfl⟩ := hc; cases h
  | load t x => simp only [compOp, ho, Option.bind_eq_some_iff] at hc; obtain ⟨_, _, _, _, hc⟩ := hc; cases hc; cases h
  | field t x f =>
    simp only [compOp, ho, Option.bind_eq_some_iff] at hc
    obtain ⟨d, _, hc⟩ := hc
    split at hc
    · simp only [Option.bind_eq_some_iff] at hc; obtain ⟨_, _, _, _, _, _, hc⟩ := hc; cases hc; cases h
    · cases hc
  | fieldAddr t x f =>
    simp only [compOp, ho, Option.bind_eq_some_iff] at hc
    obtain ⟨d, _, hc⟩ := hc
    split at hc
    · simp only [Option.bind_eq_some_iff] at hc
      obtain ⟨_, _, _, _, hc⟩ := hc
      split at hc
      · cases hc
      · simp only [Option.bind_eq_some_iff] at hc; obtain ⟨_, _, hc⟩ := hc; cases hc; cases h
    · cases hc
  | nilCheck x => simp only [compOp, ho, Option.map_eq_some_iff] at hc; obtain ⟨_, _, rfl⟩ := hc; cases h
  | indexAddr t x i =>
    simp only [compOp, ho, Option.bind_eq_some_iff] at hc
    obtain ⟨_, _, _, _, d, _, hc⟩ := hc
    split at hc <;> first | (simp only [Option.bind_eq_some_iff] at hc; obtain ⟨_, _, hc⟩ := hc; cases hc; cases h; done) | cases hc
  | index t x i =>
    simp only [compOp, ho, Option.bind_eq_some_iff] at hc
    obtain ⟨_, _, _, _, d, _, hc⟩ := hc
    split at hc <;> first | (cases hc; cases h; done) | (simp only [Option.bind_eq_some_iff] at hc; obtain ⟨_, _, _, _, hc⟩ := hc; cases hc; cases h; done) | cases hc
  | extract x i => simp only [compOp, ho, Option.map_eq_some_iff] at hc; obtain ⟨_, _, rfl⟩ := hc; cases h
  | slice t x lo hi mx =>
    simp only [compOp, ho, Option.bind_eq_some_iff] at hc
    obtain ⟨_, _, _, _, _, _, _, _, d, _, hc⟩ := hc
    split at hc
    · split at hc
      · cases hc; cases h
      · cases hc
    · simp only [Option.bind_eq_some_iff] at hc
      obtain ⟨_, _, hc⟩ := hc
      split at hc
      · cases hc
      · cases hc; cases h
    · cases hc
  | build t parts =>
    simp only [compOp, ho, Option.bind_eq_some_iff] at hc
    obtain ⟨_, _, d, _, hc⟩ := hc
    split at hc
    · simp only [Option.bind_eq_some_iff] at hc
      obtain ⟨_, _, hc⟩ := hc
      split at hc
      · cases hc; cases h
      · cases hc
    · simp only [Option.bind_eq_some_iff] at hc
      obtain ⟨_, _, _, _, hc⟩ := hc
      cases hc; cases h
    · cases hc
  | _ => simp [compOp, ho] at hc
end Go.Proofs.Ythkjiclplecljaa.Sym

/- Other numbers for the same objects. -/
namespace Go.Proofs.Ythkjiclplecljaa.Sym
open Go
set_option linter.unusedVariables false
set_option linter.unusedSimpArgs false

/-- What the numbers in a value stood for they stand for under their new names. -/
def Map (ρ ρ' : List Loc) (g : Nat → Nat) (ks : List Nat) : Prop := ∀ k ∈ ks, ∀ l, ρ[k]? = some l → ρ'[g k]? = some l
theorem VR.ren0 {Im : Imm} {ρ ρ' : List Loc} {g : Nat → Nat} {a : AV} {x : Value} (ha : atom a = true) (h : VR Im ρ a x) (hm : Map ρ ρ' g (refs0 a)) : VR Im ρ' (Sym.ren0 g a) x := by
  cases h with
  | v h => exact .v h
  | dead => exact .dead
  | shr b o cap arr f hb hc hcl hat h1 h2 => exact .shr b o cap arr f hb hc hcl hat h1 h2
  | shr0 a => exact .shr0 a
  | iptr b o arr f hb hat h1 h2 => exact .iptr b o arr f hb hat h1 h2
  | ptr b o s hk => exact .ptr b o s (hm _ (by simp [refs0]) _ hk)
  | view b o s cap hk hc h1 h2 h3 => exact .view b o s cap (hm _ (by simp [refs0]) _ hk) hc h1 h2 h3
  | viewE b o s o' hk h1 h2 h3 => exact .viewE b o s o' (hm _ (by simp [refs0]) _ hk) h1 h2 h3
  | view0 hk h1 => exact .view0 (hm _ (by simp [refs0]) _ hk) h1
  | agg => simp [atom] at ha
  | tup => simp [atom] at ha
  | fn arr f hl h1 h2 =>
    simp only [atom, List.isEmpty_iff] at ha
    subst ha
    exact .fn arr f hl h1 (fun i a hi => by simp at hi)
theorem Map.mono {ρ ρ' : List Loc} {g : Nat → Nat} {ks ks' : List Nat} (h : Map ρ ρ' g ks) (hs : ∀ k ∈ ks', k ∈ ks) : Map ρ ρ' g ks' := fun k hk => h k (hs k hk)
theorem map_get {α : Type} {f : α → α} {cs : List α} {i : Nat} {a : α} (hi : (cs.map f)[i]? = some a) : ∃ c, cs[i]? = some c ∧ a = f c := by
  rw [List.getElem?_map, Option.map_eq_some_iff] at hi
  obtain ⟨c, hc, rfl⟩ := hi
  exact ⟨c, hc, rfl⟩
theorem VR.ren1 {Im : Imm} {ρ ρ' : List Loc} {g : Nat → Nat} {a : AV} {x : Value} (ha : ok1 a = true) (h : VR Im ρ a x) (hm : Map ρ ρ' g (refs1 a)) : VR Im ρ' (Sym.ren1 g a) x := by
  cases h with
  | agg arr f hl h1 h2 =>
    have hm' : Map ρ ρ' g (_) := hm
    simp only [refs1] at hm
    refine .agg arr f (by rw [List.length_map]; exact hl) (fun i a hi => ?_) (fun i a hi => ?_)
    · obtain ⟨c, hc, rfl⟩ := map_get hi
      exact h1 i c hc
    · obtain ⟨c, hc, rfl⟩ := map_get hi
      exact (h2 i c hc).ren0 (List.all_eq_true.1 ha _ (List.mem_of_getElem? hc)) (hm.mono fun k hk => List.mem_flatMap.2 ⟨c, List.mem_of_getElem? hc, hk⟩)
  | fn arr f hl h1 h2 =>
    simp only [refs1] at hm
    refine .fn arr f (by rw [List.length_map]; exact hl) (fun i a hi => ?_) (fun i a hi => ?_)
    · obtain ⟨c, hc, rfl⟩ := map_get hi
      exact h1 i c hc
    · obtain ⟨c, hc, rfl⟩ := map_get hi
      exact (h2 i c hc).ren0 (List.all_eq_true.1 ha _ (List.mem_of_getElem? hc)) (hm.mono fun k hk => List.mem_flatMap.2 ⟨c, List.mem_of_getElem? hc, hk⟩)
  | v h => exact .v h
  | dead => simp [ok1, atom] at ha
  | shr b o cap arr f hb hc hcl hat h1 h2 => exact .shr b o cap arr f hb hc hcl hat h1 h2
  | shr0 a => exact .shr0 a
  | iptr b o arr f hb hat h1 h2 => exact .iptr b o arr f hb hat h1 h2
  | ptr b o s hk => exact (VR.ptr b o s hk).ren0 rfl hm
  | view b o s cap hk hc h1 h2 h3 => exact (VR.view b o s cap hk hc h1 h2 h3).ren0 rfl hm
  | viewE b o s o' hk h1 h2 h3 => exact (VR.viewE b o s o' hk h1 h2 h3).ren0 rfl hm
  | view0 hk h1 => exact (VR.view0 hk h1).ren0 rfl hm
  | tup => simp [ok1, atom] at ha
theorem VR.ren {Im : Imm} {ρ ρ' : List Loc} {g : Nat → Nat} {a : AV} {x : Value} (ha : okv a = true) (h : VR Im ρ a x) (hm : Map ρ ρ' g (refs a)) : VR Im ρ' (Sym.ren g a) x := by
  by_cases ht : ∃ cs, a = .tup cs
  · obtain ⟨cs, rfl⟩ := ht
    cases h with
    | tup arr f hl h1 h2 =>
      simp only [refs] at hm
      refine .tup arr f (by rw [List.length_map]; exact hl) (fun i a hi => ?_) (fun i a hi => ?_)
      · obtain ⟨c, hc, rfl⟩ := map_get hi
        exact h1 i c hc
      · obtain ⟨c, hc, rfl⟩ := map_get hi
        exact (h2 i c hc).ren1 (List.all_eq_true.1 ha _ (List.mem_of_getElem? hc)) (hm.mono fun k hk => List.mem_flatMap.2 ⟨c, List.mem_of_getElem? hc, hk⟩)
  · have e1 : okv a = ok1 a := by cases a <;> first | rfl | exact absurd ⟨_, rfl⟩ ht
    have e2 : refs a = refs1 a := by cases a <;> first | rfl | exact absurd ⟨_, rfl⟩ ht
    have e3 : Sym.ren g a = Sym.ren1 g a := by cases a <;> first | rfl | exact absurd ⟨_, rfl⟩ ht
    rw [e1] at ha
    rw [e2] at hm
    rw [e3]
    exact h.ren1 ha hm
theorem atom_ren0 (g : Nat → Nat) (a : AV) : atom (ren0 g a) = atom a := by cases a <;> rfl
/-- An object's references. -/
def orefs (o : Obj) : List Nat := if o.live = true then (if o.flat = true then [] else o.cells.flatMap refs0) else []
theorem ObjAt.ren {Im : Imm} {ρ ρ' : List Loc} {w : World} {k k' : Nat} {o : Obj} (h : ObjAt Im ρ w k o) (hl : o.live = true) (hat : ∀ a ∈ o.cells, atom a = true) (hfl : o.flat = true → ∀ a ∈ o.cells, flat0 a = true) {g : Nat → Nat} (hm : Map ρ ρ' g (orefs o)) (hk : ∀ l, ρ[k]? = some l → ρ'[k']? = some l) : ObjAt Im ρ' w k' (renO g o) := by
  have hv : ∀ (i : Nat) (a : AV), (renO g o).cells[i]? = some a → ∃ c, o.cells[i]? = some c ∧ ∀ x, VR Im ρ c x → VR Im ρ' a x := fun i a hi => by
    unfold renO at hi
    simp only [hl, if_true] at hi
    split at hi
    · rename_i hf
      exact ⟨a, hi, fun x hx => hx.flat (hfl hf a (List.mem_of_getElem? hi))⟩
    · rename_i hf
      obtain ⟨c, hc, rfl⟩ := map_get hi
      refine ⟨c, hc, fun x hx => hx.ren0 (hat c (List.mem_of_getElem? hc)) (hm.mono fun j hj => ?_)⟩
      unfold orefs
      rw [if_pos hl, if_neg hf]
      exact List.mem_flatMap.2 ⟨c, List.mem_of_getElem? hc, hj⟩
  have hlen : (renO g o).cells.length = o.cells.length := by
    unfold renO
    simp only [hl, if_true]
    split <;> simp
  rcases h with ⟨b, base, s, arr, T, fz, e1, e2, e3, e4, e5, e6, e7, f, e8, e9⟩ | ⟨e1, e2⟩
  · refine .inl ⟨b, base, s, arr, T, fz, hk _ e1, e2, e3, e4, e5, by rw [hlen]; exact e6, e7, f, fun i a hi => ?_, fun i a hi => ?_⟩
    · obtain ⟨c, hc, _⟩ := hv i a hi
      exact e8 i c hc
    · obtain ⟨c, hc, hx⟩ := hv i a hi
      exact hx _ (e9 i c hc)
  · refine .inr ⟨hk _ e1, ?_⟩
    have := hlen
    rw [e2] at this
    exact List.length_eq_zero_iff.1 this
theorem renO_atoms {o : Obj} (hl : o.live = true) (hat : ∀ a ∈ o.cells, atom a = true) (g : Nat → Nat) : ∀ a ∈ (renO g o).cells, atom a = true := fun a ha => by
  unfold renO at ha
  simp only [hl, if_true] at ha
  split at ha
  · exact hat a ha
  · obtain ⟨c, hc, rfl⟩ := List.mem_map.1 ha
    rw [atom_ren0]
    exact hat c hc
theorem renO_flat {o : Obj} (hl : o.live = true) (hf : o.flat = true) (hfl : ∀ a ∈ o.cells, flat0 a = true) (g : Nat → Nat) : ∀ a ∈ (renO g o).cells, flat0 a = true := fun a ha => by
  unfold renO at ha
  simp only [hl, if_true, hf] at ha
  exact hfl a ha

/-! ### what can be reached -/
structure Closed (Ω : List Obj) (ord : List Nat) : Prop where
  nd : ord.Nodup
  there : ∀ k ∈ ord, ∃ o, Ω[k]? = some o ∧ ∀ j ∈ orefs o, j ∈ ord
theorem reach_ok (Ω : List Obj) : ∀ (f : Nat) (todo seen ord : List Nat), reach Ω f todo seen = some ord → seen.Nodup → (∃ r, ord = seen ++ r) ∧ ord.Nodup ∧ (∀ k ∈ todo, k ∈ ord) ∧ ∀ k ∈ ord, k ∉ seen → ∃ o, Ω[k]? = some o ∧ ∀ j ∈ orefs o, j ∈ ord
  | 0, todo, seen, ord, h, _ => by cases h
  | f + 1, [], seen, ord, h, hn => by
    cases h
    exact ⟨⟨[], by simp⟩, hn, fun k hk => by simp at hk, fun k hk hs => absurd hk hs⟩
  | f + 1, k :: ks, seen, ord, h, hn => by
    rw [reach] at h
    split at h
    · rename_i hc
      obtain ⟨⟨r, hr⟩, h2, h3, h4⟩ := reach_ok Ω f ks seen ord h hn
      refine ⟨⟨r, hr⟩, h2, fun j hj => ?_, h4⟩
      rcases List.mem_cons.1 hj with rfl | hj
      · rw [hr]
        exact List.mem_append_left _ (by simpa using hc)
      · exact h3 j hj
    · rename_i hc
      have hc' : k ∉ seen := by simpa using hc
      split at h
      · rename_i o ho
        obtain ⟨⟨r, hr⟩, h2, h3, h4⟩ := reach_ok Ω f _ _ ord h (by
          rw [List.nodup_append]
          exact ⟨hn, by simp, fun a ha b hb => by simp at hb; subst hb; exact fun e => hc' (e ▸ ha)⟩)
        have hk : k ∈ ord := by rw [hr]; simp
        refine ⟨⟨k :: r, by rw [hr]; simp⟩, h2, fun j hj => ?_, fun j hj hs => ?_⟩
        · rcases List.mem_cons.1 hj with rfl | hj
          · exact hk
          · exact h3 j (List.mem_append_left _ hj)
        · by_cases e : j = k
          · subst e
            exact ⟨o, ho, fun i hi => h3 i (List.mem_append_right _ hi)⟩
          · exact h4 j hj (fun hm => by
              rcases List.mem_append.1 hm with hm | hm
              · exact hs hm
              · simp at hm; exact e hm)
      · cases h
theorem reach_first (Ω : List Obj) : ∀ (f : Nat) (xs todo seen ord : List Nat), reach Ω f (xs ++ todo) seen = some ord → xs.Nodup → (∀ k ∈ xs, k ∉ seen) → ∃ r, ord = seen ++ xs ++ r
  | 0, xs, todo, seen, ord, h, _, _ => by cases h
  | f + 1, [], todo, seen, ord, h, _, _ => by
    cases todo with
    | nil => cases h; exact ⟨[], by simp⟩
    | cons k ks =>
      rw [List.nil_append, reach] at h
      split at h
      · obtain ⟨r, hr⟩ := reach_first Ω f [] ks seen ord h List.nodup_nil (fun k hk => by simp at hk)
        exact ⟨r, hr⟩
      · split at h
        · obtain ⟨r, hr⟩ := reach_first Ω f [] _ _ ord h List.nodup_nil (fun k hk => by simp at hk)
          exact ⟨k :: r, by rw [hr]; simp⟩
        · cases h
  | f + 1, x :: xs, todo, seen, ord, h, hn, hd => by
    rw [List.cons_append, reach] at h
    have hx : ¬ (seen.contains x = true) := by simpa using hd x (by simp)
    rw [if_neg hx] at h
    split at h
    · rename_i o ho
      rw [List.append_assoc] at h
      obtain ⟨r, hr⟩ := reach_first Ω f xs _ _ ord h (List.nodup_cons.1 hn).2 (fun k hk hm => by
        rcases List.mem_append.1 hm with hm | hm
        · exact hd k (by simp [hk]) hm
        · simp at hm
          subst hm
          exact (List.nodup_cons.1 hn).1 hk)
      exact ⟨r, by rw [hr]; simp⟩
    · cases h
theorem dedup_ok : ∀ (ks acc : List Nat), acc.Nodup → (dedup ks acc).Nodup ∧ (∃ r, dedup ks acc = acc ++ r) ∧ ∀ k ∈ ks, k ∈ dedup ks acc
  | [], acc, h => ⟨h, ⟨[], by simp [dedup]⟩, fun k hk => by simp at hk⟩
  | k :: ks, acc, h => by
    rw [dedup]
    split
    · rename_i hc
      obtain ⟨h1, ⟨r, hr⟩, h3⟩ := dedup_ok ks acc h
      refine ⟨h1, ⟨r, hr⟩, fun j hj => ?_⟩
      rcases List.mem_cons.1 hj with rfl | hj
      · rw [hr]
        exact List.mem_append_left _ (by simpa using hc)
      · exact h3 j hj
    · rename_i hc
      have hc' : k ∉ acc := by simpa using hc
      obtain ⟨h1, ⟨r, hr⟩, h3⟩ := dedup_ok ks (acc ++ [k]) (by
        rw [List.nodup_append]
        exact ⟨h, by simp, fun a ha b hb => by simp at hb; subst hb; exact fun e => hc' (e ▸ ha)⟩)
      refine ⟨h1, ⟨k :: r, by rw [hr]; simp⟩, fun j hj => ?_⟩
      rcases List.mem_cons.1 hj with rfl | hj
      · rw [hr]; simp
      · exact h3 j hj
/-- All that is reached from some. -/
theorem reach_all {Ω : List Obj} {f : Nat} {ks ord : List Nat} (h : reach Ω f (dedup ks []) [] = some ord) : Closed Ω ord ∧ (∀ k ∈ ks, k ∈ ord) ∧ ∃ r, ord = dedup ks [] ++ r := by
  obtain ⟨d1, _, d3⟩ := dedup_ok ks [] List.nodup_nil
  obtain ⟨_, h2, h3, h4⟩ := reach_ok Ω f _ [] ord h List.nodup_nil
  obtain ⟨r, hr⟩ := reach_first Ω f (dedup ks []) [] [] ord (by simpa using h) d1 (fun k _ hk => by simp at hk)
  exact ⟨⟨h2, fun k hk => h4 k hk (by simp)⟩, fun k hk => h3 k (d3 k hk), r, by simpa using hr⟩
theorem pos_get {ord : List Nat} {k : Nat} (h : k ∈ ord) : ord[pos ord k]? = some k := by
  unfold pos
  have hlt : ord.idxOf k < ord.length := List.idxOf_lt_length_of_mem h
  rw [List.getElem?_eq_getElem hlt, List.getElem_idxOf hlt]
theorem pos_at {ord : List Nat} (hn : ord.Nodup) {i k : Nat} (h : ord[i]? = some k) : pos ord k = i := by
  have h1 := pos_get (List.mem_of_getElem? h)
  have hi := (List.getElem?_eq_some_iff.1 h).1
  have hj := (List.getElem?_eq_some_iff.1 h1).1
  exact (List.getElem?_inj hj hn).1 (h1.trans h.symm)
/-- Their places. -/
def subρ (ρ : List Loc) (ord : List Nat) : List Loc := ord.map fun k => ρ.getD k none
theorem sub_get {Ω : List Obj} {ord : List Nat} {keep : Bool} {i : Nat} {o : Obj} (h : (sub Ω ord keep)[i]? = some o) : ∃ k, ord[i]? = some k ∧ o = { renO (pos ord) (Ω.getD k dead0) with fresh := (renO (pos ord) (Ω.getD k dead0)).fresh && keep } := by
  unfold sub at h
  rw [List.getElem?_map, Option.map_eq_some_iff] at h
  obtain ⟨k, hk, rfl⟩ := h
  exact ⟨k, hk, rfl⟩
theorem subρ_get {ρ : List Loc} {ord : List Nat} {i k : Nat} (h : ord[i]? = some k) {l : Loc} (hl : ρ[k]? = some l) : (subρ ρ ord)[i]? = some l := by
  unfold subρ
  rw [List.getElem?_map, h, Option.map_some, List.getD_eq_getElem?_getD, hl]
  rfl
theorem sub_map {Ω : List Obj} {ρ : List Loc} {ord : List Nat} (ks : List Nat) (h : ∀ k ∈ ks, k ∈ ord) : Map ρ (subρ ρ ord) (pos ord) ks := fun k hk l hl => subρ_get (pos_get (h k hk)) hl
theorem getD_of {Ω : List Obj} {k : Nat} {o : Obj} (h : Ω[k]? = some o) : Ω.getD k dead0 = o := by rw [List.getD_eq_getElem?_getD, h]; rfl
theorem sub_rel {Im : Imm} {ρ : List Loc} {Ω : List Obj} {w : World} (hR : Rel Im ρ Ω w) {ord : List Nat} (hc : Closed Ω ord) (keep : Bool) : Rel Im (subρ ρ ord) (sub Ω ord keep) w := by
  have pick : ∀ (i : Nat) o, (sub Ω ord keep)[i]? = some o → o.live = true → ∃ k o', ord[i]? = some k ∧ Ω[k]? = some o' ∧ o'.live = true ∧ (∀ j ∈ orefs o', j ∈ ord) ∧ o = { renO (pos ord) o' with fresh := o'.fresh && keep } := fun i o hi hl => by
    obtain ⟨k, hk, rfl⟩ := sub_get hi
    obtain ⟨o', ho, hr⟩ := hc.there k (List.mem_of_getElem? hk)
    rw [getD_of ho] at hl ⊢
    exact ⟨k, o', hk, ho, hl, hr, rfl⟩
  refine ⟨by simp [subρ, sub], hR.im, fun i o hi hl => ?_, fun i o hi hl => ?_, fun i o hi hl hf => ?_, fun i j o1 o2 b s1 s2 b' s1' s2' h1 h2 l1 l2 hne r1 r2 => ?_, hR.gl⟩
  · obtain ⟨k, o', hk, ho, hl', hr, rfl⟩ := pick i o hi hl
    have := (hR.obj k o' ho hl').ren (ρ' := subρ ρ ord) (k' := i) hl' (hR.atoms k o' ho hl') (hR.flat k o' ho hl') (sub_map (Ω := Ω) (orefs o') hr) (fun l hl => subρ_get hk hl)
    exact this
  · obtain ⟨k, o', hk, ho, hl', hr, rfl⟩ := pick i o hi hl
    exact renO_atoms hl' (hR.atoms k o' ho hl') _
  · obtain ⟨k, o', hk, ho, hl', hr, rfl⟩ := pick i o hi hl
    exact renO_flat hl' hf (hR.flat k o' ho hl' hf) _
  · obtain ⟨k1, o1', hk1, ho1, hl1, _, rfl⟩ := pick i o1 h1 l1
    obtain ⟨k2, o2', hk2, ho2, hl2, _, rfl⟩ := pick j o2 h2 l2
    have hne' : k1 ≠ k2 := fun e => hne (by rw [← pos_at hc.nd hk1, ← pos_at hc.nd hk2, e])
    have at_ : ∀ (k : Nat) (o' : Obj) (i : Nat) (l : Loc), Ω[k]? = some o' → ord[i]? = some k → (subρ ρ ord)[i]? = some l → ρ[k]? = some l := fun k o' i l ho hk hl => by
      have hkl := (List.getElem?_eq_some_iff.1 ho).1
      rw [← hR.len] at hkl
      have := subρ_get (ρ := ρ) hk (List.getElem?_eq_getElem hkl)
      rw [this] at hl
      rw [List.getElem?_eq_getElem hkl]
      exact hl
    exact hR.sep k1 k2 o1' o2' b s1 s2 b' s1' s2' ho1 ho2 hl1 hl2 hne' (at_ _ _ _ _ ho1 hk1 r1) (at_ _ _ _ _ ho2 hk2 r2)
theorem subρ_at {Im : Imm} {ρ : List Loc} {Ω : List Obj} {w : World} (hR : Rel Im ρ Ω w) {ord : List Nat} {k i : Nat} {o : Obj} {l : Loc} (ho : Ω[k]? = some o) (hk : ord[i]? = some k) (hl : (subρ ρ ord)[i]? = some l) : ρ[k]? = some l := by
  have hkl := (List.getElem?_eq_some_iff.1 ho).1
  rw [← hR.len] at hkl
  have := subρ_get (ρ := ρ) hk (List.getElem?_eq_getElem hkl)
  rw [this] at hl
  rw [List.getElem?_eq_getElem hkl]
  exact hl
/-- Blocks of the picked ones. -/
theorem LBd.of_sub {Im : Imm} {ρ : List Loc} {Ω : List Obj} {w : World} (hR : Rel Im ρ Ω w) {ord : List Nat} (hc : Closed Ω ord) {keep d : Bool} {b : Nat} (h : LBd (subρ ρ ord) (sub Ω ord keep) d b) : ∃ (k : Nat) (o : Obj) (s1 s2 : Nat), k ∈ ord ∧ Ω[k]? = some o ∧ o.live = true ∧ (d = true ∨ (o.fresh = true ∧ keep = true)) ∧ ρ[k]? = some (some (b, s1, s2)) := by
  obtain ⟨i, o, s1, s2, h1, h2, h3, h4⟩ := h
  obtain ⟨k, hk, rfl⟩ := sub_get h1
  obtain ⟨o', ho, _⟩ := hc.there k (List.mem_of_getElem? hk)
  rw [getD_of ho] at h2 h3
  exact ⟨k, o', s1, s2, List.mem_of_getElem? hk, ho, h2, h3.imp id (fun h => by simpa [renO] using h), subρ_at hR ho hk h4⟩
end Go.Proofs.Ythkjiclplecljaa.Sym

/- A call, told with its own objects alone. -/
namespace Go.Proofs.Ythkjiclplecljaa.Sym
open Go
set_option linter.unusedVariables false
set_option linter.unusedSimpArgs false

/-- What a call leaves. -/
structure Back (n : Nat) (Im : Imm) (ρ : List Loc) (Ω : List Obj) (w : World) (r : Res) (Im' : Imm) (ρ' : List Loc) (x : Value) (w' : World) : Prop where
  val : VR Im' ρ' r.val x
  rel : Rel Im' ρ' r.ob w'
  im : ImLe Im Im'
  imn : ∀ b, Im b = none → b < w.heap.size → Im' b = none
  roots : ∀ i, i < n → ρ'[i]? = ρ[i]?
  fr : Fr w w' (fun b => r.d = 2 ∧ LBd ρ Ω true b)
  still : r.d = 0 → w' = w
  lvl : r.d ≤ 2
  new : ∀ b, LBd ρ' r.ob true b → LBd ρ Ω true b ∨ w.heap.size ≤ b
  fresh : ∀ b, LBd ρ' r.ob false b → w.heap.size ≤ b
def CallsOK (P : Program) (C : CT) : Prop := ∀ f n args Ω r, C f n args Ω = some r → ∀ (Im : Imm) (ρ : List Loc) (w : World) (vals : List Value), Rel Im ρ Ω w → (∀ o ∈ Ω, o.fresh = false) → n ≤ Ω.length → VRs Im ρ args vals →
  (∃ fn, P.funcs[f]? = some fn ∧ (fn.name == "runtime.NumGoroutine") = false ∧ fn.body.isNone = false) ∧ Calls P f vals.toArray w fun e w' => ∃ x Im' ρ', e = .returned x ∧ Back n Im ρ Ω w r Im' ρ' x w'

theorem mergeOld_get (Ω : List Obj) (ord : List Nat) (n : Nat) (ob : List Obj) : ∀ (os : List Obj) (k i : Nat), (mergeOld Ω ord n ob k os)[i]? = (os[i]?).map fun o => if ord.contains (k + i) = true then (if pos ord (k + i) < n then mergeO Ω ord n (ob.getD (pos ord (k + i)) dead0) else dead0) else o
  | [], k, i => by simp [mergeOld]
  | o :: os, k, 0 => by simp [mergeOld]
  | o :: os, k, i + 1 => by
    rw [mergeOld, List.getElem?_cons_succ, mergeOld_get Ω ord n ob os (k + 1) i, List.getElem?_cons_succ, show k + 1 + i = k + (i + 1) by omega]
theorem mergeOld_length (Ω : List Obj) (ord : List Nat) (n : Nat) (ob : List Obj) : ∀ (os : List Obj) (k : Nat), (mergeOld Ω ord n ob k os).length = os.length
  | [], k => rfl
  | o :: os, k => by rw [mergeOld, List.length_cons, mergeOld_length Ω ord n ob os, List.length_cons]
theorem allFresh_at {Ω : List Obj} {ord : List Nat} (h : allFresh Ω ord = true) {k : Nat} {o : Obj} (hk : k ∈ ord) (ho : Ω[k]? = some o) (hl : o.live = true) : o.fresh = true := by
  have := List.all_eq_true.1 h k hk
  rw [getD_of ho] at this
  simpa [hl] using this

section
variable {Im Im' : Imm} {ρ ρ' : List Loc} {Ω : List Obj} {w w' : World} {ord : List Nat} {n : Nat} {r : Res} {x : Value}
/-- A call that leaves what was there as it was: the objects are as they were. -/
theorem Back.quiet (hR : Rel Im ρ Ω w) (hb : Back n Im (subρ ρ ord) (sub Ω ord false) w r Im' ρ' x w') (hd : r.d ≤ 1) : Step Im ρ Ω w Im' ρ Ω w' false ∧ Fr w w' (fun _ => False) := by
  have hf : Fr w w' (fun _ => False) := hb.fr.imp fun b h => by omega
  refine ⟨⟨⟨hR.len, fun b arr hi => hb.rel.im b arr hi, fun k o hk hl => (hR.obj k o hk hl).mono hb.im (RhoLe.refl _) (fun b base s hr => hf.block b (hR.block_lt hk hl hr).1 (fun h => h)) (fun b base s hr hn => hb.imn b hn (hR.block_lt hk hl hr).1), hR.atoms, hR.flat, hR.sep, hb.rel.gl⟩, hf.imp fun _ h => h.elim, RhoLe.refl _, hb.im, fun _ _ h => .inl h⟩, hf⟩
theorem roots_map (hR : Rel Im ρ Ω w) (hc : Closed Ω ord) (hb : Back n Im (subρ ρ ord) (sub Ω ord false) w r Im' ρ' x w') (hn : n ≤ ord.length) {j : Nat} (hj : j < n) {l : Loc} (hl : ρ'[j]? = some l) : ρ[ord.getD j 0]? = some l := by
  rw [hb.roots j hj] at hl
  have hk : ord[j]? = some (ord.getD j 0) := by rw [List.getD_eq_getElem?_getD, List.getElem?_eq_getElem (by omega)]; rfl
  obtain ⟨o, ho, _⟩ := hc.there _ (List.mem_of_getElem? hk)
  exact subρ_at hR ho hk hl
theorem gmap_map (hR : Rel Im ρ Ω w) (hc : Closed Ω ord) (hb : Back n Im (subρ ρ ord) (sub Ω ord false) w r Im' ρ' x w') (hn : n ≤ ord.length) (ks : List Nat) : Map ρ' (ρ ++ ρ'.drop n) (gmap ord n Ω.length) ks := fun j _ l hl => by
  unfold gmap
  split
  · rename_i hj
    have := roots_map hR hc hb hn hj hl
    rw [List.getElem?_append_left (List.getElem?_eq_some_iff.1 this).1]
    exact this
  · rename_i hj
    rw [List.getElem?_append_right (by rw [hR.len]; omega), hR.len, List.getElem?_drop, show n + (Ω.length + (j - n) - Ω.length) = j by omega]
    exact hl
theorem finish_ok (hR : Rel Im ρ Ω w) (hc : Closed Ω ord) (hn : n ≤ ord.length) (hb : Back n Im (subρ ρ ord) (sub Ω ord false) w r Im' ρ' x w') {a : AV} {Ω2 : List Obj} {d : Nat} (h : finishCall Ω ord n r = some (a, Ω2, d)) :
    ∃ ρ2, VR Im' ρ2 a x ∧ Step Im ρ Ω w Im' ρ2 Ω2 w' (decide (d = 2)) ∧ (d = 0 → w' = w) ∧ d ≤ 2 := by
  unfold finishCall at h
  split at h
  case isFalse => cases h
  rename_i hok
  split at h
  · rename_i hq
    cases h
    obtain ⟨hs, hf⟩ := hb.quiet hR hq.1
    have hm : Map ρ' ρ (gmap ord n Ω.length) (refs r.val) := fun j hj l hl => by
      have hlt : j < n := by simpa using List.all_eq_true.1 hq.2 j hj
      unfold gmap
      rw [if_pos hlt]
      exact roots_map hR hc hb hn hlt hl
    exact ⟨ρ, hb.val.ren hok hm, hs.up (fun e => by cases e), hb.still, hb.lvl⟩
  · cases h
    have hmap := gmap_map hR hc hb hn
    refine ⟨ρ ++ ρ'.drop n, hb.val.ren hok (hmap _), ?_, fun e => ?_, ?_⟩
    case refine_2 => split at e <;> omega
    case refine_3 => split <;> omega
    have hρ : RhoLe ρ (ρ ++ ρ'.drop n) := fun k l hl => by rw [List.getElem?_append_left (List.getElem?_eq_some_iff.1 hl).1]; exact hl
    -- where each live object comes from
    have src : ∀ (k : Nat) o2, (mergeOld Ω ord n r.ob 0 Ω ++ mergeNew Ω ord n r.ob)[k]? = some o2 → o2.live = true →
        (k ∉ ord ∧ Ω[k]? = some o2) ∨ ∃ i o', r.ob[i]? = some o' ∧ o'.live = true ∧ o2 = mergeO Ω ord n o' ∧ (∀ l, (ρ ++ ρ'.drop n)[k]? = some l ↔ ρ'[i]? = some l) ∧ k = gmap ord n Ω.length i := fun k o2 hk hl => by
      rw [List.getElem?_append, mergeOld_length] at hk
      split at hk
      · rename_i hlt
        rw [mergeOld_get, Nat.zero_add, Option.map_eq_some_iff] at hk
        obtain ⟨o, ho, hk⟩ := hk
        split at hk
        · rename_i hmem
          have hmem' : k ∈ ord := by simpa using hmem
          split at hk
          · rename_i hpos
            subst hk
            have hob : ∃ o', r.ob[pos ord k]? = some o' := by
              cases hg : r.ob[pos ord k]? with
              | some o' => exact ⟨o', rfl⟩
              | none =>
                rw [List.getD_eq_getElem?_getD, hg] at hl
                simp [mergeO, renO, dead0] at hl
            obtain ⟨o', ho'⟩ := hob
            rw [getD_of ho'] at hl ⊢
            have hpk := pos_get hmem'
            refine .inr ⟨pos ord k, o', ho', hl, rfl, fun l => ?_, by unfold gmap; rw [if_pos hpos, List.getD_eq_getElem?_getD, hpk]; rfl⟩
            rw [hb.roots _ hpos, List.getElem?_append_left (by rw [hR.len]; exact hlt)]
            exact ⟨fun hl => subρ_get hpk hl, fun hl => subρ_at hR ho hpk hl⟩
          · subst hk
            simp [dead0] at hl
        · rename_i hmem
          subst hk
          exact .inl ⟨by simpa using hmem, ho⟩
      · rename_i hge
        unfold mergeNew at hk
        obtain ⟨o', ho', rfl⟩ := map_get hk
        rw [List.getElem?_drop] at ho'
        refine .inr ⟨_, o', ho', hl, rfl, fun l => ?_, by unfold gmap; rw [if_neg (by omega)]; omega⟩
        rw [List.getElem?_append_right (by rw [hR.len]; omega), hR.len, List.getElem?_drop]
    have outside : ∀ (k : Nat) o b s1 s2, k ∉ ord → Ω[k]? = some o → o.live = true → ρ[k]? = some (some (b, s1, s2)) → ¬ LBd (subρ ρ ord) (sub Ω ord false) true b := fun k o b s1 s2 hk ho hl hr hin => by
      obtain ⟨k', o', t1, t2, hk', ho', hl', _, hr'⟩ := LBd.of_sub hR hc hin
      exact hR.sep k k' o o' b s1 s2 b t1 t2 ho ho' hl hl' (fun e => hk (e ▸ hk')) hr hr' rfl
    have insideBlock : ∀ (i : Nat) o' b s1 s2, r.ob[i]? = some o' → o'.live = true → ρ'[i]? = some (some (b, s1, s2)) → LBd (subρ ρ ord) (sub Ω ord false) true b ∨ w.heap.size ≤ b := fun i o' b s1 s2 ho hl hr => hb.new b ⟨i, o', s1, s2, ho, hl, .inl rfl, hr⟩
    refine ⟨⟨?_, hb.rel.im, fun k o2 hk hl => ?_, fun k o2 hk hl => ?_, fun k o2 hk hl hf => ?_, fun k1 k2 o1 o2 b s1 s2 b' s1' s2' h1 h2 l1 l2 hne r1 r2 => ?_, hb.rel.gl⟩, ?_, hρ, hb.im, fun d' b hbl => ?_⟩
    · have e1 := hb.rel.len
      have e2 : n ≤ ρ'.length := by
        rcases Nat.lt_or_ge ρ'.length n with hlt | hge
        · exfalso
          have h0 := hb.roots ρ'.length hlt
          rw [List.getElem?_eq_none (Nat.le_refl _)] at h0
          have : (subρ ρ ord).length = ord.length := by simp [subρ]
          rw [List.getElem?_eq_getElem (by omega)] at h0
          cases h0
        · exact hge
      rw [List.length_append, List.length_append, mergeOld_length, hR.len, List.length_drop, mergeNew, List.length_map, List.length_drop, e1]
    · rcases src k o2 hk hl with ⟨hko, ho⟩ | ⟨i, o', ho', hl', rfl, hloc, _⟩
      · refine (hR.obj k o2 ho hl).mono hb.im hρ (fun b base s hr => ?_) (fun b base s hr hn => hb.imn b hn (hR.block_lt ho hl hr).1)
        exact hb.fr.block b (hR.block_lt ho hl hr).1 (fun hin => outside k o2 b base s hko ho hl hr hin.2)
      · exact (hb.rel.obj i o' ho' hl').ren (g := gmap ord n Ω.length) hl' (hb.rel.atoms i o' ho' hl') (hb.rel.flat i o' ho' hl') (hmap _) (fun l hl => (hloc l).2 hl)
    · rcases src k o2 hk hl with ⟨hko, ho⟩ | ⟨i, o', ho', hl', rfl, hloc, _⟩
      · exact hR.atoms k o2 ho hl
      · exact renO_atoms hl' (hb.rel.atoms i o' ho' hl') _
    · rcases src k o2 hk hl with ⟨hko, ho⟩ | ⟨i, o', ho', hl', rfl, hloc, _⟩
      · exact hR.flat k o2 ho hl hf
      · exact renO_flat hl' hf (hb.rel.flat i o' ho' hl' hf) _
    · have old : ∀ (k : Nat) o l, k ∉ ord → Ω[k]? = some o → (ρ ++ ρ'.drop n)[k]? = some l → ρ[k]? = some l := fun k o l _ ho hl => by
        have := (List.getElem?_eq_some_iff.1 ho).1
        rwa [List.getElem?_append_left (by rw [hR.len]; exact this)] at hl
      rcases src k1 o1 h1 l1 with ⟨hk1, ho1⟩ | ⟨i1, o1', ho1, hl1, rfl, hloc1, e1⟩
      · have r1' := old _ _ _ hk1 ho1 r1
        rcases src k2 o2 h2 l2 with ⟨hk2, ho2⟩ | ⟨i2, o2', ho2, hl2, rfl, hloc2, e2⟩
        · exact hR.sep k1 k2 o1 o2 b s1 s2 b' s1' s2' ho1 ho2 l1 l2 hne r1' (old _ _ _ hk2 ho2 r2)
        · rintro rfl
          rcases insideBlock i2 o2' b s1' s2' ho2 hl2 ((hloc2 _).1 r2) with hin | hin
          · exact outside k1 o1 b s1 s2 hk1 ho1 l1 r1' hin
          · have := (hR.block_lt ho1 l1 r1').1
            omega
      · rcases src k2 o2 h2 l2 with ⟨hk2, ho2⟩ | ⟨i2, o2', ho2, hl2, rfl, hloc2, e2⟩
        · have r2' := old _ _ _ hk2 ho2 r2
          rintro rfl
          rcases insideBlock i1 o1' b s1 s2 ho1 hl1 ((hloc1 _).1 r1) with hin | hin
          · exact outside k2 o2 b s1' s2' hk2 ho2 l2 r2' hin
          · have := (hR.block_lt ho2 l2 r2').1
            omega
        · by_cases hi : i1 = i2
          · exfalso
            exact hne (by rw [e1, e2, hi])
          · exact hb.rel.sep i1 i2 o1' o2' b s1 s2 b' s1' s2' ho1 ho2 hl1 hl2 hi ((hloc1 _).1 r1) ((hloc2 _).1 r2)
    · refine hb.fr.imp fun b hin => ?_
      obtain ⟨k, o, t1, t2, hk, ho, hl, _, hr⟩ := LBd.of_sub hR hc hin.2
      by_cases hall : allFresh Ω ord = true
      · exact ⟨k, o, t1, t2, ho, hl, .inr (allFresh_at hall hk ho hl), hr⟩
      · refine ⟨k, o, t1, t2, ho, hl, .inl ?_, hr⟩
        rw [if_pos ⟨hin.1, by simpa using hall⟩]
        rfl
    · obtain ⟨k, o2, s1, s2, hk, hl, hf, hr⟩ := hbl
      rcases src k o2 hk hl with ⟨hko, ho⟩ | ⟨i, o', ho', hl', rfl, hloc, _⟩
      · have hlt := (List.getElem?_eq_some_iff.1 ho).1
        rw [List.getElem?_append_left (by rw [hR.len]; exact hlt)] at hr
        exact .inl ⟨k, o2, s1, s2, ho, hl, hf, hr⟩
      · have hr' := (hloc _).1 hr
        rcases insideBlock i o' b s1 s2 ho' hl' hr' with hin | hin
        · obtain ⟨k', o'', t1, t2, hk', ho'', hl'', _, hr''⟩ := LBd.of_sub hR hc hin
          rcases hf with hf | hf
          · exact .inl ⟨k', o'', t1, t2, ho'', hl'', .inl hf, hr''⟩
          · have hf' : o'.fresh = true ∨ allFresh Ω ord = true := by
              simp only [mergeO, Bool.or_eq_true] at hf
              exact hf
            rcases hf' with hf' | hf'
            · exact .inr (hb.fresh b ⟨i, o', s1, s2, ho', hl', .inr hf', hr'⟩)
            · exact .inl ⟨k', o'', t1, t2, ho'', hl'', .inr (allFresh_at hf' hk' ho'' hl''), hr''⟩
        · exact .inr hin
end
end Go.Proofs.Ythkjiclplecljaa.Sym

/- Regions, code, functions: what the abstract machine says the program does. -/
namespace Go.Proofs.Ythkjiclplecljaa.Sym
open Go
set_option linter.unusedVariables false
set_option linter.unusedSimpArgs false

/-- What is known since a call began. -/
structure Acc (Im0 : Imm) (ρ0 : List Loc) (Ω0 : List Obj) (w0 : World) (Im : Imm) (ρ : List Loc) (Ω : List Obj) (w : World) (d : Nat) : Prop where
  rel : Rel Im ρ Ω w
  im : ImLe Im0 Im
  imn : ∀ b, Im0 b = none → b < w0.heap.size → Im b = none
  fr : Fr w0 w (fun b => d = 2 ∧ LBd ρ0 Ω0 true b)
  still : d = 0 → w = w0
  lvl : d ≤ 2
  new : ∀ b, LBd ρ Ω true b → LBd ρ0 Ω0 true b ∨ w0.heap.size ≤ b
  fresh : ∀ b, LBd ρ Ω false b → w0.heap.size ≤ b
/-- One more event. -/
structure Ev1 (Im : Imm) (ρ : List Loc) (Ω : List Obj) (w : World) (Im' : Imm) (ρ' : List Loc) (Ω' : List Obj) (w' : World) (d : Nat) : Prop where
  step : Step Im ρ Ω w Im' ρ' Ω' w' (decide (d = 2))
  imn : ∀ b, Im b = none → b < w.heap.size → Im' b = none
  still : d = 0 → w' = w
  lvl : d ≤ 2
theorem Acc.next {Im0 Im Im' : Imm} {ρ0 ρ ρ' : List Loc} {Ω0 Ω Ω' : List Obj} {w0 w w' : World} {d d' : Nat} (h : Acc Im0 ρ0 Ω0 w0 Im ρ Ω w d) (e : Ev1 Im ρ Ω w Im' ρ' Ω' w' d') : Acc Im0 ρ0 Ω0 w0 Im' ρ' Ω' w' (max d d') := by
  have h1 := h.lvl
  have h2 := e.lvl
  refine ⟨e.step.rel, h.im.trans e.step.im, fun b hb hlt => e.imn b (h.imn b hb hlt) (Nat.lt_of_lt_of_le hlt h.fr.size), ?_, fun hd => ?_, by omega, fun b hb => ?_, fun b hb => ?_⟩
  · refine Fr.trans (h.fr.imp fun b hb => ⟨by omega, hb.2⟩) e.step.fr (fun b hb => ?_)
    by_cases hd : d' = 2
    · rw [decide_eq_true hd] at hb
      rcases h.new b hb with hb | hb
      · exact .inl ⟨by omega, hb⟩
      · exact .inr hb
    · rw [decide_eq_false hd] at hb
      exact .inr (h.fresh b hb)
  · rw [e.still (by omega), h.still (by omega)]
  · rcases e.step.new true b hb with hb | hb
    · exact h.new b hb
    · exact .inr (Nat.le_trans h.fr.size hb)
  · rcases e.step.new false b hb with hb | hb
    · exact h.fresh b hb
    · exact Nat.le_trans h.fr.size hb
theorem Acc.up {Im0 Im : Imm} {ρ0 ρ : List Loc} {Ω0 Ω : List Obj} {w0 w : World} {d : Nat} (h : Acc Im0 ρ0 Ω0 w0 Im ρ Ω w d) {w' : World} (hh : w'.heap = w.heap) (h1 : w'.os = w.os) (h2 : w'.tape = w.tape) (h3 : w'.output = w.output) : Acc Im0 ρ0 Ω0 w0 Im ρ Ω w' (max d 1) := by
  have hl := h.lvl
  exact ⟨h.rel.same (fun b _ => by rw [hh]), h.im, h.imn, ⟨h1.trans h.fr.os, h2.trans h.fr.tape, h3.trans h.fr.output, by rw [hh]; exact h.fr.size, fun b hb hn => by rw [hh]; exact h.fr.block b hb (fun hs => hn ⟨by omega, hs.2⟩)⟩, fun hd => by omega, by omega, h.new, h.fresh⟩
theorem Ev1.refl {Im : Imm} {ρ : List Loc} {Ω : List Obj} {w : World} (h : Rel Im ρ Ω w) : Ev1 Im ρ Ω w Im ρ Ω w 0 := ⟨Step.refl h _, fun _ h _ => h, fun _ => rfl, by omega⟩
theorem EnvOK.next {Im Im' : Imm} {ρ ρ' : List Loc} {e : Env} {act : Act} (h : EnvOK Im ρ e act) (hI : ImLe Im Im') (hρ : RhoLe ρ ρ') {dst : Option Nat} {N : Nat} (hN : act.tmps.size = N) (hd : dst.all (fun d => decide (d < N)) = true) {a : AV} {y : Value} (hy : VR Im' ρ' a y) : EnvOK Im' ρ' (put e dst a) (act.put dst y) ∧ (act.put dst y).tmps.size = N ∧ (act.put dst y).defers = act.defers := by
  cases dst with
  | none => exact ⟨⟨fun i b hb => (h.val i b hb).mono hI _ hρ, h.lt⟩, hN, rfl⟩
  | some d =>
    have hlt : d < act.tmps.size := by rw [hN]; simpa using hd
    refine ⟨⟨fun i b hb => ?_, fun i b hb => ?_⟩, by simpa [Act.put] using hN, rfl⟩
    · simp only [put, get] at hb
      split at hb
      · rename_i e
        subst e
        cases hb
        simp only [Act.put]
        rw [Array.getD_eq_getD_getElem?, Array.getElem?_setIfInBounds, if_pos rfl, if_pos hlt]
        exact hy
      · rename_i e
        simp only [Act.put]
        rw [Array.getD_eq_getD_getElem?, Array.getElem?_setIfInBounds, if_neg (fun e' => e e'.symm), ← Array.getD_eq_getD_getElem?]
        exact (h.val i b hb).mono hI _ hρ
    · simp only [Act.put, Array.size_setIfInBounds]
      simp only [put, get] at hb
      split at hb
      · rename_i e; subst e; exact hlt
      · exact h.lt i b hb

def FnOK (P : Program) (f : Nat) : Prop := ∃ fn, P.funcs[f]? = some fn ∧ (fn.name == "runtime.NumGoroutine") = false ∧ fn.body.isNone = false
theorem run_callFunc {P : Program} {f : Nat} (h : FnOK P f) (args : Array Value) (w : World) : (callFunc f args).run P w = .ok (.enter f args) w := by
  obtain ⟨fn, h1, h2, h3⟩ := h
  have h2' : ¬ fn.name = "runtime.NumGoroutine" := by simpa using h2
  have h3' : ¬ fn.body = none := by intro h; rw [h] at h3; simp at h3
  simp [callFunc, h1, h2', h3']
theorem VRs.append {Im : Imm} {ρ : List Loc} : ∀ {as bs : List AV} {us vs : List Value}, VRs Im ρ as us → VRs Im ρ bs vs → VRs Im ρ (as ++ bs) (us ++ vs)
  | [], bs, [], vs, _, h => h
  | a :: as, bs, u :: us, vs, h, h' => ⟨h.1, VRs.append h.2 h'⟩
  | [], bs, u :: us, vs, h, _ => h.elim
  | a :: as, bs, [], vs, h, _ => h.elim
theorem VRs.of_get {Im : Imm} {ρ : List Loc} : ∀ {as : List AV} {us : List Value}, as.length = us.length → (∀ (i : Nat) a, as[i]? = some a → ∃ u, us[i]? = some u ∧ VR Im ρ a u) → VRs Im ρ as us
  | [], [], _, _ => trivial
  | a :: as, u :: us, hl, h => by
    obtain ⟨u', h1, h2⟩ := h 0 a rfl
    cases h1
    exact ⟨h2, VRs.of_get (by simpa using hl) fun i b hb => h (i + 1) b (by simpa using hb)⟩
  | [], u :: us, hl, _ => by simp at hl
  | a :: as, [], hl, _ => by simp at hl
theorem VRs.ren {Im : Imm} {ρ ρ' : List Loc} {g : Nat → Nat} : ∀ {as : List AV} {us : List Value}, VRs Im ρ as us → as.all okv = true → Map ρ ρ' g (as.flatMap refs) → VRs Im ρ' (as.map (Sym.ren g)) us
  | [], [], _, _, _ => trivial
  | a :: as, u :: us, h, hk, hm => by
    rw [List.all_cons, Bool.and_eq_true] at hk
    exact ⟨h.1.ren hk.1 (hm.mono fun k hk => by simp [List.flatMap_cons, hk]), VRs.ren h.2 hk.2 (hm.mono fun k hk => by simp only [List.flatMap_cons, List.mem_append]; exact .inr hk)⟩
  | [], u :: us, h, _, _ => h.elim
  | a :: as, [], h, _, _ => h.elim
/-- The operation of a call of a function value. -/
theorem call_run {P : Program} {o : Oper} {c : Call} (ho : o.op = .call c) {fx : Operand} (hcal : c.callee = .value fx) {act : Act} {g : Nat} {arr : Array Value} (hf : act.eval fx = .func (.func g) #[] arr) (hfn : FnOK P g) (w : World) : (execOp act.eval o).run P w = .ok (.enter g ((c.args.map act.eval).toList ++ arr.toList).toArray) w := by
  have : ((c.args.map act.eval).toList ++ arr.toList).toArray = c.args.map act.eval ++ arr := by simp
  rw [this]
  simp only [execOp, ho, resolve, hcal, hf, Deferred.ofValue, pure_bind, invoke, Array.empty_append]
  exact run_callFunc hfn _ w
end Go.Proofs.Ythkjiclplecljaa.Sym

/- Operations, regions. -/
namespace Go.Proofs.Ythkjiclplecljaa.Sym
open Go
set_option linter.unusedVariables false
set_option linter.unusedSimpArgs false

theorem fnAt {Im : Imm} {ρ : List Loc} {g : Nat} {caps : List AV} {x : Value} (h : VR Im ρ (.fn g caps) x) : ∃ arr, x = .func (.func g) #[] arr ∧ VRs Im ρ caps arr.toList := by
  cases h with
  | fn arr f hl h1 h2 => exact ⟨arr, rfl, VRs.of_get (by simpa using hl) fun i a hi => ⟨f i, by rw [Array.getElem?_toList]; exact h1 i a hi, h2 i a hi⟩⟩
theorem sub_stale {Ω : List Obj} {ord : List Nat} : ∀ o ∈ sub Ω ord false, o.fresh = false := fun o ho => by
  unfold sub at ho
  obtain ⟨k, _, rfl⟩ := List.mem_map.1 ho
  simp
/-- A call with its own objects alone. -/
theorem call_ok {P : Program} {C : CT} (hC : CallsOK P C) {Im : Imm} {ρ : List Loc} {Ω : List Obj} {w : World} (hR : Rel Im ρ Ω w) {g : Nat} {as : List AV} {us : List Value} (hus : VRs Im ρ as us) (hok : as.all okv = true) {ord : List Nat} (hreach : reach Ω 400 (dedup (as.flatMap refs) []) [] = some ord) {r : Res} (hr : C g (dedup (as.flatMap refs) []).length (as.map (ren (pos ord))) (sub Ω ord false) = some r) :
    Closed Ω ord ∧ (dedup (as.flatMap refs) []).length ≤ ord.length ∧ FnOK P g ∧ Calls P g us.toArray w fun e w' => ∃ x Im' ρ', e = .returned x ∧ Back (dedup (as.flatMap refs) []).length Im (subρ ρ ord) (sub Ω ord false) w r Im' ρ' x w' := by
  obtain ⟨hcl, hin, rr, hrr⟩ := reach_all hreach
  have hn : (dedup (as.flatMap refs) []).length ≤ ord.length := by rw [hrr, List.length_append]; omega
  have hm : Map ρ (subρ ρ ord) (pos ord) (as.flatMap refs) := sub_map (Ω := Ω) _ hin
  obtain ⟨h1, h2⟩ := hC g _ _ _ r hr Im (subρ ρ ord) w us (sub_rel hR hcl false) sub_stale (by simpa [sub] using hn) (hus.ren hok hm)
  exact ⟨hcl, hn, h1, h2⟩

theorem comp_call {P : Program} {o : Oper} {f : AX} {xs : List AX} (hc : compOp P o = some (.call f xs)) : ∃ c, o.op = .call c := by
  cases ho : o.op
  case call c => exact ⟨c, rfl⟩
  all_goals (exfalso; simp only [compOp, ho] at hc; repeat' (first | (cases hc; done) | (split at hc) | (rw [Option.bind_eq_some_iff] at hc; obtain ⟨_, _, hc⟩ := hc) | (rw [Option.map_eq_some_iff] at hc; obtain ⟨_, _, hc⟩ := hc)))
/-- One operation. -/
theorem op_wp {P : Program} {C : CT} (hC : CallsOK P C) {o : Oper} {ao : AO} (hc : compOp P o = some ao) {Im : Imm} {ρ : List Loc} {Ω : List Obj} {w : World} (hR : Rel Im ρ Ω w) {e : Env} {act : Act} (hE : EnvOK Im ρ e act) {a : AV} {Ω' : List Obj} {d : Nat} (h : aop C e Ω ao = some (a, Ω', d)) {next : Act → World → Prop} {Q : Exit → Act → World → Prop}
    (hn : ∀ y Im' ρ' w', VR Im' ρ' a y → Ev1 Im ρ Ω w Im' ρ' Ω' w' d → next (act.put o.dst y) w') : o.wp P act w next Q := by
  have plain : (∀ f xs, ao ≠ .call f xs) → o.wp P act w next Q := fun hno => by
    have h' : (match aq e Ω ao with
      | some a => some (a, Ω, 0)
      | none => (ae e Ω ao).map fun (a, Ω', d) => (a, Ω', lev d)) = some (a, Ω', d) := by
      cases ao <;> first | exact absurd rfl (hno _ _) | exact h
    split at h'
    · rename_i b hb
      cases h'
      obtain ⟨y, hy, hrun⟩ := aq_ok hc hR hE hb
      have := hrun w (SameK.refl _ _ _ w)
      unfold Oper.wp
      rw [this]
      exact hn y Im ρ w hy (Ev1.refl hR)
    · rw [Option.map_eq_some_iff] at h'
      obtain ⟨⟨b, Ω1, dd⟩, hae, h'⟩ := h'
      simp only [Option.some.injEq, Prod.mk.injEq] at h'
      obtain ⟨rfl, rfl, rfl⟩ := h'
      obtain ⟨n, y, w', ρ', hrun, hny, hy, hst, _⟩ := ae_ok hc hR hE hae
      have hst' : Step Im ρ Ω w Im ρ' Ω1 w' (decide (lev dd = 2)) := by cases dd <;> exact hst
      have hev : Ev1 Im ρ Ω w Im ρ' Ω1 w' (lev dd) := ⟨hst', fun _ h _ => h, fun h0 => by cases dd <;> simp [lev] at h0, by cases dd <;> simp [lev]⟩
      have hres := hn y Im ρ' w' hy hev
      unfold Oper.wp
      rw [hrun]
      rcases hny with rfl | ⟨rfl, rfl⟩
      · exact hres
      · exact hres
  by_cases hcall : ∃ f xs, ao = .call f xs
  · obtain ⟨fx, xs, rfl⟩ := hcall
    obtain ⟨c, ho⟩ := comp_call hc
    · simp only [compOp, ho, Option.bind_eq_some_iff] at hc
      obtain ⟨xs', hxs, hc⟩ := hc
      split at hc
      · rename_i f hcal
        simp only [Option.bind_eq_some_iff] at hc
        obtain ⟨fx', hf, hc⟩ := hc
        cases hc
        simp only [aop, Option.bind_eq_some_iff] at h
        obtain ⟨fv, hfv, as, has, h⟩ := h
        unfold aCall at h
        split at h
        · rename_i g caps
          split at h
          · rename_i hok
            simp only [Option.bind_eq_some_iff] at h
            obtain ⟨ord, hord, r, hr, h⟩ := h
            obtain ⟨arr, harr, hcaps⟩ := fnAt (ev_ok hE hf hfv)
            have hargs := evs_ok hE _ _ _ hxs has
            obtain ⟨hcl, hnl, hfn, hcalls⟩ := call_ok hC hR (hargs.append hcaps) hok hord hr
            have hrun := call_run ho hcal harr hfn w
            rw [Array.toList_map] at hrun
            unfold Oper.wp
            rw [hrun]
            refine hcalls.mono ?_
            rintro en w' ⟨x, Im', ρ', rfl, hb⟩
            obtain ⟨ρ2, hv, hst, hstill, hlvl⟩ := finish_ok hR hcl hnl hb h
            exact hn x Im' ρ2 w' hv ⟨hst, fun b hb' hlt => hb.imn b hb' hlt, hstill, hlvl⟩
          · cases h
        · cases h
      · cases hc
      · rename_i b hcal
        split at hc
        · simp only [Option.bind_eq_some_iff] at hc
          obtain ⟨d', _, hc⟩ := hc
          split at hc <;> cases hc
        · cases hc
        · cases hc
        · simp only [Option.bind_eq_some_iff] at hc
          obtain ⟨d', _, hc⟩ := hc
          split at hc
          · simp only [Option.bind_eq_some_iff] at hc
            obtain ⟨_, _, _, _, _, _, hc⟩ := hc
            split at hc <;> cases hc
          · cases hc
        · simp only [Option.bind_eq_some_iff] at hc
          obtain ⟨d', _, hc⟩ := hc
          split at hc
          · simp only [Option.bind_eq_some_iff] at hc
            obtain ⟨_, _, hc⟩ := hc
            cases hc
          · cases hc
        · simp only [Option.bind_eq_some_iff] at hc
          obtain ⟨d', _, hc⟩ := hc
          split at hc
          · simp only [Option.bind_eq_some_iff] at hc
            obtain ⟨_, _, _, _, hc⟩ := hc
            split at hc <;> cases hc
          · cases hc
        · cases hc
  · exact plain fun f xs e => hcall ⟨f, xs, e⟩
end Go.Proofs.Ythkjiclplecljaa.Sym

/- Regions: in the order of the text, and in any order. -/
namespace Go.Proofs.Ythkjiclplecljaa.Sym
open Go
set_option linter.unusedVariables false
set_option linter.unusedSimpArgs false

/-- Where a call stands: since when, how many temporaries, where the roots lie. -/
structure Base where
  Im0 : Imm
  ρ0 : List Loc
  Ω0 : List Obj
  w0 : World
  N : Nat
  RL : List Loc
structure Now (B : Base) (s : St) (Im : Imm) (ρ : List Loc) (act : Act) (w : World) : Prop where
  acc : Acc B.Im0 B.ρ0 B.Ω0 B.w0 Im ρ s.ob w s.d
  env : EnvOK Im ρ s.env act
  size : act.tmps.size = B.N
  defers : act.defers = []
  rt : ∀ (i : Nat) l, B.RL[i]? = some l → ∃ k, s.rt[i]? = some k ∧ ρ[k]? = some l
  rtl : s.rt.length = B.RL.length
  rtn : s.rt.Nodup

theorem wants_ok {ops : Array Oper} {o : Oper} {g : Option (Nat × Bool)} (hg : compG ops o.guard = some g) {Im : Imm} {ρ : List Loc} {e : Env} {act : Act} (hE : EnvOK Im ρ e act) {b : Bool} (h : wants e g = some b) : Region.wanted o (yielded ops act.tmps) = b := by
  unfold Region.wanted
  cases hgd : o.guard with
  | none =>
    rw [hgd] at hg
    cases hg
    cases h
    rfl
  | some p =>
    obtain ⟨j, want⟩ := p
    rw [hgd] at hg
    simp only [compG, Option.map_eq_some_iff] at hg
    obtain ⟨d, hd, rfl⟩ := hg
    simp only [wants] at h
    split at h
    · rename_i c hc
      cases h
      have hv := (hE.val d _ hc).inv_v
      have hlt := hE.lt d _ hc
      rw [Array.getD_eq_getD_getElem?, Array.getElem?_eq_getElem hlt] at hv
      simp only [Option.getD_some] at hv
      have : yielded ops act.tmps j = some c := by
        unfold yielded
        rw [hd, Option.bind_some, Array.getElem?_eq_getElem hlt, hv]
      simp only [this]
      cases c <;> cases want <;> rfl
    · rename_i hc
      cases h
      have hv := hE.val d _ hc
      have hlt := hE.lt d _ hc
      rw [Array.getD_eq_getD_getElem?, Array.getElem?_eq_getElem hlt] at hv
      simp only [Option.getD_some] at hv
      have hu : act.tmps[d] = undef := by generalize act.tmps[d] = x at hv; cases hv; rfl
      have : yielded ops act.tmps j = none := by
        unfold yielded
        rw [hd, Option.bind_some, Array.getElem?_eq_getElem hlt, hu]
        rfl
      simp only [this]
      rfl
    · cases h
theorem Now.put {B : Base} {s : St} {Im : Imm} {ρ : List Loc} {act : Act} {w : World} (h : Now B s Im ρ act w) {dst : Option Nat} (hd : dst.all (fun d => decide (d < B.N)) = true) {a : AV} {y : Value} {Im' : Imm} {ρ' : List Loc} {Ω' : List Obj} {w' : World} {d : Nat} (hy : VR Im' ρ' a y) (hev : Ev1 Im ρ s.ob w Im' ρ' Ω' w' d) :
    Now B { s with env := put s.env dst a, ob := Ω', d := max s.d d } Im' ρ' (act.put dst y) w' := by
  obtain ⟨h1, h2, h3⟩ := h.env.next hev.step.im hev.step.rho h.size hd hy
  exact ⟨h.acc.next hev, h1, h2, h3.trans h.defers, fun i l hl => by obtain ⟨k, e1, e2⟩ := h.rt i l hl; exact ⟨k, e1, hev.step.rho _ _ e2⟩, h.rtl, h.rtn⟩
theorem Now.skip {B : Base} {s : St} {Im : Imm} {ρ : List Loc} {act : Act} {w : World} (h : Now B s Im ρ act w) {dst : Option Nat} (hd : dst.all (fun d => decide (d < B.N)) = true) : Now B { s with env := Sym.put s.env dst .dead } Im ρ (act.put dst undef) w := by
  obtain ⟨h1, h2, h3⟩ := h.env.next (ImLe.refl _) (RhoLe.refl _) h.size hd .dead
  exact ⟨h.acc, h1, h2, h3.trans h.defers, h.rt, h.rtl, h.rtn⟩
theorem aops_wp {P : Program} {C : CT} (hC : CallsOK P C) {ops : Array Oper} {B : Base} {Q : Exit → Act → World → Prop} : ∀ (l : List Oper) (os : List AOper) (s s' : St) (Im : Imm) (ρ : List Loc) (act : Act) (w : World), compOps P B.N ops l = some os → aops C os s = some s' → Now B s Im ρ act w →
    (∀ Im' ρ' act' w', Now B s' Im' ρ' act' w' → Q .normal act' w') → wpList P ops Q l act w
  | [], os, s, s', Im, ρ, act, w, hc, h, hN, hQ => by cases hc; cases h; exact hQ _ _ _ _ hN
  | o :: l, os, s, s', Im, ρ, act, w, hc, h, hN, hQ => by
    simp only [compOps, Option.bind_eq_some_iff] at hc
    obtain ⟨ao, hao, g, hg, os', hos, hc⟩ := hc
    split at hc
    case isFalse => cases hc
    rename_i hd
    cases hc
    simp only [aops, Option.bind_eq_some_iff] at h
    obtain ⟨b, hb, h⟩ := h
    have hw := wants_ok hg hN.env hb
    rw [wpList]
    cases b with
    | true =>
      simp only [if_true, Option.bind_eq_some_iff] at h
      obtain ⟨⟨a, Ω, d⟩, ha, h⟩ := h
      rw [if_pos hw]
      exact .inl (op_wp hC hao hN.acc.rel hN.env ha fun y Im' ρ' w' hy hev => aops_wp hC l os' _ s' Im' ρ' _ w' hos h (hN.put hd hy hev) hQ)
    | false =>
      simp only [Bool.false_eq_true, if_false] at h
      rw [if_neg (by rw [hw]; simp)]
      exact aops_wp hC l os' _ s' Im ρ _ w hos h (hN.skip hd) hQ

/-! ### values that tell all of themselves -/
def dv0 : AV → Value
  | .v x => x
  | _ => undef
def dv1 : AV → Value
  | .agg cs => .agg (cs.map dv0).toArray
  | a => dv0 a
def dv : AV → Value
  | .tup cs => .tuple (cs.map dv1).toArray
  | a => dv1 a
theorem det0_val {Im : Imm} {ρ : List Loc} {a : AV} {x : Value} (h : det0 a = true) (hx : VR Im ρ a x) : x = dv0 a := by
  cases hx <;> first | rfl | simp [det0] at h
theorem arr_eq {cs : List AV} {arr : Array Value} {f : Nat → Value} {g : AV → Value} (hl : cs.length = arr.size) (h1 : ∀ (i : Nat) a, cs[i]? = some a → arr[i]? = some (f i)) (h2 : ∀ (i : Nat) a, cs[i]? = some a → f i = g a) : arr = (cs.map g).toArray := by
  apply Array.ext_getElem?
  intro i
  have e1 : (cs.map g).toArray[i]? = (cs.map g)[i]? := List.getElem?_toArray
  rw [e1, List.getElem?_map]
  cases hc : cs[i]? with
  | some a => rw [h1 i a hc, h2 i a hc]; rfl
  | none =>
    have := List.getElem?_eq_none_iff.1 hc
    rw [Array.getElem?_eq_none (by omega)]
    rfl
def det1 : AV → Bool
  | .agg ds => ds.all det0
  | a => det0 a
theorem det1_val {Im : Imm} {ρ : List Loc} {a : AV} {x : Value} (h : det1 a = true) (hx : VR Im ρ a x) : x = dv1 a := by
  by_cases ha : ∃ cs, a = .agg cs
  · obtain ⟨cs, rfl⟩ := ha
    cases hx with
    | agg arr f hl h1 h2 => exact congrArg Value.agg (arr_eq hl h1 fun i a hi => det0_val (List.all_eq_true.1 h a (List.mem_of_getElem? hi)) (h2 i a hi))
  · have e1 : det1 a = det0 a := by cases a <;> first | rfl | exact absurd ⟨_, rfl⟩ ha
    have e2 : dv1 a = dv0 a := by cases a <;> first | rfl | exact absurd ⟨_, rfl⟩ ha
    rw [e2]
    exact det0_val (e1 ▸ h) hx
theorem det_val {Im : Imm} {ρ : List Loc} {a : AV} {x : Value} (h : det a = true) (hx : VR Im ρ a x) : x = dv a := by
  by_cases ha : ∃ cs, a = .tup cs
  · obtain ⟨cs, rfl⟩ := ha
    cases hx with
    | tup arr f hl h1 h2 => exact congrArg Value.tuple (arr_eq hl h1 fun i a hi => det1_val (by
        have := List.all_eq_true.1 h a (List.mem_of_getElem? hi)
        cases a <;> exact this) (h2 i a hi))
  · have e1 : det a = det1 a := by cases a <;> first | rfl | exact absurd ⟨_, rfl⟩ ha
    have e2 : dv a = dv1 a := by cases a <;> first | rfl | exact absurd ⟨_, rfl⟩ ha
    rw [e2]
    exact det1_val (e1 ▸ h) hx
theorem det0_flat {Im Im' : Imm} {ρ ρ' : List Loc} {a : AV} {x : Value} (h : det0 a = true) (hx : VR Im ρ a x) : VR Im' ρ' a x := by
  cases hx <;> first | (exact .v ‹_›) | simp [det0] at h
theorem det1_flat {Im Im' : Imm} {ρ ρ' : List Loc} {a : AV} {x : Value} (h : det1 a = true) (hx : VR Im ρ a x) : VR Im' ρ' a x := by
  by_cases ha : ∃ cs, a = .agg cs
  · obtain ⟨cs, rfl⟩ := ha
    cases hx with
    | agg arr f hl h1 h2 => exact .agg arr f hl h1 fun i a hi => det0_flat (List.all_eq_true.1 h a (List.mem_of_getElem? hi)) (h2 i a hi)
  · have e1 : det1 a = det0 a := by cases a <;> first | rfl | exact absurd ⟨_, rfl⟩ ha
    exact det0_flat (e1 ▸ h) hx
theorem det_flat {Im Im' : Imm} {ρ ρ' : List Loc} {a : AV} {x : Value} (h : det a = true) (hx : VR Im ρ a x) : VR Im' ρ' a x := by
  by_cases ha : ∃ cs, a = .tup cs
  · obtain ⟨cs, rfl⟩ := ha
    cases hx with
    | tup arr f hl h1 h2 => exact .tup arr f hl h1 fun i a hi => det1_flat (by
        have := List.all_eq_true.1 h a (List.mem_of_getElem? hi)
        cases a <;> exact this) (h2 i a hi)
  · have e1 : det a = det1 a := by cases a <;> first | rfl | exact absurd ⟨_, rfl⟩ ha
    exact det1_flat (e1 ▸ h) hx

/-! ### in any order -/
/-- What a quiet operation yields: the same value in each world that has but grown. -/
theorem aopQ_okK {P : Program} {C : CT} (hC : CallsOK P C) {o : Oper} {ao : AO} (hc : compOp P o = some ao) {Im : Imm} {ρ : List Loc} {Ω : List Obj} {w : World} (hR : Rel Im ρ Ω w) {e : Env} {act : Act} (hE : EnvOK Im ρ e act) {m : Nat} (hm : m ≤ 1) {a : AV} (h : aopQ C m e Ω ao = some a) :
    ∃ y, VR Im ρ a y ∧ ∀ w1, SameK Im ρ Ω w w1 → (execOp act.eval o).run P w1 = .ok (.value y) w1 ∨
      ∃ g args, (execOp act.eval o).run P w1 = .ok (.enter g args) w1 ∧ Calls P g args w1 fun e w2 => e = .returned y ∧ Fr w1 w2 (fun _ => False) ∧ (m = 0 → w2 = w1) := by
  by_cases hcall : ∃ f xs, ao = .call f xs
  · obtain ⟨fx, xs, rfl⟩ := hcall
    obtain ⟨c, ho⟩ := comp_call hc
    simp only [compOp, ho, Option.bind_eq_some_iff] at hc
    obtain ⟨xs', hxs, hc⟩ := hc
    split at hc
    case h_2 => cases hc
    case h_3 =>
      exfalso
      repeat' (first | (cases hc; done) | (split at hc) | (rw [Option.bind_eq_some_iff] at hc; obtain ⟨_, _, hc⟩ := hc))
    rename_i f hcal
    simp only [Option.bind_eq_some_iff] at hc
    obtain ⟨fx', hf, hc⟩ := hc
    cases hc
    simp only [aopQ, Option.bind_eq_some_iff] at h
    obtain ⟨fv, hfv, as, has, h⟩ := h
    unfold aCallQ at h
    split at h
    case h_2 => cases h
    rename_i g caps
    split at h
    case isFalse => cases h
    rename_i hok
    simp only [Option.bind_eq_some_iff] at h
    obtain ⟨ord, hord, r, hr, h⟩ := h
    split at h
    case isFalse => cases h
    rename_i hq
    cases h
    obtain ⟨arr, harr, hcaps⟩ := fnAt (ev_ok hE hf hfv)
    have hargs := evs_ok hE _ _ _ hxs has
    have key : ∀ w1, SameK Im ρ Ω w w1 → (execOp act.eval o).run P w1 = .ok (.enter g (c.args.toList.map act.eval ++ arr.toList).toArray) w1 ∧ Calls P g (c.args.toList.map act.eval ++ arr.toList).toArray w1 fun e w2 => e = .returned (dv r.val) ∧ Fr w1 w2 (fun _ => False) ∧ (m = 0 → w2 = w1) ∧ VR Im ρ r.val (dv r.val) := fun w1 hf1 => by
      have hR1 := hR.sameK hf1
      obtain ⟨hcl, hnl, hfn, hcalls⟩ := call_ok hC hR1 (hargs.append hcaps) hok hord hr
      have hrun := call_run ho hcal harr hfn w1
      rw [Array.toList_map] at hrun
      refine ⟨hrun, hcalls.mono ?_⟩
      rintro en w' ⟨x, Im', ρ', rfl, hb⟩
      have hx := det_val hq.2 hb.val
      subst hx
      exact ⟨rfl, (hb.quiet hR1 (by omega)).2, fun h0 => hb.still (by omega), det_flat hq.2 hb.val⟩
    refine ⟨dv r.val, ?_, fun w1 hf1 => .inr ⟨g, _, (key w1 hf1).1, (key w1 hf1).2.mono fun e w2 h => ⟨h.1, h.2.1, h.2.2.1⟩⟩⟩
    obtain ⟨e', w', fr, hpost, _⟩ := (key w (SameK.refl _ _ _ _)).2 []
    exact hpost.2.2.2
  · have h' : aq e Ω ao = some a := by
      cases ao <;> first | exact absurd ⟨_, _, rfl⟩ hcall | exact h
    obtain ⟨y, hy, hrun⟩ := aq_ok hc hR hE h'
    exact ⟨y, hy, fun w1 hf => .inl (hrun w1 hf)⟩
theorem aopQ_ok {P : Program} {C : CT} (hC : CallsOK P C) {o : Oper} {ao : AO} (hc : compOp P o = some ao) {Im : Imm} {ρ : List Loc} {Ω : List Obj} {w : World} (hR : Rel Im ρ Ω w) {e : Env} {act : Act} (hE : EnvOK Im ρ e act) {m : Nat} (hm : m ≤ 1) {S : Nat → Prop} (hS : ∀ b, S b → Im b = none ∧ ¬ LB ρ Ω b) {a : AV} (h : aopQ C m e Ω ao = some a) :
    ∃ y, VR Im ρ a y ∧ ∀ w1, Fr w w1 S → (execOp act.eval o).run P w1 = .ok (.value y) w1 ∨
      ∃ g args, (execOp act.eval o).run P w1 = .ok (.enter g args) w1 ∧ Calls P g args w1 fun e w2 => e = .returned y ∧ Fr w1 w2 (fun _ => False) ∧ (m = 0 → w2 = w1) := by
  have same : ∀ w1, Fr w w1 S → SameK Im ρ Ω w w1 := fun w1 hf b hb => by
    rcases hb with ⟨arr, hb⟩ | hb
    · exact hf.block b (hR.im_lt hb) (fun h => by have := (hS b h).1; rw [hb] at this; cases this)
    · obtain ⟨k, o, s1, s2, h1, h2, h3⟩ := hb
      exact hf.block b (hR.block_lt h1 h2 h3).1 (fun h => (hS b h).2 ⟨k, o, s1, s2, h1, h2, h3⟩)
  obtain ⟨y, hy, h⟩ := aopQ_okK hC hc hR hE hm h
  exact ⟨y, hy, fun w1 hf => h w1 (same w1 hf)⟩
/-- All quiet. -/
theorem aopsQ_quiet {P : Program} {C : CT} (hC : CallsOK P C) {ops : Array Oper} {N m : Nat} (hm : m ≤ 1) {Im : Imm} {ρ : List Loc} {Ω : List Obj} {w : World} (hR : Rel Im ρ Ω w) {Q : Act → Prop} : ∀ (l : List Oper) (os : List AOper) (e e' : Env) (act : Act), compOps P N ops l = some os → aopsQ C m Ω os e = some e' → EnvOK Im ρ e act → act.tmps.size = N →
    (∀ act', EnvOK Im ρ e' act' → act'.tmps.size = N → act'.defers = act.defers → Q act') → wpQuiet P ops (fun w1 => Fr w w1 (fun _ => False)) Q l act
  | [], os, e, e', act, hc, h, hE, hN, hQ => by cases hc; cases h; exact hQ _ hE hN rfl
  | o :: l, os, e, e', act, hc, h, hE, hN, hQ => by
    simp only [compOps, Option.bind_eq_some_iff] at hc
    obtain ⟨ao, hao, g, hg, os', hos, hc⟩ := hc
    split at hc
    case isFalse => cases hc
    rename_i hd
    cases hc
    simp only [aopsQ, Option.bind_eq_some_iff] at h
    obtain ⟨b, hb, h⟩ := h
    have hw := wants_ok hg hE hb
    rw [wpQuiet]
    cases b with
    | true =>
      simp only [if_true, Option.bind_eq_some_iff] at h
      obtain ⟨a, ha, h⟩ := h
      rw [if_pos hw]
      obtain ⟨y, hy, hrun⟩ := aopQ_ok hC hao hR hE hm (S := fun _ => False) (fun _ h => h.elim) ha
      obtain ⟨h1, h2, h3⟩ := hE.next (ImLe.refl _) (RhoLe.refl _) hN hd hy
      refine ⟨y, fun w1 hf => ?_, aopsQ_quiet hC hm hR l os' _ e' _ hos h h1 h2 fun act' q1 q2 q3 => hQ act' q1 q2 (q3.trans h3)⟩
      unfold Oper.quietAt
      rcases hrun w1 hf with hr | ⟨g', args, hr, hcalls⟩
      · rw [hr]
        exact ⟨rfl, rfl⟩
      · rw [hr]
        exact ⟨rfl, hcalls.mono fun e w2 hp => ⟨hp.1, hf.trans hp.2.1 (fun b hb => hb.elim)⟩⟩
    | false =>
      simp only [Bool.false_eq_true, if_false] at h
      rw [if_neg (by rw [hw]; simp)]
      obtain ⟨h1, h2, h3⟩ := hE.next (ImLe.refl _) (RhoLe.refl _) hN hd .dead
      exact aopsQ_quiet hC hm hR l os' _ e' _ hos h h1 h2 fun act' q1 q2 q3 => hQ act' q1 q2 (q3.trans h3)
/-- All still. -/
theorem aopsQ_still {P : Program} {C : CT} (hC : CallsOK P C) {ops : Array Oper} {N : Nat} {Im : Imm} {ρ : List Loc} {Ω : List Obj} {w : World} (hR : Rel Im ρ Ω w) {Q : Act → Prop} : ∀ (l : List Oper) (os : List AOper) (e e' : Env) (act : Act), compOps P N ops l = some os → aopsQ C 0 Ω os e = some e' → EnvOK Im ρ e act → act.tmps.size = N →
    (∀ act', EnvOK Im ρ e' act' → act'.tmps.size = N → act'.defers = act.defers → Q act') → wpStill P ops w Q l act
  | [], os, e, e', act, hc, h, hE, hN, hQ => by cases hc; cases h; exact hQ _ hE hN rfl
  | o :: l, os, e, e', act, hc, h, hE, hN, hQ => by
    simp only [compOps, Option.bind_eq_some_iff] at hc
    obtain ⟨ao, hao, g, hg, os', hos, hc⟩ := hc
    split at hc
    case isFalse => cases hc
    rename_i hd
    cases hc
    simp only [aopsQ, Option.bind_eq_some_iff] at h
    obtain ⟨b, hb, h⟩ := h
    have hw := wants_ok hg hE hb
    rw [wpStill]
    cases b with
    | true =>
      simp only [if_true, Option.bind_eq_some_iff] at h
      obtain ⟨a, ha, h⟩ := h
      rw [if_pos hw]
      obtain ⟨y, hy, hrun⟩ := aopQ_ok hC hao hR hE (Nat.zero_le 1) (S := fun _ => False) (fun _ h => h.elim) ha
      obtain ⟨h1, h2, h3⟩ := hE.next (ImLe.refl _) (RhoLe.refl _) hN hd hy
      have rest := aopsQ_still hC hR (Q := Q) l os' _ e' _ hos h h1 h2 fun act' q1 q2 q3 => hQ act' q1 q2 (q3.trans h3)
      unfold Oper.still
      rcases hrun w (Fr.refl _ _) with hr | ⟨g', args, hr, hcalls⟩
      · rw [hr]
        exact ⟨rfl, rest⟩
      · rw [hr]
        exact ⟨rfl, y, hcalls.mono fun e w2 hp => ⟨hp.1, hp.2.2 rfl⟩, rest⟩
    | false =>
      simp only [Bool.false_eq_true, if_false] at h
      rw [if_neg (by rw [hw]; simp)]
      obtain ⟨h1, h2, h3⟩ := hE.next (ImLe.refl _) (RhoLe.refl _) hN hd .dead
      exact aopsQ_still hC hR l os' _ e' _ hos h h1 h2 fun act' q1 q2 q3 => hQ act' q1 q2 (q3.trans h3)
end Go.Proofs.Ythkjiclplecljaa.Sym

/- Regions in any order in which one operation writes to what the others do not look at. -/
namespace Go.Proofs.Ythkjiclplecljaa.Sym
open Go
set_option linter.unusedVariables false
set_option linter.unusedSimpArgs false

section
variable {P : Program} {ops : Array Oper} {md : Region.Mode} {C : Bool → World → Prop} {n : Nat}
/-- What an operation yields: the one with the number n leads from the worlds of the first kind to those of the second; all others stay where they are, and yield the same. -/
def YI (P : Program) (ops : Array Oper) (C : Bool → World → Prop) (n i : Nat) (o : Oper) (v : Value) (a : Act) : Prop :=
  (Region.wanted o (yielded ops a.tmps) = true ∧ (i = n → ∀ w, C false w → ∃ w', (execOp a.eval o).run P w = .ok .skip w' ∧ v = undef ∧ C true w') ∧ (i ≠ n → ∀ ph w, C ph w → o.quietAt P a (C ph) w v)) ∨
  (i ≠ n ∧ Region.wanted o (yielded ops a.tmps) = false ∧ v = undef)
def yOp (P : Program) (ops : Array Oper) (C : Bool → World → Prop) (n i : Nat) (K : Act → Prop) (a : Act) : Prop :=
  ∃ o, ops[i]? = some o ∧ ∃ v, YI P ops C n i o v a ∧ K (a.put o.dst v)
theorem yOp_mono {i : Nat} {a : Act} {K K' : Act → Prop} (h : ∀ a, K a → K' a) (hh : yOp P ops C n i K a) : yOp P ops C n i K' a := by
  obtain ⟨o, ho, v, h1, h2⟩ := hh
  exact ⟨o, ho, v, h1, h _ h2⟩
def wpAnyX (P : Program) (md : Region.Mode) (ops : Array Oper) (C : Bool → World → Prop) (n : Nat) (Q : Act → Prop) : Nat → Array Bool → Act → Prop
  | 0, listed, a => Region.ready md ops listed = [] ∧ listed.getD n false = true ∧ Q a
  | fuel + 1, listed, a => (Region.ready md ops listed = [] → listed.getD n false = true ∧ Q a) ∧ ∀ i ∈ Region.ready md ops listed, yOp P ops C n i (wpAnyX P md ops C n Q fuel (listed.setIfInBounds i true)) a
theorem YI.same {i : Nat} {o : Oper} {v : Value} {a a' : Act} (hy : YI P ops C n i o v a) (he : execOp a'.eval o = execOp a.eval o) (hw : Region.wanted o (yielded ops a'.tmps) = Region.wanted o (yielded ops a.tmps)) : YI P ops C n i o v a' := by
  unfold YI Oper.quietAt at *
  rw [he, hw]
  exact hy
theorem yOp_put {i j : Nat} {oi oj : Oper} {v : Value} (hj : ops[j]? = some oj) (hap : oi.apart ops oj = true) (hsi : ∀ cs b, oi.op ≠ .select cs b) (hsj : ∀ cs b, oj.op ≠ .select cs b) {K : Act → Prop} {a : Act}
    (hy : YI P ops C n i oi v a) (h : yOp P ops C n j K (a.put oi.dst v)) : yOp P ops C n j (fun a' => YI P ops C n i oi v a' ∧ K (a'.put oi.dst v)) a := by
  obtain ⟨h1, h2, h3⟩ := Oper.apart_spec hap
  obtain ⟨o', ho', u, hu, hK⟩ := h
  rw [hj] at ho'
  cases ho'
  refine ⟨oj, hj, u, hu.same (execOp_put oj hsj a oi.dst v h1).symm (wanted_put oj a oi.dst v h1).symm, hy.same (execOp_put oi hsi a oj.dst u h3) (wanted_put oi a oj.dst u h3), ?_⟩
  rw [← Act.put_comm a v u h2]
  exact hK
theorem wpAnyX_first {Q : Act → Prop} {i : Nat} {oi : Oper} {v : Value} (hi : ops[i]? = some oi) (hsel : ∀ (j : Nat) (o : Oper) cs b, ops[j]? = some o → o.op ≠ .select cs b) :
    ∀ (fuel : Nat) (listed : Array Bool) (a : Act),
      (∀ j oj, ops[j]? = some oj → j ≠ i → listed.getD j true = false → (∀ e ∈ oj.after, Region.binds md e = true → e.on ≠ i) → oi.apart ops oj = true) →
      i ∈ Region.ready md ops listed → YI P ops C n i oi v a →
      wpAnyX P md ops C n Q fuel (listed.setIfInBounds i true) (a.put oi.dst v) → wpAnyX P md ops C n Q (fuel + 1) listed a := by
  intro fuel
  induction fuel with
  | zero =>
    intro listed a _ hr hy H
    refine ⟨fun h => (by rw [h] at hr; cases hr), fun j hj => ?_⟩
    by_cases hji : j = i
    · subst hji; exact ⟨oi, hi, v, hy, H⟩
    · have := ready_mono hj hji
      rw [H.1] at this
      cases this
  | succ fuel ih =>
    intro listed a hfree hr hy H
    refine ⟨fun h => (by rw [h] at hr; cases hr), fun j hj => ?_⟩
    by_cases hji : j = i
    · subst hji; exact ⟨oi, hi, v, hy, H⟩
    · have h1 := H.2 j (ready_mono hj hji)
      obtain ⟨hjun, oj, hoj, hall⟩ := mem_ready.1 hj
      have hnot : ∀ e ∈ oj.after, Region.binds md e = true → e.on ≠ i := fun e he hb heq => by
        have h1 := hall e he hb
        have h0 := (mem_ready.1 hr).1
        rw [heq] at h1
        rcases Nat.lt_or_ge i listed.size with h' | h'
        · simp [h'] at h0 h1; rw [h0] at h1; cases h1
        · simp [Array.getElem?_eq_none h'] at h1
      have h2 := yOp_put hoj (hfree j oj hoj hji hjun hnot) (fun cs b => hsel i oi cs b hi) (fun cs b => hsel j oj cs b hoj) hy h1
      have hfree' : ∀ k ok, ops[k]? = some ok → k ≠ i → (listed.setIfInBounds j true).getD k true = false →
          (∀ e ∈ ok.after, Region.binds md e = true → e.on ≠ i) → oi.apart ops ok = true := fun k ok hk hki hun hno => by
        refine hfree k ok hk hki ?_ hno
        by_cases hjk : j = k
        · subst hjk; exact hjun
        · rw [getD_set_ne true hjk] at hun; exact hun
      refine yOp_mono (fun a' h3 => ih (listed.setIfInBounds j true) a' hfree' (ready_mono hr (Ne.symm hji)) h3.1 ?_) h2
      rw [Array.setIfInBounds_comm _ _ hji]
      exact h3.2
/-- One operation behind the other. -/
def wpX (P : Program) (ops : Array Oper) (C : Bool → World → Prop) (n : Nat) (Q : Act → Prop) : Nat → List Oper → Act → Prop
  | _, [], a => Q a
  | i, o :: l, a => ∃ v, YI P ops C n i o v a ∧ wpX P ops C n Q (i + 1) l (a.put o.dst v)
theorem wpAnyX_lex {Q : Act → Prop} (hs : Region.noSelect ops = true) : ∀ (l : List Oper) (k : Nat) (listed : Array Bool) (a : Act), (∀ j, l[j]? = ops[k + j]?) → listed.size = ops.size → (n < k → listed.getD n false = true) → n < k + l.length →
    Region.lexFrom md ops l.length k listed = true → wpX P ops C n Q k l a → wpAnyX P md ops C n Q l.length listed a
  | [], k, listed, a, _, _, hd, hn, hB, h => ⟨by simpa [Region.lexFrom] using hB, hd (by simpa using hn), h⟩
  | o :: l, k, listed, a, hl, hsz, hd, hn, hB, h => by
    have h0 : ops[k]? = some o := by simpa using (hl 0).symm
    simp only [List.length_cons, Region.lexFrom, Bool.and_eq_true] at hB
    obtain ⟨⟨hr, hf⟩, hB'⟩ := hB
    obtain ⟨v, hy, hK⟩ := h
    refine wpAnyX_first h0 (Region.noSelect_spec hs) l.length listed a (Region.free_spec h0 hf) (by simpa using hr) hy
      (wpAnyX_lex hs l (k + 1) _ _ (fun j => by have := hl (j + 1); simpa [Nat.add_assoc, Nat.add_comm 1 j] using this) (by simpa using hsz) (fun hlt => ?_) (by simp only [List.length_cons] at hn; omega) hB' hK)
    by_cases hk : k = n
    · subst hk
      have : k < listed.size := by rw [hsz]; exact (Array.getElem?_eq_some_iff.1 h0).1
      simp [this]
    · rw [getD_set_ne false hk]
      exact hd (by omega)
theorem wpAny_of_X {Q : Act → Prop} {Q' : Exit → Act → World → Prop} (hQ : ∀ a w, C true w → Q a → Q' .normal a w) : ∀ (fuel : Nat) (listed : Array Bool) (a : Act) (w : World), listed.size = ops.size → C (listed.getD n false) w →
    wpAnyX P md ops C n Q fuel listed a → wpAny P md ops Q' fuel listed a w
  | 0, listed, a, w, _, hw, h => ⟨h.1, hQ _ _ (h.2.1 ▸ hw) h.2.2⟩
  | fuel + 1, listed, a, w, hsz, hw, h => by
    refine ⟨fun h0 => hQ _ _ ((h.1 h0).1 ▸ hw) (h.1 h0).2, fun i hi => ?_⟩
    obtain ⟨o, ho, v, hy, hK⟩ := h.2 i hi
    have hlt : i < listed.size := by rw [hsz]; exact (Array.getElem?_eq_some_iff.1 ho).1
    have hun : listed.getD i false = false := getD_both (mem_ready.1 hi).1
    have next : ∀ (a' : Act) (w' : World), wpAnyX P md ops C n Q fuel (listed.setIfInBounds i true) a' → C ((listed.setIfInBounds i true).getD n false) w' → wpAny P md ops Q' fuel (listed.setIfInBounds i true) a' w' := fun a' w' h1 h2 => wpAny_of_X hQ fuel _ a' w' (by simpa using hsz) h2 h1
    unfold wpOp
    simp only [ho]
    rcases hy with ⟨hwt, h1, h2⟩ | ⟨hin, hwt, rfl⟩
    · rw [if_pos hwt]
      refine .inl ?_
      by_cases hin : i = n
      · subst hin
        rw [hun] at hw
        obtain ⟨w', hr, rfl, hC⟩ := h1 rfl w hw
        unfold Oper.wp
        rw [hr]
        exact next _ _ hK (by simpa [hlt] using hC)
      · have hq := h2 hin _ w hw
        have keep : ∀ w', C (listed.getD n false) w' → C ((listed.setIfInBounds i true).getD n false) w' := fun w' h => by rw [getD_set_ne false hin]; exact h
        unfold Oper.quietAt at hq
        unfold Oper.wp
        generalize (execOp a.eval o).run P w = r at *
        cases r with
        | ok nx w' =>
          cases nx <;> simp only [Oper.quietUpon] at hq <;> simp only [Oper.upon]
          case value u =>
            obtain ⟨e1, e2⟩ := hq
            rw [e1, e2]
            exact next _ _ hK (keep _ hw)
          case skip =>
            obtain ⟨e1, e2⟩ := hq
            rw [e1, ← e2]
            exact next _ _ hK (keep _ hw)
          case enter f args =>
            obtain ⟨e1, hc⟩ := hq
            rw [e1]
            exact hc.mono fun e w'' ⟨he, hw''⟩ => by subst he; exact next _ _ hK (keep _ hw'')
        | halt x w' => simp only [Oper.quietUpon] at hq
    · rw [if_neg (by rw [hwt]; simp)]
      exact next _ _ hK (by rw [getD_set_ne false hin]; exact hw)
theorem wp_region_X {id : Nat} {Q : Exit → Act → World → Prop} {a : Act} {w : World} (hm : P.follows .mixedOrders = true) (hB : Region.lexB .any ops = true) (hn : n < ops.size) (hC : C false { w with drawn := w.drawn + 1 })
    (h : wpX P ops C n (fun a' => ∀ w', C true w' → Q .normal a' w') 0 ops.toList a) : (Code.region id ops true).wp P Q a w := by
  simp only [Region.lexB, Bool.and_eq_true] at hB
  refine wp_region_any hm (wpAny_of_X (C := C) (n := n) (Q := fun a' => ∀ w', C true w' → Q .normal a' w') (fun _ w' hw' h => h w' hw') _ _ _ _ (by simp) (by rw [getD_replicate_false]; exact hC) ?_)
  have := wpAnyX_lex (C := C) (n := n) (md := .any) hB.1 ops.toList 0 (Array.replicate ops.size false) a (by simp) (by simp) (fun h => by omega) (by simpa using hn) (by simpa using hB.2) h
  simpa using this
end
theorem comp_store {P : Program} {o : Oper} {m : Nat} {a x : AX} (hc : compOp P o = some (.store m a x)) : ∃ t p q, o.op = .store t p q ∧ sizeT P t = some m ∧ cx p = some a ∧ cx q = some x := by
  cases ho : o.op
  case store t p q =>
    simp only [compOp, ho, Option.bind_eq_some_iff] at hc
    obtain ⟨n, hn, ax, hx, ay, hy, hc⟩ := hc
    cases hc
    exact ⟨t, p, q, rfl, hn, hx, hy⟩
  all_goals (exfalso; simp only [compOp, ho] at hc; repeat' (first | (cases hc; done) | (split at hc) | (rw [Option.bind_eq_some_iff] at hc; obtain ⟨_, _, hc⟩ := hc) | (rw [Option.map_eq_some_iff] at hc; obtain ⟨_, _, hc⟩ := hc)))
/-- Where an object lies that is written to. -/
theorem store_at {P : Program} {o : Oper} {m : Nat} {a x : AX} (hc : compOp P o = some (.store m a x)) {Im : Imm} {ρ : List Loc} {Ω : List Obj} {w : World} (hR : Rel Im ρ Ω w) {e : Env} {act : Act} (hE : EnvOK Im ρ e act) {k off : Nat} {b : AV} (ha : ev e a = some (.ptr k off)) (hb : ev e x = some b) {Ω' : List Obj} {d : Bool} (h : aStore Ω m (.ptr k off) b = some (Ω', d))
    {blk base s : Nat} {arr : Array Value} {T : TypeId} {fz : Nat × Nat} (hr : ρ[k]? = some (some (blk, base, s))) (hw : w.heap[blk]? = some (.cells arr T fz)) :
    ∃ arr', (∀ w1 : World, w1.heap[blk]? = some (.cells arr T fz) → (execOp act.eval o).run P w1 = .ok .skip (World.setB w1 blk (.cells arr' T fz))) ∧ Step Im ρ Ω w Im ρ Ω' (World.setB w blk (.cells arr' T fz)) d := by
  obtain ⟨t, p, q, ho, hn, hp, hx⟩ := comp_store hc
  unfold aStore at h
  simp only [Option.bind_eq_some_iff] at h
  obtain ⟨ob, hob, hst⟩ := h
  split at hst
  case isFalse => cases hst
  rename_i hq
  obtain ⟨q1, q2, q3⟩ := hq
  cases hst
  obtain ⟨hk, hl⟩ := getO_some hob
  have hcv := (ev_ok hE hx hb).cv q2
  generalize hu : act.eval p = u
  have hpu := ev_ok hE hp ha
  rw [hu] at hpu
  cases hpu with
  | ptr blk' base' s' hr' =>
    rw [hr] at hr'
    cases hr'
    rcases hR.obj k ob hk hl with ⟨b', base', s', arr', T', fz', e1, e2, e3, e4, e5, e6, e7, f, e8, e9⟩ | ⟨e1, e2⟩
    · rw [hr] at e1
      cases e1
      rw [hw] at e2
      cases e2
      refine ⟨_, fun w1 hw1 => ?_, write_step hR hk hl hr hw hcv q2 (by rw [q1]; exact q3)⟩
      have hsz : (act.eval q).cells.size = m := by rw [← hcv.1, q1]
      have := run_storeCells_put (P := P) (b := blk) (o := base + off) (vs := (act.eval q).cells) hw1 (by rw [e5]; exact e4) (by rw [e5]; omega) (hcv.one (all_mem q2))
      simp only [execOp, ho, hu, Instr.storeAt, Instr.sureAddr, storeVar, pure_bind, Sem.run_bind, run_sizeOf' hn, Result.andThen_ok, hsz, ne_eq, not_true_eq_false, if_false, this, Sem.run_pure]
    · rw [hr] at e1
      cases e1
theorem setB_fr {w0 w1 : World} {b : Nat} {o : Go.Obj} (hb : b < w0.heap.size) (h : Fr w0 w1 (fun _ => False)) : Fr (World.setB w0 b o) (World.setB w1 b o) (fun _ => False) := by
  have h1 : b < w1.heap.size := Nat.lt_of_lt_of_le hb h.size
  refine ⟨h.os, h.tape, h.output, by simpa [World.setB] using h.size, fun b' hb' _ => ?_⟩
  rw [setB_get hb b', setB_get h1 b']
  split
  · rfl
  · exact h.block b' (by simpa [World.setB] using hb') (fun h => h)
/-- Quiet ones, between the others. -/
theorem aopsQ_X {P : Program} {C : CT} (hC : CallsOK P C) {ops : Array Oper} {N n : Nat} {Im : Imm} {ρ : List Loc} {Ω : List Obj} {w0 : World} (hR : Rel Im ρ Ω w0) {S : Nat → Prop} (hS : ∀ b, S b → Im b = none ∧ ¬ LB ρ Ω b) {Cc : Bool → World → Prop} (hF : ∀ ph w1, Cc ph w1 → Fr w0 w1 S) (hT : ∀ ph w1 w2, Cc ph w1 → Fr w1 w2 (fun _ => False) → Cc ph w2) {Q : Act → Prop} (rest : List Oper) : ∀ (l : List Oper) (os : List AOper) (i : Nat) (e e' : Env) (act : Act), compOps P N ops l = some os → aopsQ C 1 Ω os e = some e' → EnvOK Im ρ e act → act.tmps.size = N → (∀ j, j < l.length → i + j ≠ n) →
    (∀ act', EnvOK Im ρ e' act' → act'.tmps.size = N → act'.defers = act.defers → wpX P ops Cc n Q (i + l.length) rest act') → wpX P ops Cc n Q i (l ++ rest) act
  | [], os, i, e, e', act, hc, h, hE, hN, _, hQ => by cases hc; cases h; exact hQ _ hE hN rfl
  | o :: l, os, i, e, e', act, hc, h, hE, hN, hi, hQ => by
    simp only [compOps, Option.bind_eq_some_iff] at hc
    obtain ⟨ao, hao, g, hg, os', hos, hc⟩ := hc
    split at hc
    case isFalse => cases hc
    rename_i hd
    cases hc
    simp only [aopsQ, Option.bind_eq_some_iff] at h
    obtain ⟨b, hb, h⟩ := h
    have hw := wants_ok hg hE hb
    have hin : i ≠ n := by simpa using hi 0 (by simp)
    have hi' : ∀ j, j < l.length → i + 1 + j ≠ n := fun j hj => by have := hi (j + 1) (by simpa using hj); omega
    have hlen : i + (o :: l).length = i + 1 + l.length := by simp only [List.length_cons]; omega
    rw [hlen] at hQ
    show ∃ v, YI P ops Cc n i o v act ∧ wpX P ops Cc n Q (i + 1) (l ++ rest) (act.put o.dst v)
    cases b with
    | true =>
      simp only [if_true, Option.bind_eq_some_iff] at h
      obtain ⟨a, ha, h⟩ := h
      obtain ⟨y, hy, hrun⟩ := aopQ_ok hC hao hR hE (Nat.le_refl 1) hS ha
      obtain ⟨h1, h2, h3⟩ := hE.next (ImLe.refl _) (RhoLe.refl _) hN hd hy
      refine ⟨y, .inl ⟨hw, fun e => absurd e hin, fun _ ph w1 hcc => ?_⟩, aopsQ_X hC hR hS hF hT rest l os' (i + 1) _ e' _ hos h h1 h2 hi' fun act' q1 q2 q3 => hQ act' q1 q2 (q3.trans h3)⟩
      unfold Oper.quietAt
      rcases hrun w1 (hF ph w1 hcc) with hr | ⟨g', args, hr, hcalls⟩
      · rw [hr]
        exact ⟨rfl, rfl⟩
      · rw [hr]
        exact ⟨rfl, hcalls.mono fun e w2 hp => ⟨hp.1, hT ph w1 w2 hcc hp.2.1⟩⟩
    | false =>
      simp only [Bool.false_eq_true, if_false] at h
      obtain ⟨h1, h2, h3⟩ := hE.next (ImLe.refl _) (RhoLe.refl _) hN hd .dead
      exact ⟨undef, .inr ⟨hin, hw, rfl⟩, aopsQ_X hC hR hS hF hT rest l os' (i + 1) _ e' _ hos h h1 h2 hi' fun act' q1 q2 q3 => hQ act' q1 q2 (q3.trans h3)⟩
theorem compOps_split {P : Program} {N : Nat} {ops : Array Oper} : ∀ (l : List Oper) (os : List AOper) (n : Nat), compOps P N ops l = some os → compOps P N ops (l.take n) = some (os.take n) ∧ compOps P N ops (l.drop n) = some (os.drop n)
  | [], os, n, h => by cases h; simp [compOps]
  | o :: l, os, 0, h => ⟨by simp [compOps], by simpa using h⟩
  | o :: l, os, n + 1, h => by
    simp only [compOps, Option.bind_eq_some_iff] at h
    obtain ⟨ao, hao, g, hg, os', hos, h⟩ := h
    split at h
    · rename_i hd
      cases h
      obtain ⟨i1, i2⟩ := compOps_split l os' n hos
      refine ⟨?_, by simpa using i2⟩
      simp only [List.take_succ_cons, compOps, hao, hg, i1, Option.bind_some, hd, if_true]
    · cases h
theorem compOps_length {P : Program} {N : Nat} {ops : Array Oper} : ∀ (l : List Oper) (os : List AOper), compOps P N ops l = some os → os.length = l.length
  | [], os, h => by cases h; rfl
  | o :: l, os, h => by
    simp only [compOps, Option.bind_eq_some_iff] at h
    obtain ⟨ao, hao, g, hg, os', hos, h⟩ := h
    split at h
    · cases h
      rw [List.length_cons, List.length_cons, compOps_length l os' hos]
    · cases h
theorem Now.up' {B : Base} {s : St} {Im : Imm} {ρ : List Loc} {act : Act} {w w1 : World} (h : Now B s Im ρ act w) (hf : Fr w w1 (fun _ => False)) {e : Env} {act' : Act} (hE : EnvOK Im ρ e act') (hs : act'.tmps.size = B.N) (hd : act'.defers = act.defers) : Now B { s with env := e, d := max s.d 1 } Im ρ act' w1 := by
  have ha := h.acc
  have hl := ha.lvl
  refine ⟨⟨ha.rel.same fun b hb => hf.block b hb (fun h => h), ha.im, ha.imn, ?_, fun h0 => ?_, ?_, ha.new, ha.fresh⟩, hE, hs, hd.trans h.defers, h.rt, h.rtl, h.rtn⟩
  · exact Fr.trans (ha.fr.imp fun b hb => ⟨by have := hb.1; simp only; omega, hb.2⟩) hf (fun b hb => hb.elim)
  · simp only at h0; omega
  · simp only; omega
/-- A region in which one operation writes to what the others do not look at, in any order. -/
theorem regs_ok {P : Program} {C : CT} (hm : P.follows .mixedOrders = true) (hC : CallsOK P C) {B : Base} {ops : Array Oper} {l : List AOper} (hl : compOps P B.N ops ops.toList = some l) (hB : Region.lexB .any ops = true) {n : Nat} {s s' : St} (h : aexecS C n l s = some s') {Im : Imm} {ρ : List Loc} {act : Act} {w : World} (hN : Now B s Im ρ act w) {id : Nat} {Q : Exit → Act → World → Prop}
    (hQ : ∀ act' w', Now B s' Im ρ act' w' → Q .normal act' w') : (Code.region id ops true).wp P Q act w := by
  unfold aexecS at h
  split at h
  case h_2 => cases h
  rename_i m a x hx
  rw [Option.bind_eq_some_iff] at h
  obtain ⟨e0, he0, h⟩ := h
  unfold aStK at h
  rw [Option.bind_eq_some_iff] at h
  obtain ⟨a0, ha0, h⟩ := h
  split at h
  case h_2 => cases h
  rename_i k off0
  rw [Option.bind_eq_some_iff] at h
  obtain ⟨o, ho, h⟩ := h
  unfold aStX at h
  rw [Option.bind_eq_some_iff] at h
  obtain ⟨e1, he1, h⟩ := h
  rw [Option.bind_eq_some_iff] at h
  obtain ⟨a1, ha1, h⟩ := h
  rw [Option.bind_eq_some_iff] at h
  obtain ⟨x1, hx1, h⟩ := h
  split at h
  case h_2 => cases h
  rename_i k' off
  split at h
  case isFalse => cases h
  rename_i hkk
  subst hkk
  rw [Option.bind_eq_some_iff] at h
  obtain ⟨⟨Ω', b⟩, hst, h⟩ := h
  rw [Option.map_eq_some_iff] at h
  obtain ⟨e2, he2, h⟩ := h
  cases h
  have hD : Fr w { w with drawn := w.drawn + 1 } (fun _ => False) := ⟨rfl, rfl, rfl, Nat.le_refl _, fun _ _ _ => rfl⟩
  generalize hw0 : ({ w with drawn := w.drawn + 1 } : World) = w0 at hD
  have n1 := hN.up' hD hN.env hN.size rfl
  have hR := n1.acc.rel
  obtain ⟨hk, hlv⟩ := getO_some ho
  have hRk := hR.killed k' o
  have hnl : n < ops.toList.length := by
    rw [← compOps_length _ _ hl]
    exact (List.getElem?_eq_some_iff.1 hx).1
  have hn : n < ops.size := by simpa using hnl
  obtain ⟨c1, c2⟩ := compOps_split _ _ n hl
  obtain ⟨_, c3⟩ := compOps_split _ _ (n + 1) hl
  have split : ops.toList = ops.toList.take n ++ (ops.toList[n] :: ops.toList.drop (n + 1)) := by
    rw [← List.drop_eq_getElem_cons hnl, List.take_append_drop]
  have hdx : compOps P B.N ops (ops.toList[n] :: ops.toList.drop (n + 1)) = some (⟨none, none, .store m a x⟩ :: l.drop (n + 1)) := by
    rw [← List.drop_eq_getElem_cons hnl, c2]
    have hxl := (List.getElem?_eq_some_iff.1 hx).1
    rw [List.drop_eq_getElem_cons hxl, (List.getElem?_eq_some_iff.1 hx).2]
  have hlen : 0 + (ops.toList.take n).length = n := by rw [List.length_take, Nat.min_eq_left (by omega)]; omega
  simp only [compOps, Option.bind_eq_some_iff] at hdx
  obtain ⟨ao, hao, g, hg, os', hos, hdx⟩ := hdx
  split at hdx
  case isFalse => cases hdx
  rename_i hdd
  simp only [Option.some.injEq, List.cons.injEq, AOper.mk.injEq] at hdx
  obtain ⟨⟨hdn, rfl, rfl⟩, rfl⟩ := hdx
  have hgd : (ops.toList[n]).guard = none := by
    cases hgg : (ops.toList[n]).guard with
    | none => rfl
    | some p =>
      rw [hgg] at hg
      simp only [compG, Option.map_eq_some_iff] at hg
      obtain ⟨_, _, hg⟩ := hg
      cases hg
  have hptr : (∃ blk base sz arr T fz, ρ[k']? = some (some (blk, base, sz)) ∧ w0.heap[blk]? = some (.cells arr T fz)) ∨ ρ[k']? = some none := by
    rcases hR.obj k' o hk hlv with ⟨b', base', s', arr', T', fz', e1, e2, _⟩ | ⟨e1, e2⟩
    · exact .inl ⟨_, _, _, _, _, _, e1, e2⟩
    · exact .inr e1
  rcases hptr with ⟨blk, base, sz, arr, T, fz, hr, hw⟩ | hnone
  case inr =>
    refine wp_region_X (C := fun _ w1 => Fr w0 w1 (fun _ => False)) (n := n) hm hB hn (by rw [hw0]; exact Fr.refl _ _) ?_
    rw [split]
    refine aopsQ_X (S := fun _ => False) (Cc := fun _ w1 => Fr w0 w1 (fun _ => False)) hC hRk (fun _ h => h.elim) (fun _ _ h => h) (fun _ _ _ h h' => h.trans h' (fun b hb => hb.elim)) _ _ _ 0 _ e1 _ c1 he1 hN.env hN.size (fun j hj => by simp at hj; omega) fun act1 q1 q2 q3 => ?_
    exfalso
    obtain ⟨_, _, _, _, _, hcp, _⟩ := comp_store hao
    obtain ⟨u, hv⟩ : ∃ u, VR Im ρ (.ptr k' off) u := ⟨_, ev_ok q1 hcp ha1⟩
    cases hv with
    | ptr b o s hk2 => rw [hnone] at hk2; cases hk2
  have hlt := heap_lt hw
  let Cc : Bool → World → Prop := fun ph w1 => match ph with
    | false => Fr w0 w1 (fun _ => False)
    | true => ∃ arr', Fr (World.setB w0 blk (.cells arr' T fz)) w1 (fun _ => False) ∧ Step Im ρ s.ob w0 Im ρ Ω' (World.setB w0 blk (.cells arr' T fz)) b
  have hS : ∀ c, c = blk → Im c = none ∧ ¬ LB ρ (kill s.ob k' o) c := by
    rintro c rfl
    refine ⟨(hR.block_lt hk hlv hr).2, ?_⟩
    rintro ⟨j, oj, s1, s2, h1, h2, h3⟩
    obtain ⟨h4, h5⟩ := kill_get h1 h2
    exact hR.sep j k' oj o c s1 s2 c base sz h4 hk h2 hlv h5 h3 hr rfl
  have hF : ∀ ph w1, Cc ph w1 → Fr w0 w1 (fun c => c = blk) := by
    intro ph w1 hc
    cases ph with
    | false => exact Fr.imp hc fun _ h => h.elim
    | true =>
      obtain ⟨arr', h1, _⟩ := hc
      refine Fr.trans (w1 := World.setB w0 blk (.cells arr' T fz)) ⟨rfl, rfl, rfl, by simp [World.setB], fun c hc hn => ?_⟩ (h1.imp fun _ h => h.elim) (S' := fun c => c = blk) (fun c hc => .inl hc)
      rw [setB_get hlt c, if_neg hn]
  have hT : ∀ ph w1 w2, Cc ph w1 → Fr w1 w2 (fun _ => False) → Cc ph w2 := by
    intro ph w1 w2 hc hf
    cases ph with
    | false => exact Fr.trans hc hf (fun b hb => hb.elim)
    | true =>
      obtain ⟨arr', h1, h2⟩ := hc
      exact ⟨arr', h1.trans hf (fun b hb => hb.elim), h2⟩
  refine wp_region_X (C := Cc) (n := n) hm hB hn (by rw [hw0]; exact Fr.refl _ _) ?_
  rw [split]
  refine aopsQ_X (S := fun c => c = blk) hC hRk hS hF hT _ _ _ 0 _ e1 _ c1 he1 hN.env hN.size (fun j hj => by simp at hj; omega) fun act1 q1 q2 q3 => ?_
  rw [hlen]
  obtain ⟨arr', hrun, hstep⟩ := store_at hao hR q1 ha1 hx1 hst hr hw
  refine ⟨undef, .inl ⟨by unfold Region.wanted; rw [hgd], fun _ w1 hc => ?_, fun hne => absurd rfl hne⟩, ?_⟩
  · have hb1 : w1.heap[blk]? = some (.cells arr T fz) := by rw [Fr.block hc blk hlt (fun h => h)]; exact hw
    exact ⟨_, hrun w1 hb1, rfl, arr', setB_fr hlt hc, hstep⟩
  · rw [hdn]
    have := aopsQ_X (Q := fun a' => ∀ w', Cc true w' → Q .normal a' w') (S := fun c => c = blk) (n := n) hC hRk hS hF hT [] _ _ (n + 1) _ e2 act1 c3 he2 q1 q2 (fun j hj => by omega) fun act2 r1 r2 r3 => by
      intro w' hc
      obtain ⟨arr2, hf2, hst2⟩ := hc
      have hev : Ev1 Im ρ s.ob w0 Im ρ Ω' (World.setB w0 blk (.cells arr2 T fz)) (lev b) := ⟨by cases b <;> exact hst2, fun _ h _ => h, fun h0 => by cases b <;> simp [lev] at h0, by cases b <;> simp [lev]⟩
      have n2 := n1.put (dst := none) rfl VR.dead hev
      have n3 := n2.up' hf2 r1 r2 (r3.trans q3)
      have hdm : max (max (max s.d 1) (lev b)) 1 = max s.d (lev b) := by
        have : 1 ≤ lev b := by cases b <;> decide
        omega
      have n4 : Now B { s with env := e2, ob := Ω', d := max (max (max s.d 1) (lev b)) 1 } Im ρ act2 w' := n3
      rw [hdm] at n4
      exact hQ act2 w' n4
    rw [List.append_nil] at this
    exact this
end Go.Proofs.Ythkjiclplecljaa.Sym

/- Regions in any order in which what acts comes one behind the other: an order in which they may be taken. -/
namespace Go.Proofs.Ythkjiclplecljaa.Sym
open Go
set_option linter.unusedVariables false
set_option linter.unusedSimpArgs false

section
variable {P : Program} {ops : Array Oper}
/-- It yields a value, in this world. -/
def YldAt (P : Program) (ops : Array Oper) (o : Oper) (v : Value) (a : Act) (w : World) : Prop :=
  (Region.wanted o (yielded ops a.tmps) = true ∧ (execOp a.eval o).run P w = .ok (.value v) w) ∨ (Region.wanted o (yielded ops a.tmps) = false ∧ v = undef) ∨
  (Region.wanted o (yielded ops a.tmps) = true ∧ ∃ g args, (execOp a.eval o).run P w = .ok (.enter g args) w ∧ Calls P g args w fun e w2 => e = .returned v ∧ w2 = w)
theorem YldAt.same {o : Oper} {v : Value} {a a' : Act} {w : World} (hy : YldAt P ops o v a w) (he : execOp a'.eval o = execOp a.eval o) (hw : Region.wanted o (yielded ops a'.tmps) = Region.wanted o (yielded ops a.tmps)) : YldAt P ops o v a' w := by
  unfold YldAt at *
  rw [he, hw]
  exact hy
/-- Everything listed has what it comes behind listed. -/
def Shut (ops : Array Oper) (listed : Array Bool) : Prop := listed.size = ops.size ∧ ∀ (j : Nat) o, ops[j]? = some o → listed.getD j false = true → ∀ e ∈ o.after, Region.binds .any e = true → listed.getD e.on false = true
theorem Shut.set {listed : Array Bool} (h : Shut ops listed) {j : Nat} (hj : j ∈ Region.ready .any ops listed) : Shut ops (listed.setIfInBounds j true) := by
  refine ⟨by simpa using h.1, fun k o ho hk e he hb => ?_⟩
  by_cases hjk : j = k
  · subst hjk
    obtain ⟨_, o', ho', hall⟩ := mem_ready.1 hj
    rw [ho] at ho'
    cases ho'
    exact getD_set_true (hall e he hb)
  · rw [getD_set_ne false hjk] at hk
    exact getD_set_true (h.2 k o ho hk e he hb)
theorem depGo_pre (i : Nat) : ∀ (os : List Oper) (acc : List Bool), ∃ r, depGo i os acc = acc ++ r
  | [], acc => ⟨[], by simp [depGo]⟩
  | o :: os, acc => by
    obtain ⟨r, hr⟩ := depGo_pre i os (acc ++ [o.after.any fun x => Region.binds .any x && (x.on == i || acc.getD x.on false)])
    exact ⟨_, by rw [depGo, hr, List.append_assoc]⟩
theorem getD_app {l r : List Bool} {k : Nat} (h : k < l.length) : (l ++ r).getD k false = l.getD k false := by
  simp only [List.getD_eq_getElem?_getD]
  rw [List.getElem?_append_left h]
theorem depGo_spec (i : Nat) : ∀ (os : List Oper) (acc : List Bool) (e : Nat), acc.length ≤ e → (depGo i os acc).getD e false = true → ∃ o, os[e - acc.length]? = some o ∧ ∃ x ∈ o.after, Region.binds .any x = true ∧ (x.on = i ∨ x.on < e ∧ (depGo i os acc).getD x.on false = true)
  | [], acc, e, he, h => by
    rw [depGo, List.getD_eq_getElem?_getD, List.getElem?_eq_none he] at h
    cases h
  | o :: os, acc, e, he, h => by
    obtain ⟨r, hr⟩ := depGo_pre i os (acc ++ [o.after.any fun x => Region.binds .any x && (x.on == i || acc.getD x.on false)])
    rcases Nat.eq_or_lt_of_le he with rfl | hlt
    · refine ⟨o, by simp, ?_⟩
      rw [depGo, hr, List.append_assoc] at h ⊢
      have h1 : (o.after.any fun x => Region.binds .any x && (x.on == i || acc.getD x.on false)) = true := by
        rw [List.getD_eq_getElem?_getD, List.getElem?_append_right (Nat.le_refl _), Nat.sub_self] at h
        simpa using h
      obtain ⟨x, hx, h2⟩ := Array.any_eq_true'.1 h1
      simp only [Bool.and_eq_true, Bool.or_eq_true, beq_iff_eq] at h2
      refine ⟨x, hx, h2.1, h2.2.imp id fun h3 => ?_⟩
      have hxl : x.on < acc.length := by
        rcases Nat.lt_or_ge x.on acc.length with q | q
        · exact q
        · rw [List.getD_eq_getElem?_getD, List.getElem?_eq_none q] at h3
          cases h3
      exact ⟨hxl, by rw [getD_app hxl]; exact h3⟩
    · rw [depGo] at h ⊢
      obtain ⟨o', ho', h'⟩ := depGo_spec i os _ e (by rw [List.length_append, List.length_singleton]; omega) h
      refine ⟨o', ?_, h'⟩
      rw [List.length_append, List.length_singleton] at ho'
      rw [show e - acc.length = (e - (acc.length + 1)) + 1 by omega, List.getElem?_cons_succ]
      exact ho'
theorem dep_not {i : Nat} {listed : Array Bool} (hS : Shut ops listed) (hi : listed.getD i false = false) : ∀ (e : Nat), (depOf ops i).getD e false = true → ¬ ∃ o, ops[e]? = some o ∧ ∀ x ∈ o.after, Region.binds .any x = true → listed.getD x.on false = true
  | e, h => by
    rintro ⟨o, ho, hall⟩
    obtain ⟨o', ho', x, hx, hb, hor⟩ := depGo_spec i ops.toList [] e (Nat.zero_le _) h
    have : o' = o := by
      simp only [List.length_nil, Nat.sub_zero, Array.getElem?_toList] at ho'
      rw [ho] at ho'
      exact (Option.some.inj ho').symm
    subst this
    have hl := hall x hx hb
    rcases hor with rfl | ⟨hlt, hd⟩
    · rw [hi] at hl
      cases hl
    · have hxs : x.on < ops.size := by
        rw [← hS.1]
        rcases Nat.lt_or_ge x.on listed.size with q | q
        · exact q
        · simp [Array.getElem?_eq_none q] at hl
      obtain ⟨ox, hox⟩ : ∃ ox, ops[x.on]? = some ox := ⟨_, Array.getElem?_eq_getElem hxs⟩
      exact dep_not hS hi x.on hd ⟨ox, hox, fun y hy hb' => hS.2 x.on ox hox hl y hy hb'⟩
termination_by e => e
/-- It yields a value in this world, and in any in which there is more. -/
def YldUp (P : Program) (ops : Array Oper) (o : Oper) (v : Value) (a : Act) (w : World) : Prop := ∀ w1, Same w w1 → w.heap.size ≤ w1.heap.size → YldAt P ops o v a w1
theorem YldUp.same {o : Oper} {v : Value} {a a' : Act} {w : World} (hy : YldUp P ops o v a w) (he : execOp a'.eval o = execOp a.eval o) (hw : Region.wanted o (yielded ops a'.tmps) = Region.wanted o (yielded ops a.tmps)) : YldUp P ops o v a' w := fun w1 h1 h2 => (hy w1 h1 h2).same he hw
theorem YldUp.up {o : Oper} {v : Value} {a : Act} {w w1 : World} (hy : YldUp P ops o v a w) (h1 : Same w w1) (h2 : w.heap.size ≤ w1.heap.size) : YldUp P ops o v a w1 := fun w2 h3 h4 => hy w2 (fun b hb => by rw [h3 b (Nat.lt_of_lt_of_le hb h2), h1 b hb]) (Nat.le_trans h2 h4)
/-- The same, by no call. -/
def YldVal (P : Program) (ops : Array Oper) (o : Oper) (v : Value) (a : Act) (w : World) : Prop := ∀ w1, Same w w1 → w.heap.size ≤ w1.heap.size →
  (Region.wanted o (yielded ops a.tmps) = true ∧ (execOp a.eval o).run P w1 = .ok (.value v) w1) ∨ (Region.wanted o (yielded ops a.tmps) = false ∧ v = undef)
theorem YldVal.yld {o : Oper} {v : Value} {a : Act} {w : World} (h : YldVal P ops o v a w) : YldUp P ops o v a w := fun w1 h1 h2 => (h w1 h1 h2).imp id .inl
def YK (P : Program) (ops : Array Oper) (c : Nat) (o : Oper) (v : Value) (a : Act) (w : World) : Prop := if c = 5 then YldUp P ops o v a w else YldVal P ops o v a w
theorem YK.yld {c : Nat} {o : Oper} {v : Value} {a : Act} {w : World} (h : YK P ops c o v a w) : YldUp P ops o v a w := by
  unfold YK at h
  split at h
  · exact h
  · exact h.yld
theorem YK.same {c : Nat} {o : Oper} {v : Value} {a a' : Act} {w : World} (hy : YK P ops c o v a w) (he : execOp a'.eval o = execOp a.eval o) (hw : Region.wanted o (yielded ops a'.tmps) = Region.wanted o (yielded ops a.tmps)) : YK P ops c o v a' w := by
  unfold YK YldUp YldAt YldVal at *
  rw [he, hw]
  exact hy
theorem YK.up {c : Nat} {o : Oper} {v : Value} {a : Act} {w w1 : World} (hy : YK P ops c o v a w) (h1 : Same w w1) (h2 : w.heap.size ≤ w1.heap.size) : YK P ops c o v a w1 := by
  have tr : ∀ w2, Same w1 w2 → w1.heap.size ≤ w2.heap.size → Same w w2 ∧ w.heap.size ≤ w2.heap.size := fun w2 h3 h4 => ⟨fun b hb => by rw [h3 b (Nat.lt_of_lt_of_le hb h2), h1 b hb], Nat.le_trans h2 h4⟩
  unfold YK at *
  split
  · rename_i hc
    rw [if_pos hc] at hy
    exact hy.up h1 h2
  · rename_i hc
    rw [if_neg hc] at hy
    exact fun w2 h3 h4 => hy w2 (tr w2 h3 h4).1 (tr w2 h3 h4).2
theorem yields_k {o : Oper} {v : Value} {a : Act} (h : Yields P ops o v a) (w : World) (c : Nat) : YK P ops c o v a w := by
  have h1 : YldVal P ops o v a w := fun w1 _ _ => h.imp (fun h => ⟨h.1, h.2 w1⟩) id
  unfold YK
  split
  · exact h1.yld
  · exact h1
/-- A call that leaves all as it was yields one of these. -/
def YldSet (P : Program) (ops : Array Oper) (o : Oper) (V : Value → Prop) (a : Act) (w : World) : Prop := ∀ w1, Same w w1 → w.heap.size ≤ w1.heap.size →
  (Region.wanted o (yielded ops a.tmps) = true ∧ ∃ g args, (execOp a.eval o).run P w1 = .ok (.enter g args) w1 ∧ Calls P g args w1 fun e w2 => ∃ v, e = .returned v ∧ V v ∧ w2 = w1) ∨ (Region.wanted o (yielded ops a.tmps) = false ∧ V undef)
theorem YldSet.same {o : Oper} {V : Value → Prop} {a a' : Act} {w : World} (hy : YldSet P ops o V a w) (he : execOp a'.eval o = execOp a.eval o) (hw : Region.wanted o (yielded ops a'.tmps) = Region.wanted o (yielded ops a.tmps)) : YldSet P ops o V a' w := by
  unfold YldSet at *
  rw [he, hw]
  exact hy
theorem YldSet.up {o : Oper} {V : Value → Prop} {a : Act} {w w1 : World} (hy : YldSet P ops o V a w) (h1 : Same w w1) (h2 : w.heap.size ≤ w1.heap.size) : YldSet P ops o V a w1 := fun w2 h3 h4 => hy w2 (fun b hb => by rw [h3 b (Nat.lt_of_lt_of_le hb h2), h1 b hb]) (Nat.le_trans h2 h4)
theorem YldSet.wpOp {Q : Exit → Act → World → Prop} {K : Act → World → Prop} {i : Nat} {o : Oper} {V : Value → Prop} {a : Act} {w : World} (hi : ops[i]? = some o) (hy : YldSet P ops o V a w) (h : ∀ v, V v → K (a.put o.dst v) w) : wpOp P ops Q i K a w := by
  unfold Go.wpOp
  simp only [hi]
  rcases hy w (Same.refl w) (Nat.le_refl _) with ⟨hw, g, args, hr, hc⟩ | ⟨hw, hu⟩
  · rw [if_pos hw]
    refine .inl ?_
    unfold Oper.wp
    rw [hr]
    exact hc.mono fun e w'' ⟨v, he, hv, hw''⟩ => by subst he; subst hw''; exact h v hv
  · rw [if_neg (by rw [hw]; simp)]
    exact h undef hu
/-- It makes something. -/
def MkAt (P : Program) (ops : Array Oper) (o : Oper) (v : Value) (a : Act) (w w' : World) : Prop :=
  (Region.wanted o (yielded ops a.tmps) = true ∧ (execOp a.eval o).run P w = .ok (.value v) w' ∧ Same w w' ∧ w.heap.size ≤ w'.heap.size) ∨ (Region.wanted o (yielded ops a.tmps) = false ∧ v = undef ∧ w' = w)
theorem MkAt.same {o : Oper} {v : Value} {a a' : Act} {w w' : World} (hy : MkAt P ops o v a w w') (he : execOp a'.eval o = execOp a.eval o) (hw : Region.wanted o (yielded ops a'.tmps) = Region.wanted o (yielded ops a.tmps)) : MkAt P ops o v a' w w' := by
  unfold MkAt at *
  rw [he, hw]
  exact hy
theorem MkAt.more {o : Oper} {v : Value} {a : Act} {w w' : World} (hy : MkAt P ops o v a w w') : Same w w' ∧ w.heap.size ≤ w'.heap.size := by
  rcases hy with ⟨_, _, h⟩ | ⟨_, _, rfl⟩
  · exact h
  · exact ⟨Same.refl _, Nat.le_refl _⟩
theorem MkAt.wpOp {Q : Exit → Act → World → Prop} {K : Act → World → Prop} {i : Nat} {o : Oper} {v : Value} {a : Act} {w w' : World} (hi : ops[i]? = some o) (hy : MkAt P ops o v a w w') (h : K (a.put o.dst v) w') : wpOp P ops Q i K a w := by
  unfold Go.wpOp
  simp only [hi]
  rcases hy with ⟨hw, hr, _⟩ | ⟨hw, rfl, rfl⟩
  · rw [if_pos hw]
    refine .inl ?_
    unfold Oper.wp
    rw [hr]
    exact h
  · rw [if_neg (by rw [hw]; simp)]
    exact h
/-- What holds of all acts that an operation leads to. -/
theorem wpOp_keep {Q : Exit → Act → World → Prop} {R : Act → Prop} {j : Nat} {oj : Oper} (hj : ops[j]? = some oj) {K : Act → World → Prop} {a : Act} {w : World} (hR : ∀ u, R (a.put oj.dst u)) (hRd : ∀ d u, R (({ a with defers := d :: a.defers } : Act).put oj.dst u)) (h : wpOp P ops Q j K a w) : wpOp P ops Q j (fun a' w' => R a' ∧ K a' w') a w := by
  unfold Go.wpOp at *
  simp only [hj] at *
  split
  · rename_i hw
    simp only [hw, if_true] at h
    rcases h with h | h
    case inr => exact .inr h
    refine .inl ?_
    unfold Oper.wp at *
    generalize (execOp a.eval oj).run P w = r at *
    cases r with
    | ok n w' =>
      cases n <;> simp only [Oper.upon] at h ⊢
      case value u => exact ⟨hR u, h⟩
      case skip => exact ⟨hR _, h⟩
      case defer d => exact ⟨hRd d _, h⟩
      case enter f args => exact Calls.mono h fun e w'' he => by cases e <;> first | exact ⟨hR _, he⟩ | exact he
      case row row args => exact Rows.mono h fun u w'' he => ⟨hR u, he⟩
    | halt x w' => cases x <;> exact h
  · rename_i hw
    simp only [hw] at h
    exact ⟨hR _, h⟩
/-- All orders; what does not act stays in the world where it is. -/
def wpM (P : Program) (ops : Array Oper) (E : Nat → Nat) (Q : Exit → Act → World → Prop) : Nat → Array Bool → Act → World → Prop
  | 0, listed, a, w => Region.ready .any ops listed = [] ∧ Q .normal a w
  | fuel + 1, listed, a, w => (Region.ready .any ops listed = [] → Q .normal a w) ∧ ∀ i ∈ Region.ready .any ops listed,
      if E i = 0 then wpOp P ops Q i (wpM P ops E Q fuel (listed.setIfInBounds i true)) a w
      else if E i = 3 then ∃ o, ops[i]? = some o ∧ ∃ v w', MkAt P ops o v a w w' ∧ wpM P ops E Q fuel (listed.setIfInBounds i true) (a.put o.dst v) w'
      else if E i = 4 then wpOp P ops Q i (fun a' w' => (Same w w' ∧ w.heap.size ≤ w'.heap.size) ∧ wpM P ops E Q fuel (listed.setIfInBounds i true) a' w') a w
      else if E i = 6 then ∃ o, ops[i]? = some o ∧ ∃ V : Value → Prop, (∃ v, V v) ∧ YldSet P ops o V a w ∧ ∀ v, V v → wpM P ops E Q fuel (listed.setIfInBounds i true) (a.put o.dst v) w
      else ∃ o, ops[i]? = some o ∧ ∃ v, YK P ops (E i) o v a w ∧ wpM P ops E Q fuel (listed.setIfInBounds i true) (a.put o.dst v) w
theorem YldAt.wpOp {Q : Exit → Act → World → Prop} {K : Act → World → Prop} {i : Nat} {o : Oper} {v : Value} {a : Act} {w : World} (hi : ops[i]? = some o) (hy : YldAt P ops o v a w) (h : K (a.put o.dst v) w) : wpOp P ops Q i K a w := by
  unfold Go.wpOp
  simp only [hi]
  rcases hy with ⟨hw, hr⟩ | ⟨hw, rfl⟩ | ⟨hw, g, args, hr, hc⟩
  · rw [if_pos hw]
    refine .inl ?_
    unfold Oper.wp
    rw [hr]
    exact h
  · rw [if_neg (by rw [hw]; simp)]
    exact h
  · rw [if_pos hw]
    refine .inl ?_
    unfold Oper.wp
    rw [hr]
    exact hc.mono fun e w'' ⟨he, hw''⟩ => by subst he; subst hw''; exact h
theorem YldUp.at {o : Oper} {v : Value} {a : Act} {w : World} (hy : YldUp P ops o v a w) : YldAt P ops o v a w := hy w (Same.refl w) (Nat.le_refl _)
theorem wpAny_of_M {E : Nat → Nat} {Q : Exit → Act → World → Prop} : ∀ (fuel : Nat) (listed : Array Bool) (a : Act) (w : World), wpM P ops E Q fuel listed a w → wpAny P .any ops Q fuel listed a w
  | 0, listed, a, w, h => h
  | fuel + 1, listed, a, w, h => by
    refine ⟨h.1, fun i hi => ?_⟩
    have h2 := h.2 i hi
    split at h2
    · exact wpOp_mono (fun a' w' h' => wpAny_of_M fuel _ a' w' h') h2
    · split at h2
      · obtain ⟨o, ho, v, w', hy, hk⟩ := h2
        exact hy.wpOp ho (wpAny_of_M fuel _ _ _ hk)
      · split at h2
        · exact wpOp_mono (fun a' w' h' => wpAny_of_M fuel _ a' w' h'.2) h2
        · split at h2
          · obtain ⟨o, ho, V, _, hy, hk⟩ := h2
            exact hy.wpOp ho fun v hv => wpAny_of_M fuel _ _ _ (hk v hv)
          · obtain ⟨o, ho, v, hy, hk⟩ := h2
            exact hy.yld.at.wpOp ho (wpAny_of_M fuel _ _ _ hk)
theorem M_first {E : Nat → Nat} {Q : Exit → Act → World → Prop} (hQ0 : ∀ c a w, ¬ Q (.panic c) a w) {i : Nat} {oi : Oper} {v : Value} (hi : ops[i]? = some oi) (hsel : ∀ (j : Nat) (o : Oper) cs b, ops[j]? = some o → o.op ≠ .select cs b) (hE : E i ≠ 0 ∧ E i ≠ 3 ∧ E i ≠ 4 ∧ E i ≠ 6) :
    ∀ (fuel : Nat) (listed : Array Bool) (a : Act) (w : World), Shut ops listed →
      (∀ j oj, ops[j]? = some oj → j ≠ i → listed.getD j true = false → (∀ e ∈ oj.after, Region.binds .any e = true → e.on ≠ i) → oi.apart ops oj = true) →
      i ∈ Region.ready .any ops listed → YK P ops (E i) oi v a w →
      ((∀ e, E e = 0 → e < ops.size → listed.getD e true = false → (depOf ops i).getD e false = true) ∨ Yields P ops oi v a) →
      wpM P ops E Q fuel (listed.setIfInBounds i true) (a.put oi.dst v) w → wpM P ops E Q (fuel + 1) listed a w := by
  intro fuel
  induction fuel with
  | zero =>
    intro listed a w hS _ hr hy _ H
    refine ⟨fun h => (by rw [h] at hr; cases hr), fun j hj => ?_⟩
    by_cases hji : j = i
    · subst hji
      rw [if_neg hE.1, if_neg hE.2.1, if_neg hE.2.2.1, if_neg hE.2.2.2]
      exact ⟨oi, hi, v, hy, H⟩
    · have := ready_mono hj hji
      rw [H.1] at this
      cases this
  | succ fuel ih =>
    intro listed a w hS hfree hr hy hor H
    refine ⟨fun h => (by rw [h] at hr; cases hr), fun j hj => ?_⟩
    by_cases hji : j = i
    · subst hji
      rw [if_neg hE.1, if_neg hE.2.1, if_neg hE.2.2.1, if_neg hE.2.2.2]
      exact ⟨oi, hi, v, hy, H⟩
    · have h1 := H.2 j (ready_mono hj hji)
      obtain ⟨hjun, oj, hoj, hall⟩ := mem_ready.1 hj
      have hiu : listed.getD i false = false := getD_both (mem_ready.1 hr).1
      have hnot : ∀ e ∈ oj.after, Region.binds .any e = true → e.on ≠ i := fun e he hb heq => by
        have h1 := hall e he hb
        rw [heq, hiu] at h1
        cases h1
      have hap := hfree j oj hoj hji hjun hnot
      obtain ⟨q1, q2, q3⟩ := Oper.apart_spec hap
      have hfree' : ∀ k ok, ops[k]? = some ok → k ≠ i → (listed.setIfInBounds j true).getD k true = false →
          (∀ e ∈ ok.after, Region.binds .any e = true → e.on ≠ i) → oi.apart ops ok = true := fun k ok hk hki hun hno => by
        refine hfree k ok hk hki ?_ hno
        by_cases hjk : j = k
        · subst hjk; exact hjun
        · rw [getD_set_ne true hjk] at hun; exact hun
      have hS' := hS.set hj
      have hdep' : (∀ e, E e = 0 → e < ops.size → listed.getD e true = false → (depOf ops i).getD e false = true) → (∀ e, E e = 0 → e < ops.size → (listed.setIfInBounds j true).getD e true = false → (depOf ops i).getD e false = true) := fun hd e he hlt hun => by
        refine hd e he hlt ?_
        by_cases hje : j = e
        · subst hje; exact hjun
        · rw [getD_set_ne true hje] at hun; exact hun
      have ej := fun u => execOp_put oi (fun cs b => hsel i oi cs b hi) a oj.dst u q3
      have wj := fun u => wanted_put (ops := ops) oi a oj.dst u q3
      by_cases hEj : E j = 0
      · rw [if_pos hEj] at h1 ⊢
        rcases hor with hd | hY
        · exact absurd ⟨oj, hoj, hall⟩ (dep_not hS hiu j (hd j hEj (Array.getElem?_eq_some_iff.1 hoj).1 hjun))
        · have h2 := wpOp_put hoj hap (fun cs b => hsel i oi cs b hi) (fun cs b => hsel j oj cs b hoj) (fun c a w h => absurd h (hQ0 _ _ _)) hY h1
          refine wpOp_mono (fun a' w' h3 => ih (listed.setIfInBounds j true) a' w' hS' hfree' (ready_mono hr (Ne.symm hji)) (yields_k h3.1 w' (E i)) (.inr h3.1) ?_) h2
          rw [Array.setIfInBounds_comm _ _ hji]
          exact h3.2
      · rw [if_neg hEj] at h1 ⊢
        by_cases hE3 : E j = 3
        · rw [if_pos hE3] at h1 ⊢
          obtain ⟨o', ho', u, w', hu, hK⟩ := h1
          rw [hoj] at ho'
          cases ho'
          obtain ⟨m1, m2⟩ := hu.more
          refine ⟨oj, hoj, u, w', hu.same (execOp_put oj (fun cs b => hsel j oj cs b hoj) a oi.dst v q1).symm (wanted_put oj a oi.dst v q1).symm, ?_⟩
          refine ih (listed.setIfInBounds j true) _ w' hS' hfree' (ready_mono hr (Ne.symm hji)) ((hy.up m1 m2).same (ej u) (wj u)) (hor.imp hdep' fun hY => hY.of_same (ej u) (wj u)) ?_
          rw [Array.setIfInBounds_comm _ _ hji, ← Act.put_comm a v u q2]
          exact hK
        · rw [if_neg hE3] at h1 ⊢
          by_cases hE4 : E j = 4
          · rw [if_pos hE4] at h1 ⊢
            have hY : Yields P ops { oi with op := .move (.const v), guard := none } v a := .inl ⟨rfl, fun w => rfl⟩
            have hap' : Oper.apart ops { oi with op := .move (.const v), guard := none } oj = true := by
              have e : ∀ d, oj.dst = some d → d ∉ Oper.looksAt ops { oi with op := .move (.const v), guard := none } := fun d _ => by simp [Oper.looksAt, Op.operands]
              unfold Oper.apart
              cases hdi : oi.dst <;> cases hdj : oj.dst <;> simp_all [Oper.looksAt, Op.operands]
            have h2 := wpOp_put hoj hap' (fun cs b => by simp) (fun cs b => hsel j oj cs b hoj) (fun c a w h => absurd h (hQ0 _ _ _)) hY h1
            have h3 := wpOp_keep (R := fun a' => execOp a'.eval oi = execOp a.eval oi ∧ Region.wanted oi (yielded ops a'.tmps) = Region.wanted oi (yielded ops a.tmps)) hoj (fun u => ⟨ej u, wj u⟩) (fun d u => (by
              have e1 := ej u
              have e2 := wj u
              cases hdj : oj.dst <;> rw [hdj] at e1 e2 <;> exact ⟨e1, e2⟩)) h2
            refine wpOp_mono (fun a' w' h4 => ?_) h3
            obtain ⟨⟨r1, r2⟩, _, ⟨m1, m2⟩, hK⟩ := h4
            refine ⟨⟨m1, m2⟩, ih (listed.setIfInBounds j true) a' w' hS' hfree' (ready_mono hr (Ne.symm hji)) ((hy.up m1 m2).same r1 r2) (hor.imp hdep' fun hY => hY.of_same r1 r2) ?_⟩
            rw [Array.setIfInBounds_comm _ _ hji]
            exact hK
          rw [if_neg hE4] at h1 ⊢
          by_cases hE6 : E j = 6
          · rw [if_pos hE6] at h1 ⊢
            obtain ⟨o', ho', V, hne, hu, hK⟩ := h1
            rw [hoj] at ho'
            cases ho'
            refine ⟨oj, hoj, V, hne, hu.same (execOp_put oj (fun cs b => hsel j oj cs b hoj) a oi.dst v q1).symm (wanted_put oj a oi.dst v q1).symm, fun u hVu => ?_⟩
            refine ih (listed.setIfInBounds j true) _ w hS' hfree' (ready_mono hr (Ne.symm hji)) (hy.same (ej u) (wj u)) (hor.imp hdep' fun hY => hY.of_same (ej u) (wj u)) ?_
            rw [Array.setIfInBounds_comm _ _ hji, ← Act.put_comm a v u q2]
            exact hK u hVu
          rw [if_neg hE6] at h1 ⊢
          obtain ⟨o', ho', u, hu, hK⟩ := h1
          rw [hoj] at ho'
          cases ho'
          refine ⟨oj, hoj, u, hu.same (execOp_put oj (fun cs b => hsel j oj cs b hoj) a oi.dst v q1).symm (wanted_put oj a oi.dst v q1).symm, ?_⟩
          refine ih (listed.setIfInBounds j true) _ w hS' hfree' (ready_mono hr (Ne.symm hji)) (hy.same (ej u) (wj u)) (hor.imp hdep' fun hY => hY.of_same (ej u) (wj u)) ?_
          rw [Array.setIfInBounds_comm _ _ hji, ← Act.put_comm a v u q2]
          exact hK
theorem YldVal.uniq {o : Oper} {v v' : Value} {a : Act} {w : World} (h : YldVal P ops o v a w) (h' : YldVal P ops o v' a w) : v = v' := by
  rcases h w (Same.refl w) (Nat.le_refl _) with ⟨h1, h2⟩ | ⟨h1, h2⟩ <;> rcases h' w (Same.refl w) (Nat.le_refl _) with ⟨h3, h4⟩ | ⟨h3, h4⟩
  · rw [h2] at h4; cases h4; rfl
  · rw [h1] at h3; cases h3
  · rw [h1] at h3; cases h3
  · rw [h2, h4]
theorem MkAt.uniq {o : Oper} {v v' : Value} {a : Act} {w w1 w2 : World} (h : MkAt P ops o v a w w1) (h' : MkAt P ops o v' a w w2) : v = v' ∧ w1 = w2 := by
  rcases h with ⟨h1, h2, _⟩ | ⟨h1, h2, e⟩ <;> rcases h' with ⟨h3, h4, _⟩ | ⟨h3, h4, e'⟩
  · rw [h2] at h4; cases h4; exact ⟨rfl, rfl⟩
  · rw [h1] at h3; cases h3
  · rw [h1] at h3; cases h3
  · exact ⟨by rw [h2, h4], by rw [e, e']⟩
/-- A call that leaves all as it was, taken first. -/
theorem M_first6 {E : Nat → Nat} {Q : Exit → Act → World → Prop} {i : Nat} {oi : Oper} {V : Value → Prop} (hV : ∃ v, V v) (hi : ops[i]? = some oi) (hsel : ∀ (j : Nat) (o : Oper) cs b, ops[j]? = some o → o.op ≠ .select cs b) (hE : E i = 6) :
    ∀ (fuel : Nat) (listed : Array Bool) (a : Act) (w : World), Shut ops listed →
      (∀ j oj, ops[j]? = some oj → j ≠ i → listed.getD j true = false → (∀ e ∈ oj.after, Region.binds .any e = true → e.on ≠ i) → oi.apart ops oj = true) →
      i ∈ Region.ready .any ops listed → YldSet P ops oi V a w →
      (∀ e, e ≠ i → E e ≠ 1 → E e ≠ 2 → E e ≠ 3 → e < ops.size → listed.getD e true = false → (depOf ops i).getD e false = true) →
      (∀ v, V v → wpM P ops E Q fuel (listed.setIfInBounds i true) (a.put oi.dst v) w) → wpM P ops E Q (fuel + 1) listed a w := by
  have self : ∀ (fuel : Nat) (listed : Array Bool) (a : Act) (w : World), YldSet P ops oi V a w → (∀ v, V v → wpM P ops E Q fuel (listed.setIfInBounds i true) (a.put oi.dst v) w) →
      if E i = 0 then wpOp P ops Q i (wpM P ops E Q fuel (listed.setIfInBounds i true)) a w
      else if E i = 3 then ∃ o, ops[i]? = some o ∧ ∃ v w', MkAt P ops o v a w w' ∧ wpM P ops E Q fuel (listed.setIfInBounds i true) (a.put o.dst v) w'
      else if E i = 4 then wpOp P ops Q i (fun a' w' => (Same w w' ∧ w.heap.size ≤ w'.heap.size) ∧ wpM P ops E Q fuel (listed.setIfInBounds i true) a' w') a w
      else if E i = 6 then ∃ o, ops[i]? = some o ∧ ∃ V : Value → Prop, (∃ v, V v) ∧ YldSet P ops o V a w ∧ ∀ v, V v → wpM P ops E Q fuel (listed.setIfInBounds i true) (a.put o.dst v) w
      else ∃ o, ops[i]? = some o ∧ ∃ v, YK P ops (E i) o v a w ∧ wpM P ops E Q fuel (listed.setIfInBounds i true) (a.put o.dst v) w := fun fuel listed a w hy H => by
    rw [if_neg (by omega), if_neg (by omega), if_neg (by omega), if_pos hE]
    exact ⟨oi, hi, V, hV, hy, H⟩
  intro fuel
  induction fuel with
  | zero =>
    intro listed a w hS _ hr hy _ H
    refine ⟨fun h => (by rw [h] at hr; cases hr), fun j hj => ?_⟩
    by_cases hji : j = i
    · subst hji
      exact self _ _ _ _ hy H
    · have := ready_mono hj hji
      obtain ⟨v, hv⟩ := hV
      rw [(H v hv).1] at this
      cases this
  | succ fuel ih =>
    intro listed a w hS hfree hr hy hd H
    refine ⟨fun h => (by rw [h] at hr; cases hr), fun j hj => ?_⟩
    by_cases hji : j = i
    · subst hji
      exact self _ _ _ _ hy H
    · obtain ⟨v0, hv0⟩ := hV
      have h1 := fun v hv => (H v hv).2 j (ready_mono hj hji)
      obtain ⟨hjun, oj, hoj, hall⟩ := mem_ready.1 hj
      have hjl : j < ops.size := (Array.getElem?_eq_some_iff.1 hoj).1
      have hiu : listed.getD i false = false := getD_both (mem_ready.1 hr).1
      have hnot : ∀ e ∈ oj.after, Region.binds .any e = true → e.on ≠ i := fun e he hb heq => by
        have h1 := hall e he hb
        rw [heq, hiu] at h1
        cases h1
      have hap := hfree j oj hoj hji hjun hnot
      obtain ⟨q1, q2, q3⟩ := Oper.apart_spec hap
      have hfree' : ∀ k ok, ops[k]? = some ok → k ≠ i → (listed.setIfInBounds j true).getD k true = false →
          (∀ e ∈ ok.after, Region.binds .any e = true → e.on ≠ i) → oi.apart ops ok = true := fun k ok hk hki hun hno => by
        refine hfree k ok hk hki ?_ hno
        by_cases hjk : j = k
        · subst hjk; exact hjun
        · rw [getD_set_ne true hjk] at hun; exact hun
      have hS' := hS.set hj
      have hd' : ∀ e, e ≠ i → E e ≠ 1 → E e ≠ 2 → E e ≠ 3 → e < ops.size → (listed.setIfInBounds j true).getD e true = false → (depOf ops i).getD e false = true := fun e e0 e1 e2 e3 hlt hun => by
        refine hd e e0 e1 e2 e3 hlt ?_
        by_cases hje : j = e
        · subst hje; exact hjun
        · rw [getD_set_ne true hje] at hun; exact hun
      have ej := fun u => execOp_put oi (fun cs b => hsel i oi cs b hi) a oj.dst u q3
      have wj := fun u => wanted_put (ops := ops) oi a oj.dst u q3
      have ei := fun v => execOp_put oj (fun cs b => hsel j oj cs b hoj) a oi.dst v q1
      have wi := fun v => wanted_put (ops := ops) oj a oi.dst v q1
      by_cases hc : E j ≠ 1 ∧ E j ≠ 2 ∧ E j ≠ 3
      · exact absurd ⟨oj, hoj, hall⟩ (dep_not hS hiu j (hd j hji hc.1 hc.2.1 hc.2.2 hjl hjun))
      by_cases hE3 : E j = 3
      · rw [if_neg (by omega), if_pos hE3]
        have h2 : ∀ v, V v → ∃ u w', MkAt P ops oj u a w w' ∧ wpM P ops E Q fuel ((listed.setIfInBounds i true).setIfInBounds j true) ((a.put oi.dst v).put oj.dst u) w' := fun v hv => by
          have h := h1 v hv
          rw [if_neg (by omega), if_pos hE3] at h
          obtain ⟨o', ho', u, w', hu, hK⟩ := h
          rw [hoj] at ho'
          cases ho'
          exact ⟨u, w', hu.same (ei v).symm (wi v).symm, hK⟩
        obtain ⟨u, w', hu, _⟩ := h2 v0 hv0
        obtain ⟨m1, m2⟩ := hu.more
        refine ⟨oj, hoj, u, w', hu, ?_⟩
        refine ih (listed.setIfInBounds j true) _ w' hS' hfree' (ready_mono hr (Ne.symm hji)) ((hy.up m1 m2).same (ej u) (wj u)) hd' fun v hv => ?_
        obtain ⟨u', w2, hu', hK⟩ := h2 v hv
        obtain ⟨rfl, rfl⟩ := hu.uniq hu'
        rw [Array.setIfInBounds_comm _ _ hji, ← Act.put_comm a v u q2]
        exact hK
      · have hE12 : E j = 1 ∨ E j = 2 := by omega
        rw [if_neg (by omega), if_neg (by omega), if_neg (by omega), if_neg (by omega)]
        have h2 : ∀ v, V v → ∃ u, YK P ops (E j) oj u a w ∧ wpM P ops E Q fuel ((listed.setIfInBounds i true).setIfInBounds j true) ((a.put oi.dst v).put oj.dst u) w := fun v hv => by
          have h := h1 v hv
          rw [if_neg (by omega), if_neg (by omega), if_neg (by omega), if_neg (by omega)] at h
          obtain ⟨o', ho', u, hu, hK⟩ := h
          rw [hoj] at ho'
          cases ho'
          exact ⟨u, hu.same (ei v).symm (wi v).symm, hK⟩
        obtain ⟨u, hu, _⟩ := h2 v0 hv0
        refine ⟨oj, hoj, u, hu, ?_⟩
        refine ih (listed.setIfInBounds j true) _ w hS' hfree' (ready_mono hr (Ne.symm hji)) (hy.same (ej u) (wj u)) hd' fun v hv => ?_
        obtain ⟨u', hu', hK⟩ := h2 v hv
        have e1 : YldVal P ops oj u a w := by unfold YK at hu; rwa [if_neg (by omega)] at hu
        have e2 : YldVal P ops oj u' a w := by unfold YK at hu'; rwa [if_neg (by omega)] at hu'
        obtain rfl := e1.uniq e2
        rw [Array.setIfInBounds_comm _ _ hji, ← Act.put_comm a v u q2]
        exact hK
def wpSq (P : Program) (ops : Array Oper) (cls : List Nat) (Q : Exit → Act → World → Prop) : List Nat → Act → World → Prop
  | [], a, w => Q .normal a w
  | i :: l, a, w => if cls.getD i 0 = 0 then wpOp P ops Q i (wpSq P ops cls Q l) a w
      else if cls.getD i 0 = 3 then ∃ o, ops[i]? = some o ∧ ∃ v w', MkAt P ops o v a w w' ∧ wpSq P ops cls Q l (a.put o.dst v) w'
      else if cls.getD i 0 = 4 then wpOp P ops Q i (fun a' w' => (Same w w' ∧ w.heap.size ≤ w'.heap.size) ∧ wpSq P ops cls Q l a' w') a w
      else if cls.getD i 0 = 6 then ∃ o, ops[i]? = some o ∧ ∃ V : Value → Prop, (∃ v, V v) ∧ YldSet P ops o V a w ∧ ∀ v, V v → wpSq P ops cls Q l (a.put o.dst v) w
      else ∃ o, ops[i]? = some o ∧ ∃ v, YK P ops (cls.getD i 0) o v a w ∧ (cls.getD i 0 = 2 → Yields P ops o v a) ∧ wpSq P ops cls Q l (a.put o.dst v) w
theorem M_of_sq {cls : List Nat} {Q : Exit → Act → World → Prop} (hQ0 : ∀ c a w, ¬ Q (.panic c) a w) (hs : Region.noSelect ops = true) : ∀ (f : Nat) (listed : Array Bool) (π : List Nat) (a : Act) (w : World), Shut ops listed → permGo ops cls f listed = some π → wpSq P ops cls Q π a w → wpM P ops (fun i => cls.getD i 0) Q f listed a w
  | 0, listed, π, a, w, hS, h, hw => by
    rw [permGo] at h
    split at h
    · rename_i he
      cases h
      exact ⟨by simpa using he, hw⟩
    · cases h
  | f + 1, listed, π, a, w, hS, h, hw => by
    rw [permGo] at h
    split at h
    · rename_i i hi
      rw [Option.map_eq_some_iff] at h
      obtain ⟨π', hπ, rfl⟩ := h
      have hm := List.mem_of_find?_eq_some hi
      have hok := List.find?_some hi
      by_cases hc6 : cls.getD i 0 = 6
      · rw [okFirst, if_pos hc6] at hok
        simp only [Bool.and_eq_true, Bool.or_eq_true, decide_eq_true_eq, List.all_eq_true, List.mem_range] at hok
        obtain ⟨hf, hd⟩ := hok
        rw [wpSq, if_neg (by omega), if_neg (by omega), if_neg (by omega), if_pos hc6] at hw
        obtain ⟨o, ho, V, hne, hy, hk⟩ := hw
        refine M_first6 hne ho (Region.noSelect_spec hs) hc6 f listed a w hS (Region.free_spec ho hf) hm hy (fun e e0 e1 e2 e3 hlt hun => ?_) fun v hv => M_of_sq hQ0 hs f _ π' _ w (hS.set hm) hπ (hk v hv)
        rcases hd e hlt with ((((h1 | h1) | h1) | h1) | h1) | h1
        · exact absurd h1 e0
        · exact absurd h1 e1
        · exact absurd h1 e2
        · exact absurd h1 e3
        · rw [hun] at h1; cases h1
        · exact h1
      rw [okFirst, if_neg hc6] at hok
      simp only [Bool.and_eq_true, Bool.or_eq_true, decide_eq_true_eq, List.all_eq_true, List.mem_range] at hok
      obtain ⟨⟨hc, hf⟩, hd⟩ := hok
      rw [wpSq, if_neg (by omega), if_neg (by omega), if_neg (by omega), if_neg hc6] at hw
      obtain ⟨o, ho, v, hy, hY, hk⟩ := hw
      refine M_first hQ0 ho (Region.noSelect_spec hs) (show cls.getD i 0 ≠ 0 ∧ cls.getD i 0 ≠ 3 ∧ cls.getD i 0 ≠ 4 ∧ cls.getD i 0 ≠ 6 by omega) f listed a w hS (Region.free_spec ho hf) hm hy ?_ (M_of_sq hQ0 hs f _ π' _ w (hS.set hm) hπ hk)
      rcases hd with hd | hd
      · exact .inr (hY hd)
      · refine .inl fun e he hlt hun => ?_
        rcases hd e hlt with (h1 | h1) | h1
        · omega
        · rw [hun] at h1; cases h1
        · exact h1
    · split at h
      · rename_i k hk
        rw [Option.map_eq_some_iff] at h
        obtain ⟨π', hπ, rfl⟩ := h
        have hm : k ∈ Region.ready .any ops listed := by rw [hk]; simp
        refine ⟨fun h0 => (by rw [hk] at h0; cases h0), fun j hj => ?_⟩
        rw [hk] at hj
        obtain rfl : j = k := by simpa using hj
        rw [wpSq] at hw
        split at hw
        · rename_i hc
          rw [if_pos hc]
          exact wpOp_mono (fun a' w' h' => M_of_sq hQ0 hs f _ π' a' w' (hS.set hm) hπ h') hw
        · rename_i hc
          rw [if_neg hc]
          split at hw
          · rename_i hc3
            rw [if_pos hc3]
            obtain ⟨o, ho, v, w', hy, hk'⟩ := hw
            exact ⟨o, ho, v, w', hy, M_of_sq hQ0 hs f _ π' _ w' (hS.set hm) hπ hk'⟩
          · rename_i hc3
            rw [if_neg hc3]
            split at hw
            · rename_i hc4
              rw [if_pos hc4]
              exact wpOp_mono (fun a' w' h' => ⟨h'.1, M_of_sq hQ0 hs f _ π' a' w' (hS.set hm) hπ h'.2⟩) hw
            · rename_i hc4
              rw [if_neg hc4]
              split at hw
              · rename_i hc6
                rw [if_pos hc6]
                obtain ⟨o, ho, V, hne, hy, hk'⟩ := hw
                exact ⟨o, ho, V, hne, hy, fun v hv => M_of_sq hQ0 hs f _ π' _ w (hS.set hm) hπ (hk' v hv)⟩
              rename_i hc6
              rw [if_neg hc6]
              obtain ⟨o, ho, v, hy, hY, hk'⟩ := hw
              exact ⟨o, ho, v, hy, M_of_sq hQ0 hs f _ π' _ w (hS.set hm) hπ hk'⟩
      · cases h
theorem wp_region_M {cls : List Nat} {π : List Nat} {id : Nat} {Q : Exit → Act → World → Prop} {a : Act} {w : World} (hm : P.follows .mixedOrders = true) (hs : Region.noSelect ops = true) (hπ : permGo ops cls ops.size (Array.replicate ops.size false) = some π)
    (h : wpSq P ops cls (fun ex a w => ex = .normal ∧ Q .normal a w) π a { w with drawn := w.drawn + 1 }) : (Code.region id ops true).wp P Q a w := by
  have h1 : (Code.region id ops true).wp P (fun ex a w => ex = .normal ∧ Q .normal a w) a w := wp_region_any hm (wpAny_of_M _ _ _ _ (M_of_sq (fun c a w h => (by cases h.1)) hs _ _ _ _ _ ⟨by simp, fun j o ho hl => (by rw [getD_replicate_false] at hl; cases hl)⟩ hπ h))
  exact Code.wp_mono (fun e a w he => by obtain ⟨rfl, h⟩ := he; exact h) h1
def wpSqT (P : Program) (ops : Array Oper) (cls : List Nat) (Q : Exit → Act → World → Prop) : PT → Act → World → Prop
  | .nil, a, w => Q .normal a w
  | .alt x y, a, w => wpSqT P ops cls Q x a w ∧ wpSqT P ops cls Q y a w
  | .one i l, a, w => if cls.getD i 0 = 0 then wpOp P ops Q i (wpSqT P ops cls Q l) a w
      else if cls.getD i 0 = 3 then ∃ o, ops[i]? = some o ∧ ∃ v w', MkAt P ops o v a w w' ∧ wpSqT P ops cls Q l (a.put o.dst v) w'
      else if cls.getD i 0 = 4 then wpOp P ops Q i (fun a' w' => (Same w w' ∧ w.heap.size ≤ w'.heap.size) ∧ wpSqT P ops cls Q l a' w') a w
      else if cls.getD i 0 = 6 then ∃ o, ops[i]? = some o ∧ ∃ V : Value → Prop, (∃ v, V v) ∧ YldSet P ops o V a w ∧ ∀ v, V v → wpSqT P ops cls Q l (a.put o.dst v) w
      else ∃ o, ops[i]? = some o ∧ ∃ v, YK P ops (cls.getD i 0) o v a w ∧ (cls.getD i 0 = 2 → Yields P ops o v a) ∧ wpSqT P ops cls Q l (a.put o.dst v) w
theorem altAll_mem {cls : List Nat} {Q : Exit → Act → World → Prop} {a : Act} {w : World} {g : Nat → Option PT} : ∀ (ks : List Nat) {t : PT}, altAll (ks.map g) = some t → wpSqT P ops cls Q t a w → ∀ k ∈ ks, ∃ tk, g k = some tk ∧ wpSqT P ops cls Q tk a w
  | [], t, h, _, k, hk => by cases hk
  | [k0], t, h, hw, k, hk => by
    obtain rfl : k = k0 := by simpa using hk
    exact ⟨t, h, hw⟩
  | k0 :: k1 :: ks, t, h, hw, k, hk => by
    rw [List.map_cons, List.map_cons, altAll, Option.bind_eq_some_iff] at h
    · obtain ⟨t0, h0, h⟩ := h
      rw [Option.map_eq_some_iff] at h
      obtain ⟨t1, h1, rfl⟩ := h
      rw [wpSqT] at hw
      rcases List.mem_cons.1 hk with rfl | hk
      · exact ⟨t0, h0, hw.1⟩
      · exact altAll_mem (k1 :: ks) (by rw [List.map_cons]; exact h1) hw.2 k hk
    · simp
theorem M_of_sqT {cls : List Nat} {Q : Exit → Act → World → Prop} (hQ0 : ∀ c a w, ¬ Q (.panic c) a w) (hs : Region.noSelect ops = true) : ∀ (f : Nat) (listed : Array Bool) (π : PT) (a : Act) (w : World), Shut ops listed → treeGo ops cls f listed = some π → wpSqT P ops cls Q π a w → wpM P ops (fun i => cls.getD i 0) Q f listed a w
  | 0, listed, π, a, w, hS, h, hw => by
    rw [treeGo] at h
    split at h
    · rename_i he
      cases h
      exact ⟨by simpa using he, hw⟩
    · cases h
  | f + 1, listed, π, a, w, hS, h, hw => by
    rw [treeGo] at h
    split at h
    · rename_i i hi
      rw [Option.map_eq_some_iff] at h
      obtain ⟨π', hπ, rfl⟩ := h
      have hm := List.mem_of_find?_eq_some hi
      have hok := List.find?_some hi
      by_cases hc6 : cls.getD i 0 = 6
      · rw [okFirst, if_pos hc6] at hok
        simp only [Bool.and_eq_true, Bool.or_eq_true, decide_eq_true_eq, List.all_eq_true, List.mem_range] at hok
        obtain ⟨hf, hd⟩ := hok
        rw [wpSqT, if_neg (by omega), if_neg (by omega), if_neg (by omega), if_pos hc6] at hw
        obtain ⟨o, ho, V, hne, hy, hk⟩ := hw
        refine M_first6 hne ho (Region.noSelect_spec hs) hc6 f listed a w hS (Region.free_spec ho hf) hm hy (fun e e0 e1 e2 e3 hlt hun => ?_) fun v hv => M_of_sqT hQ0 hs f _ π' _ w (hS.set hm) hπ (hk v hv)
        rcases hd e hlt with ((((h1 | h1) | h1) | h1) | h1) | h1
        · exact absurd h1 e0
        · exact absurd h1 e1
        · exact absurd h1 e2
        · exact absurd h1 e3
        · rw [hun] at h1; cases h1
        · exact h1
      rw [okFirst, if_neg hc6] at hok
      simp only [Bool.and_eq_true, Bool.or_eq_true, decide_eq_true_eq, List.all_eq_true, List.mem_range] at hok
      obtain ⟨⟨hc, hf⟩, hd⟩ := hok
      rw [wpSqT, if_neg (by omega), if_neg (by omega), if_neg (by omega), if_neg hc6] at hw
      obtain ⟨o, ho, v, hy, hY, hk⟩ := hw
      refine M_first hQ0 ho (Region.noSelect_spec hs) (show cls.getD i 0 ≠ 0 ∧ cls.getD i 0 ≠ 3 ∧ cls.getD i 0 ≠ 4 ∧ cls.getD i 0 ≠ 6 by omega) f listed a w hS (Region.free_spec ho hf) hm hy ?_ (M_of_sqT hQ0 hs f _ π' _ w (hS.set hm) hπ hk)
      rcases hd with hd | hd
      · exact .inr (hY hd)
      · refine .inl fun e he hlt hun => ?_
        rcases hd e hlt with (h1 | h1) | h1
        · omega
        · rw [hun] at h1; cases h1
        · exact h1
    · split at h
      case isFalse => cases h
      rename_i hnf hlen
      refine ⟨fun h0 => ?_, fun j hj => ?_⟩
      · rw [h0] at h
        cases h
      · obtain ⟨tj, htj, hw⟩ := altAll_mem _ h hw j hj
        rw [Option.map_eq_some_iff] at htj
        obtain ⟨π', hπ, rfl⟩ := htj
        rw [wpSqT] at hw
        split at hw
        · rename_i hc
          rw [if_pos hc]
          exact wpOp_mono (fun a' w' h' => M_of_sqT hQ0 hs f _ π' a' w' (hS.set hj) hπ h') hw
        · rename_i hc
          rw [if_neg hc]
          split at hw
          · rename_i hc3
            rw [if_pos hc3]
            obtain ⟨o, ho, v, w', hy, hk'⟩ := hw
            exact ⟨o, ho, v, w', hy, M_of_sqT hQ0 hs f _ π' _ w' (hS.set hj) hπ hk'⟩
          · rename_i hc3
            rw [if_neg hc3]
            split at hw
            · rename_i hc4
              rw [if_pos hc4]
              exact wpOp_mono (fun a' w' h' => ⟨h'.1, M_of_sqT hQ0 hs f _ π' a' w' (hS.set hj) hπ h'.2⟩) hw
            · rename_i hc4
              rw [if_neg hc4]
              split at hw
              · rename_i hc6
                rw [if_pos hc6]
                obtain ⟨o, ho, V, hne, hy, hk'⟩ := hw
                exact ⟨o, ho, V, hne, hy, fun v hv => M_of_sqT hQ0 hs f _ π' _ w (hS.set hj) hπ (hk' v hv)⟩
              rename_i hc6
              rw [if_neg hc6]
              obtain ⟨o, ho, v, hy, hY, hk'⟩ := hw
              exact ⟨o, ho, v, hy, M_of_sqT hQ0 hs f _ π' _ w (hS.set hj) hπ hk'⟩
theorem wp_region_T {cls : List Nat} {π : PT} {id : Nat} {Q : Exit → Act → World → Prop} {a : Act} {w : World} (hm : P.follows .mixedOrders = true) (hs : Region.noSelect ops = true) (hπ : treeGo ops cls ops.size (Array.replicate ops.size false) = some π)
    (h : wpSqT P ops cls (fun ex a w => ex = .normal ∧ Q .normal a w) π a { w with drawn := w.drawn + 1 }) : (Code.region id ops true).wp P Q a w := by
  have h1 : (Code.region id ops true).wp P (fun ex a w => ex = .normal ∧ Q .normal a w) a w := wp_region_any hm (wpAny_of_M _ _ _ _ (M_of_sqT (fun c a w h => (by cases h.1)) hs _ _ _ _ _ ⟨by simp, fun j o ho hl => (by rw [getD_replicate_false] at hl; cases hl)⟩ hπ h))
  exact Code.wp_mono (fun e a w he => by obtain ⟨rfl, h⟩ := he; exact h) h1
end
end Go.Proofs.Ythkjiclplecljaa.Sym

/- Operations that do not look at memory yield the same in every world; regions in an order in which they may be taken. -/
namespace Go.Proofs.Ythkjiclplecljaa.Sym
open Go
set_option linter.unusedVariables false
set_option linter.unusedSimpArgs false

def YieldsP (P : Program) (Im : Imm) (ρ : List Loc) (o : Oper) (act : Act) (r : AV) : Prop := ∃ y, VR Im ρ r y ∧ ∀ w', (execOp act.eval o).run P w' = .ok (.value y) w'
theorem aqp_ok {P : Program} {o : Oper} {ao : AO} (hc : compOp P o = some ao) (hp : clsOf ao = 2) {Im : Imm} {ρ : List Loc} {Ω : List Obj} {w : World} (hR : Rel Im ρ Ω w) {e : Env} {act : Act} (hE : EnvOK Im ρ e act) {r : AV} (h : aq e Ω ao = some r) : YieldsP P Im ρ o act r := by
  have val' : ∀ (s : Sem Value), execOp act.eval o = (do pure (.value (← s)) : Sem Next) → (∃ y, VR Im ρ r y ∧ ∀ w', s.run P w' = .ok y w') → YieldsP P Im ρ o act r := fun s hs ⟨y, hy, hr⟩ => ⟨y, hy, fun w' => by rw [hs]; exact do_value (hr w')⟩
  have hc0 := hc
  cases ho : o.op with
  | move x =>
    simp only [compOp, ho, Option.map_eq_some_iff] at hc
    obtain ⟨ax, hx, rfl⟩ := hc
    exact ⟨_, ev_ok hE hx h, fun w' => by simp [execOp, ho]⟩
  | assign x =>
    simp only [compOp, ho, Option.map_eq_some_iff] at hc
    obtain ⟨ax, hx, rfl⟩ := hc
    exact ⟨_, ev_ok hE hx h, fun w' => by simp [execOp, ho]⟩
  | pick c a b =>
    simp only [compOp, ho, Option.bind_eq_some_iff] at hc
    obtain ⟨xc, h1, xa, h2, xb, h3, hc⟩ := hc
    cases hc
    simp only [aq, Option.bind_eq_some_iff] at h
    obtain ⟨vc, e1, va, e2, vb, e3, h⟩ := h
    obtain ⟨y, hy, hr⟩ := aPick_ok (P := P) h (ev_ok hE h1 e1) (ev_ok hE h2 e2) (ev_ok hE h3 e3)
    exact ⟨y, hy, fun w' => by simp only [execOp, ho]; exact hr w'⟩
  | binOp op t x y t' =>
    simp only [compOp, ho, Option.bind_eq_some_iff] at hc
    obtain ⟨ax, h1, ay, h2, d, hd, hc⟩ := hc
    have hex : execOp act.eval o = (do pure (.value (← (do eqGuard op t x y (act.eval x) (act.eval y); binOp op t (act.eval x) (act.eval y) : Sem Value))) : Sem Next) := by simp only [execOp, ho]
    refine val' _ hex ?_
    have boolRes : ∀ b, r = .v (.bool b) → (∀ w', (do eqGuard op t x y (act.eval x) (act.eval y); binOp op t (act.eval x) (act.eval y) : Sem Value).run P w' = .ok (.bool b) w') → ∃ y_1, VR Im ρ r y_1 ∧ ∀ w', (do eqGuard op t x y (act.eval x) (act.eval y); binOp op t (act.eval x) (act.eval y) : Sem Value).run P w' = .ok y_1 w' := fun b hb hw => ⟨_, hb ▸ .v rfl, hw⟩
    split at hc
    · cases hc
      simp only [aq, Option.bind_eq_some_iff] at h
      obtain ⟨vx, e1, vy, e2, h⟩ := h
      exact aBin_ok h t (ev_ok hE h1 e1) (ev_ok hE h2 e2) x y
    · cases hc
      simp only [aq, Option.bind_eq_some_iff] at h
      obtain ⟨vx, e1, vy, e2, h⟩ := h
      exact aBin_ok h t (ev_ok hE h1 e1) (ev_ok hE h2 e2) x y
    · split at hc
      · rename_i hop
        cases hc
        simp only [aq, Option.bind_eq_some_iff, Option.map_eq_some_iff] at h
        obtain ⟨vx, e1, vy, e2, b, hb, rfl⟩ := h
        exact boolRes _ rfl fun w' => aEqB_ok hop hb hd (ev_ok hE h1 e1) (ev_ok hE h2 e2) x y w'
      · cases hc
    · split at hc
      · rename_i hop
        cases hc
        simp only [aq, Option.bind_eq_some_iff, Option.map_eq_some_iff] at h
        obtain ⟨vx, e1, vy, e2, b, hb, rfl⟩ := h
        exact boolRes _ rfl fun w' => aEqP_ok hop hb hd (ev_ok hE h1 e1) (ev_ok hE h2 e2) x y w'
      · cases hc
    · split at hc
      · rename_i hop
        cases hc
        simp only [aq, Option.bind_eq_some_iff, Option.map_eq_some_iff] at h
        obtain ⟨vx, e1, vy, e2, b, hb, rfl⟩ := h
        exact boolRes _ rfl fun w' => aEqS_ok hop hb hd (ev_ok hE h1 e1) (ev_ok hE h2 e2) x y w'
      · cases hc
    · split at hc
      · rename_i hop
        simp only [Bool.and_eq_true, Bool.not_eq_true'] at hop
        simp only [Option.bind_eq_some_iff] at hc
        obtain ⟨ls, hls, hc⟩ := hc
        cases hc
        simp only [aq, Option.bind_eq_some_iff] at h
        obtain ⟨vx, e1, vy, e2, h⟩ := h
        split at h
        · simp only [Option.map_eq_some_iff] at h
          obtain ⟨b, hb, rfl⟩ := h
          exact boolRes _ rfl fun w' => eqst_ok hop.1 (by simp [isAggT, hd]) hop.2 hls hb (ev_ok hE h1 e1) (ev_ok hE h2 e2) x y w'
        · cases h
      · cases hc
    · split at hc
      · rename_i hop
        simp only [Bool.and_eq_true, Bool.not_eq_true'] at hop
        simp only [Option.bind_eq_some_iff] at hc
        obtain ⟨ls, hls, hc⟩ := hc
        cases hc
        simp only [aq, Option.bind_eq_some_iff] at h
        obtain ⟨vx, e1, vy, e2, h⟩ := h
        split at h
        · simp only [Option.map_eq_some_iff] at h
          obtain ⟨b, hb, rfl⟩ := h
          exact boolRes _ rfl fun w' => eqst_ok hop.1 (by simp [isAggT, hd]) hop.2 hls hb (ev_ok hE h1 e1) (ev_ok hE h2 e2) x y w'
        · cases h
      · cases hc
    · cases hc
  | unOp op t x =>
    simp only [compOp, ho, Option.map_eq_some_iff] at hc
    obtain ⟨ax, hx, rfl⟩ := hc
    simp only [aq, Option.bind_eq_some_iff] at h
    obtain ⟨vx, e1, h⟩ := h
    exact val' _ (by simp only [execOp, ho]) (aUn_ok h (ev_ok hE hx e1))
  | load t x =>
    simp only [compOp, ho, Option.bind_eq_some_iff] at hc
    obtain ⟨m, hm, ax, hx, hc⟩ := hc
    cases hc
    cases hp
  | field t x f =>
    simp only [compOp, ho, Option.bind_eq_some_iff] at hc
    obtain ⟨d, hd, hc⟩ := hc
    split at hc
    · rename_i fs
      simp only [Option.bind_eq_some_iff] at hc
      obtain ⟨fd, hf, m, hm, ax, hx, hc⟩ := hc
      cases hc
      simp only [aq, Option.bind_eq_some_iff] at h
      obtain ⟨vx, e1, h⟩ := h
      obtain ⟨cs, hcs, y, hy, hr⟩ := aField_ok (P := P) hm h (ev_ok hE hx e1)
      exact val' (Instr.field t (act.eval x) f) (by simp only [execOp, ho]) ⟨y, hy, fun w' => by simp [Instr.field, run_underlying hd, hf, hcs, asAgg, hr]⟩
    · cases hc
  | fieldAddr t x f =>
    simp only [compOp, ho, Option.bind_eq_some_iff] at hc
    obtain ⟨d, hd, hc⟩ := hc
    split at hc
    · rename_i fs
      simp only [Option.bind_eq_some_iff] at hc
      obtain ⟨fd, hf, n, hn, hc⟩ := hc
      split at hc
      · cases hc
      · rename_i hn0
        simp only [Option.bind_eq_some_iff] at hc
        obtain ⟨ax, hx, hc⟩ := hc
        cases hc
        simp only [aq, Option.bind_eq_some_iff] at h
        obtain ⟨vx, e1, h⟩ := h
        obtain ⟨b, off, hp, hr⟩ := aFad_ok h (ev_ok hE hx e1)
        exact val' (Instr.fieldAt t (act.eval x) f) (by simp only [execOp, ho]) ⟨_, hr, fun w' => by simp [Instr.fieldAt, run_underlying hd, hf, hp, Instr.sureAddr, fieldPlace, run_sizeOf' hn, hn0, add_at]⟩
    · cases hc
  | nilCheck x =>
    simp only [compOp, ho, Option.map_eq_some_iff] at hc
    obtain ⟨ax, hx, rfl⟩ := hc
    simp only [aq, Option.bind_eq_some_iff] at h
    obtain ⟨vx, e1, h⟩ := h
    obtain ⟨hv, a, ha⟩ := aNilck_ok (P := P) h (ev_ok hE hx e1)
    exact ⟨_, hv, fun w' => by simp only [execOp, ho, ha]; rfl⟩
  | indexAddr t x i =>
    simp only [compOp, ho, Option.bind_eq_some_iff] at hc
    obtain ⟨ax, hx, ai, hi, d, hd, hc⟩ := hc
    split at hc
    · simp only [Option.bind_eq_some_iff] at hc
      obtain ⟨n, hn, hc⟩ := hc
      cases hc
      simp only [aq, Option.bind_eq_some_iff] at h
      obtain ⟨vx, e1, vi, e2, h⟩ := h
      exact val' _ (by simp only [execOp, ho]) (aIxS_ok hd hn h (ev_ok hE hx e1) (ev_ok hE hi e2))
    · simp only [Option.bind_eq_some_iff] at hc
      obtain ⟨n, hn, hc⟩ := hc
      cases hc
      simp only [aq, Option.bind_eq_some_iff] at h
      obtain ⟨vx, e1, vi, e2, h⟩ := h
      exact val' _ (by simp only [execOp, ho]) (aIxA_ok hd hn h (ev_ok hE hx e1) (ev_ok hE hi e2))
    · cases hc
  | index t x i =>
    simp only [compOp, ho, Option.bind_eq_some_iff] at hc
    obtain ⟨ax, hx, ai, hi, d, hd, hc⟩ := hc
    split at hc
    · cases hc
      simp only [aq, Option.bind_eq_some_iff] at h
      obtain ⟨vx, e1, vi, e2, h⟩ := h
      exact val' _ (by simp only [execOp, ho]) (aIxStr_ok hd h (ev_ok hE hx e1) (ev_ok hE hi e2))
    · simp only [Option.bind_eq_some_iff] at hc
      obtain ⟨n, hn, m, hm, hc⟩ := hc
      cases hc
      simp only [aq, Option.bind_eq_some_iff] at h
      obtain ⟨vx, e1, vi, e2, h⟩ := h
      exact val' _ (by simp only [execOp, ho]) (aIxV_ok hd hn hm h (ev_ok hE hx e1) (ev_ok hE hi e2))
    · cases hc
  | extract x i =>
    simp only [compOp, ho, Option.map_eq_some_iff] at hc
    obtain ⟨ax, hx, rfl⟩ := hc
    simp only [aq, Option.bind_eq_some_iff] at h
    obtain ⟨vx, e1, h⟩ := h
    exact val' _ (by simp only [execOp, ho]) (aExt_ok h (ev_ok hE hx e1))
  | convert s d x =>
    simp only [compOp, ho, Option.bind_eq_some_iff] at hc
    obtain ⟨ax, hx, su, hs, du, hd, hc⟩ := hc
    split at hc
    · cases hc
      simp only [aq, Option.bind_eq_some_iff] at h
      obtain ⟨vx, e1, h⟩ := h
      exact val' _ (by simp only [execOp, ho]) (aCvi_ok hs hd h (ev_ok hE hx e1))
    · cases hc
      simp only [aq, Option.bind_eq_some_iff] at h
      obtain ⟨vx, e1, h⟩ := h
      exact val' _ (by simp only [execOp, ho]) (aCvs_ok hs hd h (ev_ok hE hx e1))
    · split at hc
      · cases hc
        simp [aq] at h
      · cases hc
    · split at hc
      · rename_i he
        cases hc
        cases hp
      · cases hc
    · cases hc
  | slice t x lo hi mx =>
    simp only [compOp, ho, Option.bind_eq_some_iff] at hc
    obtain ⟨ax, hx, al, hl, ah, hh, am, hm, d, hd, hc⟩ := hc
    split at hc
    · split at hc
      · rename_i hmn
        cases hc
        simp only [aq, Option.bind_eq_some_iff] at h
        obtain ⟨vx, e1, vl, e2, vh, e3, h⟩ := h
        have hmx : mx = none := by
          cases mx with
          | none => rfl
          | some m => simp only [cxo, Option.map_eq_some_iff] at hm; obtain ⟨z, _, rfl⟩ := hm; simp at hmn
        subst hmx
        exact val' _ (by simp only [execOp, ho]; rfl) (aSlStr_ok hd h (ev_ok hE hx e1) (evO_ok hE hl e2) (evO_ok hE hh e3))
      · cases hc
    · simp only [Option.bind_eq_some_iff] at hc
      obtain ⟨n, hn, hc⟩ := hc
      split at hc
      · cases hc
      · rename_i hb
        cases hc
        simp only [aq, Option.bind_eq_some_iff] at h
        obtain ⟨vx, e1, vl, e2, vh, e3, vm, e4, h⟩ := h
        exact val' _ (by simp only [execOp, ho]) (aSlS_ok hd hn hR (bnd_mx (Im := Im) (ρ := ρ) hm e4 hh e3 hb) h (ev_ok hE hx e1) (evO_ok hE hl e2) (evO_ok hE hh e3) (evO_ok hE hm e4))
    · cases hc
  | build t parts => exact val' _ (by simp only [execOp, ho]) (build_ok ho hc0 hE h)
  | call c =>
    simp only [compOp, ho, Option.bind_eq_some_iff] at hc
    obtain ⟨xs, hxs, hc⟩ := hc
    split at hc
    · simp only [Option.bind_eq_some_iff] at hc
      obtain ⟨f, hf, hc⟩ := hc
      cases hc
      simp [aq] at h
    · cases hc
    · rename_i bi hcal
      have hargs : (c.args.map act.eval).toList = c.args.toList.map act.eval := Array.toList_map
      have hex : ∀ b, bi = b → execOp act.eval o = builtin b c.argTypes o.type (c.args.map fun | .const _ => true | _ => false) (c.args.map act.eval) := fun b hb => by subst hb; simp only [execOp, ho, resolve, hcal, invoke, pure_bind]; rfl
      split at hc
      · rename_i t ts x hts
        have ht0 : c.argTypes[0]? = some t := by rw [← Array.getElem?_toList, hts]; rfl
        simp only [Option.bind_eq_some_iff] at hc
        obtain ⟨d, hd, hc⟩ := hc
        have hone : ∃ u, c.args.map act.eval = #[u] ∧ ∀ a, ev e x = some a → VR Im ρ a u := by
          cases ha : c.args.toList with
          | nil => rw [ha] at hxs; cases hxs
          | cons p ps =>
            rw [ha] at hxs
            simp only [cxs, Option.bind_eq_some_iff] at hxs
            obtain ⟨b, hb, bs, hbs, hxs⟩ := hxs
            injection hxs with hxs
            injection hxs with e1 e2
            subst e1 e2
            cases ps with
            | nil =>
              refine ⟨act.eval p, ?_, fun a hea => ev_ok hE hb hea⟩
              apply Array.ext'
              rw [Array.toList_map, ha]
              rfl
            | cons q qs =>
              simp only [cxs, Option.bind_eq_some_iff] at hbs
              obtain ⟨_, _, _, _, hbs⟩ := hbs
              cases hbs
        obtain ⟨u, hu, hv⟩ := hone
        split at hc
        · cases hc
          simp only [aq, Option.bind_eq_some_iff] at h
          obtain ⟨vx, e1, h⟩ := h
          obtain ⟨y, hy, hr⟩ := aLenS_ok (P := P) (ty := o.type) ht0 hd h (hv _ e1)
          exact ⟨y, hy, fun w' => by rw [hex _ rfl, hu]; exact do_value (hr w')⟩
        · cases hc
          simp only [aq, Option.bind_eq_some_iff] at h
          obtain ⟨vx, e1, h⟩ := h
          obtain ⟨y, hy, hr⟩ := aLen_ok (P := P) (ty := o.type) ht0 hd h (hv _ e1)
          exact ⟨y, hy, fun w' => by rw [hex _ rfl, hu]; exact do_value (hr w')⟩
        · cases hc
      · cases hc
        simp only [aq, Option.bind_eq_some_iff] at h
        obtain ⟨l, hl, h⟩ := h
        have hvs := evs_ok hE _ _ _ hxs hl
        obtain ⟨a, as, rfl, h⟩ := aFold_cons h
        rw [← hargs] at hvs
        cases hm : (c.args.map act.eval).toList with
        | nil => rw [hm] at hvs; exact hvs.elim
        | cons v vs =>
          rw [hm] at hvs
          obtain ⟨y, hy, hr⟩ := aFold_ok (P := P) (fun a b r u v => aMin2_ok) as a v vs r h hvs.1 hvs.2
          have he : c.args.map act.eval = (v :: vs).toArray := Array.ext' hm
          exact ⟨y, hy, fun w' => by rw [hex _ rfl, he]; exact do_value (run_min (hr w'))⟩
      · cases hc
        simp only [aq, Option.bind_eq_some_iff] at h
        obtain ⟨l, hl, h⟩ := h
        have hvs := evs_ok hE _ _ _ hxs hl
        obtain ⟨a, as, rfl, h⟩ := aFold_cons h
        rw [← hargs] at hvs
        cases hm : (c.args.map act.eval).toList with
        | nil => rw [hm] at hvs; exact hvs.elim
        | cons v vs =>
          rw [hm] at hvs
          obtain ⟨y, hy, hr⟩ := aFold_ok (P := P) (fun a b r u v => aMax2_ok) as a v vs r h hvs.1 hvs.2
          have he : c.args.map act.eval = (v :: vs).toArray := Array.ext' hm
          exact ⟨y, hy, fun w' => by rw [hex _ rfl, he]; exact do_value (run_max (hr w'))⟩
      · simp only [Option.bind_eq_some_iff] at hc
        obtain ⟨d, hd, hc⟩ := hc
        split at hc
        · simp only [Option.bind_eq_some_iff] at hc
          obtain ⟨i, hi, z, hz, u, hu, hc⟩ := hc
          split at hc
          · cases hc
            simp [aq] at h
          · cases hc
        · cases hc
      · simp only [Option.bind_eq_some_iff] at hc
        obtain ⟨d, hd, hc⟩ := hc
        split at hc
        · simp only [Option.bind_eq_some_iff] at hc
          obtain ⟨i, hi, hc⟩ := hc
          cases hc
          simp [aq] at h
        · cases hc
      · simp only [Option.bind_eq_some_iff] at hc
        obtain ⟨d, hd, hc⟩ := hc
        split at hc
        · simp only [Option.bind_eq_some_iff] at hc
          obtain ⟨n, hn, z, hz, hc⟩ := hc
          split at hc
          · cases hc
            simp [aq] at h
          · cases hc
        · cases hc
      · cases hc
  | makeFunc f first captured =>
    simp only [compOp, ho] at hc
    split at hc
    case h_2 => cases hc
    rename_i g
    split at hc
    case isFalse => cases hc
    rename_i hfirst
    simp only [Option.map_eq_some_iff] at hc
    obtain ⟨xs, hxs, rfl⟩ := hc
    simp only [aq, Option.bind_eq_some_iff] at h
    obtain ⟨l, hl, h⟩ := h
    split at h
    case isFalse => cases h
    cases h
    have hvs := evs_ok hE _ _ _ hxs hl
    have hf0 : first = #[] := by simpa using hfirst
    refine ⟨.func (.func g) #[] (captured.map act.eval), ?_, fun w' => by simp [execOp, ho, Instr.makeFunc, hf0]⟩
    have hcv := vrs_cv hvs
    obtain ⟨h1, f, h2, h3⟩ := hcv
    have ha : (captured.toList.map act.eval).toArray = captured.map act.eval := by apply Array.ext'; simp
    rw [ha] at h1 h2
    exact .fn _ f h1 h2 h3
  | store t a x =>
    simp only [compOp, ho, Option.bind_eq_some_iff] at hc
    obtain ⟨n, hn, ax, hx, ay, hy, hc⟩ := hc
    cases hc
    simp [aq] at h
  | box t x =>
    simp only [compOp, ho, Option.map_eq_some_iff] at hc
    obtain ⟨ax, hx, rfl⟩ := hc
    simp [aq] at h
  | alloc t =>
    simp only [compOp, ho, Option.map_eq_some_iff] at hc
    obtain ⟨z, hz, rfl⟩ := hc
    simp [aq] at h
  | buildSlice t len parts =>
    simp only [compOp, ho, Option.bind_eq_some_iff] at hc
    obtain ⟨d, hd, hc⟩ := hc
    split at hc
    · simp only [Option.bind_eq_some_iff] at hc
      obtain ⟨n, hn, z, hz, hc⟩ := hc
      split at hc
      · simp only [Option.bind_eq_some_iff] at hc
        obtain ⟨ps, hps, hc⟩ := hc
        cases hc
        simp [aq] at h
      · cases hc
    · cases hc
  | makeSlice t l c =>
    simp only [compOp, ho, Option.bind_eq_some_iff] at hc
    obtain ⟨al, hl, ac, hcc, d, hd, hc⟩ := hc
    split at hc
    · simp only [Option.bind_eq_some_iff] at hc
      obtain ⟨i, hi, z, hz, hc⟩ := hc
      split at hc
      · cases hc; simp [aq] at h
      · cases hc
    · cases hc
  | _ => simp [compOp, ho] at hc

theorem compOps_get {P : Program} {N : Nat} {ops : Array Oper} : ∀ (L : List Oper) (l : List AOper) (i : Nat) (o : AOper), compOps P N ops L = some l → l[i]? = some o → ∃ p, L[i]? = some p ∧ compOp P p = some o.op ∧ compG ops p.guard = some o.g ∧ o.dst = p.dst ∧ p.dst.all (fun d => decide (d < N)) = true
  | [], l, i, o, h, hi => by cases h; simp at hi
  | p :: L, l, i, o, h, hi => by
    simp only [compOps, Option.bind_eq_some_iff] at h
    obtain ⟨ao, hao, g, hg, l', hl', h⟩ := h
    split at h
    case isFalse => cases h
    rename_i hd
    cases h
    cases i with
    | zero => simp at hi; subst hi; exact ⟨p, rfl, hao, hg, rfl, hd⟩
    | succ i => simpa using compOps_get L l' i o hl' (by simpa using hi)
theorem call_quiet {P : Program} {C : CT} (hC : CallsOK P C) {o : Oper} {fx : AX} {xs : List AX} (hc : compOp P o = some (.call fx xs)) {Im : Imm} {ρ : List Loc} {Ω : List Obj} {w : World} (hR : Rel Im ρ Ω w) {e : Env} {act : Act} (hE : EnvOK Im ρ e act) {a : AV} {Ω' : List Obj} {d : Nat} (h : (ev e fx).bind (fun f => (evs e xs).bind fun as => aCallM C Ω f as) = some (a, Ω', d)) {next : Act → World → Prop} {Q : Exit → Act → World → Prop}
    (hn : ∀ y Im' ρ' w', VR Im' ρ' a y → Ev1 Im ρ Ω w Im' ρ' Ω' w' d → Fr w w' (fun _ => False) → next (act.put o.dst y) w') : o.wp P act w next Q := by
  obtain ⟨c, ho⟩ := comp_call hc
  simp only [compOp, ho, Option.bind_eq_some_iff] at hc
  obtain ⟨xs', hxs, hc⟩ := hc
  split at hc
  · rename_i f hcal
    simp only [Option.bind_eq_some_iff] at hc
    obtain ⟨fx', hf, hc⟩ := hc
    cases hc
    simp only [Option.bind_eq_some_iff] at h
    obtain ⟨fv, hfv, as, has, h⟩ := h
    unfold aCallM at h
    split at h
    · rename_i g caps
      split at h
      · rename_i hok
        simp only [Option.bind_eq_some_iff] at h
        obtain ⟨ord, hord, r, hr, h⟩ := h
        split at h
        case isFalse => cases h
        rename_i hrd
        obtain ⟨arr, harr, hcaps⟩ := fnAt (ev_ok hE hf hfv)
        have hargs := evs_ok hE _ _ _ hxs has
        obtain ⟨hcl, hnl, hfn, hcalls⟩ := call_ok hC hR (hargs.append hcaps) hok hord hr
        have hrun := call_run ho hcal harr hfn w
        rw [Array.toList_map] at hrun
        unfold Oper.wp
        rw [hrun]
        refine hcalls.mono ?_
        rintro en w' ⟨x, Im', ρ', rfl, hb⟩
        obtain ⟨ρ2, hv, hst, hstill, hlvl⟩ := finish_ok hR hcl hnl hb h
        exact hn x Im' ρ2 w' hv ⟨hst, fun b hb' hlt => hb.imn b hb' hlt, hstill, hlvl⟩ (Back.quiet hR hb hrd).2
      · cases h
    · cases h
  · cases hc
  · exfalso
    repeat' (first | (cases hc; done) | (split at hc) | (rw [Option.bind_eq_some_iff] at hc; obtain ⟨_, _, hc⟩ := hc))
theorem clsV_four {hv : List Nat} {ao : AO} (h : clsV hv ao = 4) : ∃ f xs, ao = .call f xs := by
  unfold clsV at h
  split at h
  · exact ⟨_, _, rfl⟩
  · have : clsOf ao ≤ 3 := by cases ao <;> simp [clsOf]
    omega
theorem clsV_six {hv : List Nat} {ao : AO} (h : clsV hv ao = 6) : ∃ f xs, ao = .call f xs := by
  unfold clsV at h
  split at h
  · exact ⟨_, _, rfl⟩
  · have : clsOf ao ≤ 3 := by cases ao <;> simp [clsOf]
    omega
theorem clsV_other {hv : List Nat} {ao : AO} (h : clsV hv ao ≠ 4) (h' : clsV hv ao ≠ 5) (h6 : clsV hv ao ≠ 6) : clsV hv ao = clsOf ao := by
  unfold clsV at h h' h6 ⊢
  split at h
  · rename_i f c xs
    split at h
    · rename_i hh; rw [if_pos hh]; rfl
    · rename_i hh
      split at h
      · rename_i hh2
        simp only [hh, hh2, if_true] at h'
        exact absurd rfl h'
      · rename_i hh2
        split at h
        · rename_i hh3
          simp only [hh, hh2, hh3, if_true] at h6
          exact absurd rfl h6
        · exact absurd rfl h
  · rfl
theorem callF_ok {P : Program} {C : CT} (hC : CallsOK P C) {o : Oper} {fx : AX} {xs : List AX} (hc : compOp P o = some (.call fx xs)) {Im : Imm} {ρ : List Loc} {Ω : List Obj} {w : World} (hR : Rel Im ρ Ω w) {e : Env} {act : Act} (hE : EnvOK Im ρ e act) {a : AV} (h : (ev e fx).bind (fun f => (evs e xs).bind fun as => aCallF C Ω f as) = some a) :
    (∃ y, VR Im ρ a y) ∧ ∀ w1, SameK Im ρ Ω w w1 → ∃ g args, (execOp act.eval o).run P w1 = .ok (.enter g args) w1 ∧ Calls P g args w1 fun en w2 => ∃ y, en = .returned y ∧ VR Im ρ a y ∧ w2 = w1 := by
  obtain ⟨c, ho⟩ := comp_call hc
  simp only [compOp, ho, Option.bind_eq_some_iff] at hc
  obtain ⟨xs', hxs, hc⟩ := hc
  split at hc
  · rename_i f hcal
    simp only [Option.bind_eq_some_iff] at hc
    obtain ⟨fx', hf, hc⟩ := hc
    cases hc
    simp only [Option.bind_eq_some_iff] at h
    obtain ⟨fv, hfv, as, has, h⟩ := h
    unfold aCallF at h
    split at h
    case h_2 => cases h
    rename_i g caps
    split at h
    case isFalse => cases h
    rename_i hok
    simp only [Option.bind_eq_some_iff] at h
    obtain ⟨ord, hord, r, hr, h⟩ := h
    split at h
    case isFalse => cases h
    rename_i hq
    cases h
    obtain ⟨arr, harr, hcaps⟩ := fnAt (ev_ok hE hf hfv)
    have hargs := evs_ok hE _ _ _ hxs has
    have key : ∀ w1, SameK Im ρ Ω w w1 → ∃ g args, (execOp act.eval o).run P w1 = .ok (.enter g args) w1 ∧ Calls P g args w1 fun en w2 => ∃ y, en = .returned y ∧ VR Im ρ r.val y ∧ w2 = w1 := fun w1 hf1 => by
      have hR1 := hR.sameK hf1
      obtain ⟨hcl, hnl, hfn, hcalls⟩ := call_ok hC hR1 (hargs.append hcaps) hok hord hr
      have hrun := call_run ho hcal harr hfn w1
      rw [Array.toList_map] at hrun
      refine ⟨_, _, hrun, hcalls.mono ?_⟩
      rintro en w' ⟨x, Im', ρ', rfl, hb⟩
      have hst := hb.still hq.1
      subst hst
      have hle : ImLe Im' Im := fun b arr hb' => by
        obtain ⟨T, fz, hh⟩ := hb.rel.im b arr hb'
        have hlt := (Array.getElem?_eq_some_iff.1 hh).1
        cases hi : Im b with
        | none => rw [hb.imn b hi hlt] at hb'; cases hb'
        | some arr' =>
          have := hb.im b arr' hi
          rw [hb'] at this
          exact congrArg some (Option.some.inj this).symm
      exact ⟨x, rfl, (hb.val.mono hle _ (RhoLe.refl _)).flat hq.2, rfl⟩
    refine ⟨?_, key⟩
    obtain ⟨g', args', _, hcalls⟩ := key w (SameK.refl _ _ _ _)
    obtain ⟨e', w', fr, hpost, _⟩ := hcalls []
    obtain ⟨y, _, hy, _⟩ := hpost
    exact ⟨y, hy⟩
  · cases hc
  · exfalso
    repeat' (first | (cases hc; done) | (split at hc) | (rw [Option.bind_eq_some_iff] at hc; obtain ⟨_, _, hc⟩ := hc))
theorem sq_ok {P : Program} {C : CT} (hC : CallsOK P C) {hv : List Nat} {ops : Array Oper} {B : Base} {l : List AOper} (hl : compOps P B.N ops ops.toList = some l) {Q : Exit → Act → World → Prop} : ∀ (π : List Nat) (s s' : St) (Im : Imm) (ρ : List Loc) (act : Act) (w : World), π.all (fun i => decide (i < l.length)) = true → aopsM C (π.map fun i => (qk (clsV hv (l.getD i ⟨none, none, .mv (.t 0)⟩).op), l.getD i ⟨none, none, .mv (.t 0)⟩)) s = some s' → Now B s Im ρ act w →
    (∀ Im' ρ' act' w', Now B s' Im' ρ' act' w' → Q .normal act' w') → wpSq P ops (l.map fun o => clsV hv o.op) Q π act w
  | [], s, s', Im, ρ, act, w, _, h, hN, hQ => by cases h; exact hQ _ _ _ _ hN
  | i :: π, s, s', Im, ρ, act, w, hπ, h, hN, hQ => by
    simp only [List.all_cons, Bool.and_eq_true, decide_eq_true_eq] at hπ
    have hli : l[i]? = some l[i] := List.getElem?_eq_getElem hπ.1
    obtain ⟨p, hp, hao, hg, hdst, hd⟩ := compOps_get _ _ i _ hl hli
    have hpo : ops[i]? = some p := by rw [← Array.getElem?_toList]; exact hp
    have hgd : l.getD i ⟨none, none, .mv (.t 0)⟩ = l[i] := by rw [List.getD_eq_getElem?_getD, hli]; rfl
    rw [List.map_cons, hgd] at h
    have hcl : (l.map fun o => clsV hv o.op).getD i 0 = clsV hv l[i].op := by rw [List.getD_eq_getElem?_getD, List.getElem?_map, hli]; rfl
    simp only [aopsM, Option.bind_eq_some_iff] at h
    obtain ⟨b, hb, h⟩ := h
    have hw := wants_ok hg hN.env hb
    rw [wpSq, hcl]
    by_cases hc4 : clsV hv l[i].op = 4
    · rw [if_neg (by omega), if_neg (by omega), if_pos hc4]
      rw [hc4, show qk 4 = .m from rfl] at h
      obtain ⟨fx, xs, hfx⟩ := clsV_four hc4
      unfold Go.wpOp
      simp only [hpo]
      cases b with
      | true =>
        simp only [if_true, Option.bind_eq_some_iff] at h
        obtain ⟨⟨a, Ω, d⟩, ha, h⟩ := h
        rw [if_pos hw]
        rw [hfx] at ha hao
        refine .inl (call_quiet hC hao hN.acc.rel hN.env ha fun y Im' ρ' w' hy hev hfr => ?_)
        have hN' := hN.put hd hy hev
        rw [hdst] at h
        exact ⟨⟨fun b hb => hfr.block b hb (fun h => h), hfr.size⟩, sq_ok hC hl π _ s' Im' ρ' _ w' hπ.2 h hN' hQ⟩
      | false =>
        simp only [Bool.false_eq_true, if_false] at h
        rw [if_neg (by rw [hw]; simp)]
        rw [hdst] at h
        exact ⟨⟨Same.refl _, Nat.le_refl _⟩, sq_ok hC hl π _ s' Im ρ _ w hπ.2 h (hN.skip hd) hQ⟩
    have same_up : ∀ w1, Same w w1 → SameK Im ρ s.ob w w1 := fun w1 h1 b hb => by
      refine h1 b ?_
      rcases hb with ⟨arr, ha⟩ | ⟨k, o, s1, s2, h1, h2, h3⟩
      · obtain ⟨T, fz, e⟩ := hN.acc.rel.im b arr ha
        exact (Array.getElem?_eq_some_iff.1 e).1
      · rcases hN.acc.rel.obj k o h1 h2 with ⟨b', base', s', arr, T, fz, e1, e2, _⟩ | ⟨e1, _⟩
        · rw [h3] at e1
          cases e1
          exact (Array.getElem?_eq_some_iff.1 e2).1
        · rw [h3] at e1
          cases e1
    by_cases hc6 : clsV hv l[i].op = 6
    · rw [hc6, show qk 6 = .f from rfl] at h
      rw [if_neg (by omega), if_neg (by omega), if_neg (by omega), if_pos hc6]
      obtain ⟨fx, xs, hfx⟩ := clsV_six hc6
      cases b with
      | true =>
        simp only [if_true, aopM, Option.bind_eq_some_iff] at h
        obtain ⟨⟨a, Ω, d⟩, ha, h⟩ := h
        rw [hfx] at ha hao
        simp only [Option.bind_eq_some_iff, Option.map_eq_some_iff] at ha
        obtain ⟨f, hf, as, has, a', ha, he⟩ := ha
        cases he
        obtain ⟨hne, hrun⟩ := callF_ok hC hao hN.acc.rel hN.env (by rw [hf, Option.bind_some, has, Option.bind_some]; exact ha)
        rw [hdst] at h
        refine ⟨p, hpo, fun y => VR Im ρ a y, hne, fun w1 h1 _ => .inl ⟨hw, hrun w1 (same_up w1 h1)⟩, fun y hy => ?_⟩
        exact sq_ok hC hl π _ s' Im ρ _ w hπ.2 h (hN.put hd hy (Ev1.refl hN.acc.rel)) hQ
      | false =>
        simp only [Bool.false_eq_true, if_false] at h
        rw [hdst] at h
        refine ⟨p, hpo, fun y => y = undef, ⟨undef, rfl⟩, fun w1 _ _ => .inr ⟨hw, rfl⟩, fun y hy => ?_⟩
        subst hy
        exact sq_ok hC hl π _ s' Im ρ _ w hπ.2 h (hN.skip hd) hQ
    by_cases hc5 : clsV hv l[i].op = 5
    · rw [hc5, show qk 5 = .s from rfl] at h
      rw [if_neg (by omega), if_neg (by omega), if_neg (by omega), if_neg hc6]
      refine ⟨p, hpo, ?_⟩
      have yk : ∀ v, YldUp P ops p v act w → YK P ops (clsV hv l[i].op) p v act w := fun v h => by unfold YK; rw [if_pos hc5]; exact h
      cases b with
      | true =>
        simp only [if_true, aopM, Option.bind_eq_some_iff, Option.map_eq_some_iff] at h
        obtain ⟨⟨a, Ω, d⟩, ⟨a', ha, he⟩, h⟩ := h
        cases he
        obtain ⟨y, hy, hrun⟩ := aopQ_okK hC hao hN.acc.rel hN.env (Nat.zero_le 1) ha
        rw [hdst] at h
        refine ⟨y, yk _ fun w1 h1 _ => ?_, fun h2 => absurd h2 (by omega), ?_⟩
        · rcases hrun w1 (same_up w1 h1) with hr | ⟨g', args, hr, hcalls⟩
          · exact .inl ⟨hw, hr⟩
          · exact .inr (.inr ⟨hw, g', args, hr, hcalls.mono fun e w2 hp => ⟨hp.1, hp.2.2 rfl⟩⟩)
        · exact sq_ok hC hl π _ s' Im ρ _ w hπ.2 h (hN.put hd hy (Ev1.refl hN.acc.rel)) hQ
      | false =>
        simp only [Bool.false_eq_true, if_false] at h
        rw [hdst] at h
        exact ⟨undef, yk _ fun _ _ _ => .inr (.inl ⟨hw, rfl⟩), fun _ => .inr ⟨hw, rfl⟩, sq_ok hC hl π _ s' Im ρ _ w hπ.2 h (hN.skip hd) hQ⟩
    have hq0 : qk (clsV hv l[i].op) = .o := by unfold qk; rw [if_neg hc4, if_neg hc5, if_neg hc6]
    rw [hq0] at h
    simp only [aopM] at h
    have hco := clsV_other hc4 hc5 hc6
    rw [hco] at hc4 hc5 hc6 ⊢
    have yk : ∀ v, YldVal P ops p v act w → YK P ops (clsOf l[i].op) p v act w := fun v h => by unfold YK; rw [if_neg hc5]; exact h
    by_cases hc0 : clsOf l[i].op = 0
    · rw [if_pos hc0]
      unfold Go.wpOp
      simp only [hpo]
      cases b with
      | true =>
        simp only [if_true, Option.bind_eq_some_iff] at h
        obtain ⟨⟨a, Ω, d⟩, ha, h⟩ := h
        rw [if_pos hw]
        refine .inl (op_wp hC hao hN.acc.rel hN.env ha fun y Im' ρ' w' hy hev => ?_)
        have hN' := hN.put hd hy hev
        rw [hdst] at h
        exact sq_ok hC hl π _ s' Im' ρ' _ w' hπ.2 h hN' hQ
      | false =>
        simp only [Bool.false_eq_true, if_false] at h
        rw [if_neg (by rw [hw]; simp)]
        rw [hdst] at h
        exact sq_ok hC hl π _ s' Im ρ _ w hπ.2 h (hN.skip hd) hQ
    · rw [if_neg hc0]
      by_cases hc3 : clsOf l[i].op = 3
      · rw [if_pos hc3]
        refine ⟨p, hpo, ?_⟩
        cases b with
        | true =>
          simp only [if_true, Option.bind_eq_some_iff] at h
          obtain ⟨⟨a, Ω, d⟩, ha, h⟩ := h
          have key : ∀ ao : AO, clsOf ao = 3 → aop C s.env s.ob ao = some (a, Ω, d) → ∃ dd, ae s.env s.ob ao = some (a, Ω, dd) ∧ d = lev dd := fun ao hne hh => by
            have hh' : (match aq s.env s.ob ao with | some a => some (a, s.ob, 0) | none => (ae s.env s.ob ao).map fun (a, Ω', d) => (a, Ω', lev d)) = some (a, Ω, d) ∧ aq s.env s.ob ao = none := by
              cases ao <;> first | (cases hne; done) | exact ⟨hh, rfl⟩
            obtain ⟨k1, k2⟩ := hh'
            rw [k2] at k1
            simp only [Option.map_eq_some_iff] at k1
            obtain ⟨⟨a', Ω', dd⟩, e1, e2⟩ := k1
            cases e2
            exact ⟨dd, e1, rfl⟩
          obtain ⟨dd, hae, rfl⟩ := key _ hc3 ha
          obtain ⟨n, y, w', ρ', hrun, _, hy, hst, hal⟩ := ae_ok hao hN.acc.rel hN.env hae
          obtain ⟨rfl, hsame⟩ := hal (by rw [hc3]; rfl)
          have hst' : Step Im ρ s.ob w Im ρ' Ω w' (decide (lev dd = 2)) := by cases dd <;> exact hst
          have hev : Ev1 Im ρ s.ob w Im ρ' Ω w' (lev dd) := ⟨hst', fun _ h _ => h, fun h0 => by cases dd <;> simp [lev] at h0, by cases dd <;> simp [lev]⟩
          refine ⟨y, w', .inl ⟨hw, hrun, hsame, hst.fr.size⟩, ?_⟩
          rw [hdst] at h
          exact sq_ok hC hl π _ s' Im ρ' _ w' hπ.2 h (hN.put hd hy hev) hQ
        | false =>
          simp only [Bool.false_eq_true, if_false] at h
          rw [hdst] at h
          exact ⟨undef, w, .inr ⟨hw, rfl, rfl⟩, sq_ok hC hl π _ s' Im ρ _ w hπ.2 h (hN.skip hd) hQ⟩
      rw [if_neg hc3, if_neg hc4, if_neg hc6]
      refine ⟨p, hpo, ?_⟩
      cases b with
      | true =>
        simp only [if_true, Option.bind_eq_some_iff] at h
        obtain ⟨⟨a, Ω, d⟩, ha, h⟩ := h
        have haq : aq s.env s.ob l[i].op = some a ∧ Ω = s.ob ∧ d = 0 := by
          have key : ∀ ao : AO, clsOf ao ≠ 0 → clsOf ao ≠ 3 → aop C s.env s.ob ao = some (a, Ω, d) → (match aq s.env s.ob ao with | some a => some (a, s.ob, 0) | none => (ae s.env s.ob ao).map fun (a, Ω', d) => (a, Ω', lev d)) = some (a, Ω, d) ∧ ae s.env s.ob ao = none := fun ao hne hne3 hh => by
            cases ao <;> first | exact absurd rfl hne | exact absurd rfl hne3 | exact ⟨hh, rfl⟩
          obtain ⟨k1, k2⟩ := key _ hc0 hc3 ha
          split at k1
          · rename_i a' ha'
            cases k1
            exact ⟨ha', rfl, rfl⟩
          · rw [k2] at k1
            cases k1
        obtain ⟨haq, rfl, rfl⟩ := haq
        obtain ⟨y, hy, hrun⟩ := aq_ok hao hN.acc.rel hN.env haq
        rw [hdst] at h
        by_cases hc2 : clsOf l[i].op = 2
        · obtain ⟨y2, hy2, hrun2⟩ := aqp_ok hao hc2 hN.acc.rel hN.env haq
          refine ⟨y2, yk _ fun w1 _ _ => .inl ⟨hw, hrun2 w1⟩, fun _ => .inl ⟨hw, hrun2⟩, ?_⟩
          exact sq_ok hC hl π _ s' Im ρ _ w hπ.2 h (hN.put hd hy2 (Ev1.refl hN.acc.rel)) hQ
        · refine ⟨y, yk _ fun w1 h1 _ => .inl ⟨hw, hrun w1 (same_up w1 h1)⟩, fun h2 => absurd h2 hc2, ?_⟩
          exact sq_ok hC hl π _ s' Im ρ _ w hπ.2 h (hN.put hd hy (Ev1.refl hN.acc.rel)) hQ
      | false =>
        simp only [Bool.false_eq_true, if_false] at h
        rw [hdst] at h
        exact ⟨undef, yk _ fun _ _ _ => .inr ⟨hw, rfl⟩, fun _ => .inr ⟨hw, rfl⟩, sq_ok hC hl π _ s' Im ρ _ w hπ.2 h (hN.skip hd) hQ⟩
/-- A region in which what acts comes one behind the other. -/
theorem regm_ok {P : Program} {C : CT} {hv : List Nat} (hm : P.follows .mixedOrders = true) (hC : CallsOK P C) {B : Base} {ops : Array Oper} {l : List AOper} (hl : compOps P B.N ops ops.toList = some l) (hs : Region.noSelect ops = true) {π : List Nat} (hπ : permGo ops (l.map fun o => clsV hv o.op) ops.size (Array.replicate ops.size false) = some π) (hb : π.all (fun i => decide (i < l.length)) = true) {s s' : St} (h : aopsM C (π.map fun i => (qk (clsV hv (l.getD i ⟨none, none, .mv (.t 0)⟩).op), l.getD i ⟨none, none, .mv (.t 0)⟩)) { s with d := max s.d 1 } = some s') {Im : Imm} {ρ : List Loc} {act : Act} {w : World} (hN : Now B s Im ρ act w) {id : Nat} {Q : Exit → Act → World → Prop}
    (hQ : ∀ Im' ρ' act' w', Now B s' Im' ρ' act' w' → Q .normal act' w') : (Code.region id ops true).wp P Q act w := by
  have hD : Fr w { w with drawn := w.drawn + 1 } (fun _ => False) := ⟨rfl, rfl, rfl, Nat.le_refl _, fun _ _ _ => rfl⟩
  have n1 := hN.up' hD hN.env hN.size rfl
  exact wp_region_M hm hs hπ (sq_ok hC hl π _ s' Im ρ act _ hb h n1 fun Im' ρ' act' w' hN' => ⟨rfl, hQ _ _ _ _ hN'⟩)
theorem agreeK_get : ∀ {ks : List Nat} {e e' : Env}, agreeK ks e e' → ∀ i ∈ ks, get e i = get e' i
  | [], _, _, _, i, hi => by cases hi
  | k :: ks, e, e', h, i, hi => by
    rcases List.mem_cons.1 hi with rfl | hi
    · exact h.1
    · exact agreeK_get h.2 i hi
theorem get_put {e : Env} {d : Option Nat} {a : AV} {i : Nat} (h : i ∉ d.toList) : get (put e d a) i = get e i := by
  cases d with
  | none => rfl
  | some d =>
    have : ¬ i = d := fun e => h (by simp [e])
    simp [put, get, this]
theorem get_execT {C : CT} : ∀ {t : AT} {s s' : St}, aexecT C t s = some s' → ∀ i, i ∉ dstsT t → get s'.env i = get s.env i
  | .nil, s, s', h, i, _ => by cases h; rfl
  | .op q o t, s, s', h, i, hi => by
    rw [dstsT, List.mem_append, not_or] at hi
    rw [aexecT, Option.bind_eq_some_iff] at h
    obtain ⟨b, hb, h⟩ := h
    split at h
    · rw [Option.bind_eq_some_iff] at h
      obtain ⟨⟨a, Ω, d⟩, ha, h⟩ := h
      rw [get_execT h i hi.2]
      exact get_put hi.1
    · rw [get_execT h i hi.2]
      exact get_put hi.1
  | .alt a b, s, s', h, i, hi => by
    rw [dstsT, List.mem_append, not_or] at hi
    rw [aexecT, Option.bind_eq_some_iff] at h
    obtain ⟨r, hr, h⟩ := h
    rw [Option.bind_eq_some_iff] at h
    obtain ⟨r', hr', h⟩ := h
    split at h
    · cases h
      exact get_execT hr i hi.1
    · cases h
theorem Now.agree {B : Base} {r r' : St} {Im : Imm} {ρ : List Loc} {act : Act} {w : World} (h : Now B r' Im ρ act w) (h1 : r.ob = r'.ob) (h2 : r.d = r'.d) (h3 : r.rt = r'.rt) (h4 : ∀ i a, get r.env i = some a → get r'.env i = some a) : Now B r Im ρ act w := by
  obtain ⟨e, ob, d, rt⟩ := r
  obtain ⟨e', ob', d', rt'⟩ := r'
  simp only at h1 h2 h3 h4
  subst h1 h2 h3
  exact ⟨h.acc, ⟨fun i a hi => h.env.val i a (h4 i a hi), fun i a hi => h.env.lt i a (h4 i a hi)⟩, h.size, h.defers, h.rt, h.rtl, h.rtn⟩
theorem sq_okT {P : Program} {C : CT} (hC : CallsOK P C) {hv : List Nat} {ops : Array Oper} {B : Base} {l : List AOper} (hl : compOps P B.N ops ops.toList = some l) {Q : Exit → Act → World → Prop} : ∀ (π : PT) (s s' : St) (Im : Imm) (ρ : List Loc) (act : Act) (w : World), π.allB l.length = true → aexecT C (atOf hv l π) s = some s' → Now B s Im ρ act w →
    (∀ Im' ρ' act' w', Now B s' Im' ρ' act' w' → Q .normal act' w') → wpSqT P ops (l.map fun o => clsV hv o.op) Q π act w
  | .nil, s, s', Im, ρ, act, w, _, h, hN, hQ => by cases h; exact hQ _ _ _ _ hN
  | .alt x y, s, s', Im, ρ, act, w, hπ, h, hN, hQ => by
    simp only [PT.allB, Bool.and_eq_true] at hπ
    rw [atOf, aexecT, Option.bind_eq_some_iff] at h
    obtain ⟨r, hr, h⟩ := h
    rw [Option.bind_eq_some_iff] at h
    obtain ⟨r', hr', h⟩ := h
    split at h
    case isFalse => cases h
    rename_i hag
    cases h
    refine ⟨sq_okT hC hl x s _ Im ρ act w hπ.1 hr hN hQ, sq_okT hC hl y s r' Im ρ act w hπ.2 hr' hN fun Im' ρ' act' w' hN' => hQ Im' ρ' act' w' (hN'.agree hag.1 hag.2.1 hag.2.2.1 fun i a hi => ?_)⟩
    by_cases c : i ∈ dstsT (atOf hv l x) ++ dstsT (atOf hv l y)
    · rw [← agreeK_get hag.2.2.2 i c]; exact hi
    · rw [List.mem_append, not_or] at c
      rw [get_execT hr' i c.2, ← get_execT hr i c.1]; exact hi
  | .one i π, s, s', Im, ρ, act, w, hπ, h, hN, hQ => by
    simp only [PT.allB, Bool.and_eq_true, decide_eq_true_eq] at hπ
    have hli : l[i]? = some l[i] := List.getElem?_eq_getElem hπ.1
    obtain ⟨p, hp, hao, hg, hdst, hd⟩ := compOps_get _ _ i _ hl hli
    have hpo : ops[i]? = some p := by rw [← Array.getElem?_toList]; exact hp
    have hgd : l.getD i ⟨none, none, .mv (.t 0)⟩ = l[i] := by rw [List.getD_eq_getElem?_getD, hli]; rfl
    rw [atOf, hgd] at h
    have hcl : (l.map fun o => clsV hv o.op).getD i 0 = clsV hv l[i].op := by rw [List.getD_eq_getElem?_getD, List.getElem?_map, hli]; rfl
    simp only [aexecT, Option.bind_eq_some_iff] at h
    obtain ⟨b, hb, h⟩ := h
    have hw := wants_ok hg hN.env hb
    rw [wpSqT, hcl]
    by_cases hc4 : clsV hv l[i].op = 4
    · rw [if_neg (by omega), if_neg (by omega), if_pos hc4]
      rw [hc4, show qk 4 = .m from rfl] at h
      obtain ⟨fx, xs, hfx⟩ := clsV_four hc4
      unfold Go.wpOp
      simp only [hpo]
      cases b with
      | true =>
        simp only [if_true, Option.bind_eq_some_iff] at h
        obtain ⟨⟨a, Ω, d⟩, ha, h⟩ := h
        rw [if_pos hw]
        rw [hfx] at ha hao
        refine .inl (call_quiet hC hao hN.acc.rel hN.env ha fun y Im' ρ' w' hy hev hfr => ?_)
        have hN' := hN.put hd hy hev
        rw [hdst] at h
        exact ⟨⟨fun b hb => hfr.block b hb (fun h => h), hfr.size⟩, sq_okT hC hl π _ s' Im' ρ' _ w' hπ.2 h hN' hQ⟩
      | false =>
        simp only [Bool.false_eq_true, if_false] at h
        rw [if_neg (by rw [hw]; simp)]
        rw [hdst] at h
        exact ⟨⟨Same.refl _, Nat.le_refl _⟩, sq_okT hC hl π _ s' Im ρ _ w hπ.2 h (hN.skip hd) hQ⟩
    have same_up : ∀ w1, Same w w1 → SameK Im ρ s.ob w w1 := fun w1 h1 b hb => by
      refine h1 b ?_
      rcases hb with ⟨arr, ha⟩ | ⟨k, o, s1, s2, h1, h2, h3⟩
      · obtain ⟨T, fz, e⟩ := hN.acc.rel.im b arr ha
        exact (Array.getElem?_eq_some_iff.1 e).1
      · rcases hN.acc.rel.obj k o h1 h2 with ⟨b', base', s', arr, T, fz, e1, e2, _⟩ | ⟨e1, _⟩
        · rw [h3] at e1
          cases e1
          exact (Array.getElem?_eq_some_iff.1 e2).1
        · rw [h3] at e1
          cases e1
    by_cases hc6 : clsV hv l[i].op = 6
    · rw [hc6, show qk 6 = .f from rfl] at h
      rw [if_neg (by omega), if_neg (by omega), if_neg (by omega), if_pos hc6]
      obtain ⟨fx, xs, hfx⟩ := clsV_six hc6
      cases b with
      | true =>
        simp only [if_true, aopM, Option.bind_eq_some_iff] at h
        obtain ⟨⟨a, Ω, d⟩, ha, h⟩ := h
        rw [hfx] at ha hao
        simp only [Option.bind_eq_some_iff, Option.map_eq_some_iff] at ha
        obtain ⟨f, hf, as, has, a', ha, he⟩ := ha
        cases he
        obtain ⟨hne, hrun⟩ := callF_ok hC hao hN.acc.rel hN.env (by rw [hf, Option.bind_some, has, Option.bind_some]; exact ha)
        rw [hdst] at h
        refine ⟨p, hpo, fun y => VR Im ρ a y, hne, fun w1 h1 _ => .inl ⟨hw, hrun w1 (same_up w1 h1)⟩, fun y hy => ?_⟩
        exact sq_okT hC hl π _ s' Im ρ _ w hπ.2 h (hN.put hd hy (Ev1.refl hN.acc.rel)) hQ
      | false =>
        simp only [Bool.false_eq_true, if_false] at h
        rw [hdst] at h
        refine ⟨p, hpo, fun y => y = undef, ⟨undef, rfl⟩, fun w1 _ _ => .inr ⟨hw, rfl⟩, fun y hy => ?_⟩
        subst hy
        exact sq_okT hC hl π _ s' Im ρ _ w hπ.2 h (hN.skip hd) hQ
    by_cases hc5 : clsV hv l[i].op = 5
    · rw [hc5, show qk 5 = .s from rfl] at h
      rw [if_neg (by omega), if_neg (by omega), if_neg (by omega), if_neg hc6]
      refine ⟨p, hpo, ?_⟩
      have yk : ∀ v, YldUp P ops p v act w → YK P ops (clsV hv l[i].op) p v act w := fun v h => by unfold YK; rw [if_pos hc5]; exact h
      cases b with
      | true =>
        simp only [if_true, aopM, Option.bind_eq_some_iff, Option.map_eq_some_iff] at h
        obtain ⟨⟨a, Ω, d⟩, ⟨a', ha, he⟩, h⟩ := h
        cases he
        obtain ⟨y, hy, hrun⟩ := aopQ_okK hC hao hN.acc.rel hN.env (Nat.zero_le 1) ha
        rw [hdst] at h
        refine ⟨y, yk _ fun w1 h1 _ => ?_, fun h2 => absurd h2 (by omega), ?_⟩
        · rcases hrun w1 (same_up w1 h1) with hr | ⟨g', args, hr, hcalls⟩
          · exact .inl ⟨hw, hr⟩
          · exact .inr (.inr ⟨hw, g', args, hr, hcalls.mono fun e w2 hp => ⟨hp.1, hp.2.2 rfl⟩⟩)
        · exact sq_okT hC hl π _ s' Im ρ _ w hπ.2 h (hN.put hd hy (Ev1.refl hN.acc.rel)) hQ
      | false =>
        simp only [Bool.false_eq_true, if_false] at h
        rw [hdst] at h
        exact ⟨undef, yk _ fun _ _ _ => .inr (.inl ⟨hw, rfl⟩), fun _ => .inr ⟨hw, rfl⟩, sq_okT hC hl π _ s' Im ρ _ w hπ.2 h (hN.skip hd) hQ⟩
    have hq0 : qk (clsV hv l[i].op) = .o := by unfold qk; rw [if_neg hc4, if_neg hc5, if_neg hc6]
    rw [hq0] at h
    simp only [aopM] at h
    have hco := clsV_other hc4 hc5 hc6
    rw [hco] at hc4 hc5 hc6 ⊢
    have yk : ∀ v, YldVal P ops p v act w → YK P ops (clsOf l[i].op) p v act w := fun v h => by unfold YK; rw [if_neg hc5]; exact h
    by_cases hc0 : clsOf l[i].op = 0
    · rw [if_pos hc0]
      unfold Go.wpOp
      simp only [hpo]
      cases b with
      | true =>
        simp only [if_true, Option.bind_eq_some_iff] at h
        obtain ⟨⟨a, Ω, d⟩, ha, h⟩ := h
        rw [if_pos hw]
        refine .inl (op_wp hC hao hN.acc.rel hN.env ha fun y Im' ρ' w' hy hev => ?_)
        have hN' := hN.put hd hy hev
        rw [hdst] at h
        exact sq_okT hC hl π _ s' Im' ρ' _ w' hπ.2 h hN' hQ
      | false =>
        simp only [Bool.false_eq_true, if_false] at h
        rw [if_neg (by rw [hw]; simp)]
        rw [hdst] at h
        exact sq_okT hC hl π _ s' Im ρ _ w hπ.2 h (hN.skip hd) hQ
    · rw [if_neg hc0]
      by_cases hc3 : clsOf l[i].op = 3
      · rw [if_pos hc3]
        refine ⟨p, hpo, ?_⟩
        cases b with
        | true =>
          simp only [if_true, Option.bind_eq_some_iff] at h
          obtain ⟨⟨a, Ω, d⟩, ha, h⟩ := h
          have key : ∀ ao : AO, clsOf ao = 3 → aop C s.env s.ob ao = some (a, Ω, d) → ∃ dd, ae s.env s.ob ao = some (a, Ω, dd) ∧ d = lev dd := fun ao hne hh => by
            have hh' : (match aq s.env s.ob ao with | some a => some (a, s.ob, 0) | none => (ae s.env s.ob ao).map fun (a, Ω', d) => (a, Ω', lev d)) = some (a, Ω, d) ∧ aq s.env s.ob ao = none := by
              cases ao <;> first | (cases hne; done) | exact ⟨hh, rfl⟩
            obtain ⟨k1, k2⟩ := hh'
            rw [k2] at k1
            simp only [Option.map_eq_some_iff] at k1
            obtain ⟨⟨a', Ω', dd⟩, e1, e2⟩ := k1
            cases e2
            exact ⟨dd, e1, rfl⟩
          obtain ⟨dd, hae, rfl⟩ := key _ hc3 ha
          obtain ⟨n, y, w', ρ', hrun, _, hy, hst, hal⟩ := ae_ok hao hN.acc.rel hN.env hae
          obtain ⟨rfl, hsame⟩ := hal (by rw [hc3]; rfl)
          have hst' : Step Im ρ s.ob w Im ρ' Ω w' (decide (lev dd = 2)) := by cases dd <;> exact hst
          have hev : Ev1 Im ρ s.ob w Im ρ' Ω w' (lev dd) := ⟨hst', fun _ h _ => h, fun h0 => by cases dd <;> simp [lev] at h0, by cases dd <;> simp [lev]⟩
          refine ⟨y, w', .inl ⟨hw, hrun, hsame, hst.fr.size⟩, ?_⟩
          rw [hdst] at h
          exact sq_okT hC hl π _ s' Im ρ' _ w' hπ.2 h (hN.put hd hy hev) hQ
        | false =>
          simp only [Bool.false_eq_true, if_false] at h
          rw [hdst] at h
          exact ⟨undef, w, .inr ⟨hw, rfl, rfl⟩, sq_okT hC hl π _ s' Im ρ _ w hπ.2 h (hN.skip hd) hQ⟩
      rw [if_neg hc3, if_neg hc4, if_neg hc6]
      refine ⟨p, hpo, ?_⟩
      cases b with
      | true =>
        simp only [if_true, Option.bind_eq_some_iff] at h
        obtain ⟨⟨a, Ω, d⟩, ha, h⟩ := h
        have haq : aq s.env s.ob l[i].op = some a ∧ Ω = s.ob ∧ d = 0 := by
          have key : ∀ ao : AO, clsOf ao ≠ 0 → clsOf ao ≠ 3 → aop C s.env s.ob ao = some (a, Ω, d) → (match aq s.env s.ob ao with | some a => some (a, s.ob, 0) | none => (ae s.env s.ob ao).map fun (a, Ω', d) => (a, Ω', lev d)) = some (a, Ω, d) ∧ ae s.env s.ob ao = none := fun ao hne hne3 hh => by
            cases ao <;> first | exact absurd rfl hne | exact absurd rfl hne3 | exact ⟨hh, rfl⟩
          obtain ⟨k1, k2⟩ := key _ hc0 hc3 ha
          split at k1
          · rename_i a' ha'
            cases k1
            exact ⟨ha', rfl, rfl⟩
          · rw [k2] at k1
            cases k1
        obtain ⟨haq, rfl, rfl⟩ := haq
        obtain ⟨y, hy, hrun⟩ := aq_ok hao hN.acc.rel hN.env haq
        rw [hdst] at h
        by_cases hc2 : clsOf l[i].op = 2
        · obtain ⟨y2, hy2, hrun2⟩ := aqp_ok hao hc2 hN.acc.rel hN.env haq
          refine ⟨y2, yk _ fun w1 _ _ => .inl ⟨hw, hrun2 w1⟩, fun _ => .inl ⟨hw, hrun2⟩, ?_⟩
          exact sq_okT hC hl π _ s' Im ρ _ w hπ.2 h (hN.put hd hy2 (Ev1.refl hN.acc.rel)) hQ
        · refine ⟨y, yk _ fun w1 h1 _ => .inl ⟨hw, hrun w1 (same_up w1 h1)⟩, fun h2 => absurd h2 hc2, ?_⟩
          exact sq_okT hC hl π _ s' Im ρ _ w hπ.2 h (hN.put hd hy (Ev1.refl hN.acc.rel)) hQ
      | false =>
        simp only [Bool.false_eq_true, if_false] at h
        rw [hdst] at h
        exact ⟨undef, yk _ fun _ _ _ => .inr ⟨hw, rfl⟩, fun _ => .inr ⟨hw, rfl⟩, sq_okT hC hl π _ s' Im ρ _ w hπ.2 h (hN.skip hd) hQ⟩
/-- A region in which what acts comes one behind the other. -/
theorem regx_ok {P : Program} {C : CT} {hv : List Nat} (hm : P.follows .mixedOrders = true) (hC : CallsOK P C) {B : Base} {ops : Array Oper} {l : List AOper} (hl : compOps P B.N ops ops.toList = some l) (hs : Region.noSelect ops = true) {π : PT} (hπ : treeGo ops (l.map fun o => clsV hv o.op) ops.size (Array.replicate ops.size false) = some π) (hb : π.allB l.length = true) {s s' : St} (h : aexecT C (atOf hv l π) { s with d := max s.d 1 } = some s') {Im : Imm} {ρ : List Loc} {act : Act} {w : World} (hN : Now B s Im ρ act w) {id : Nat} {Q : Exit → Act → World → Prop}
    (hQ : ∀ Im' ρ' act' w', Now B s' Im' ρ' act' w' → Q .normal act' w') : (Code.region id ops true).wp P Q act w := by
  have hD : Fr w { w with drawn := w.drawn + 1 } (fun _ => False) := ⟨rfl, rfl, rfl, Nat.le_refl _, fun _ _ _ => rfl⟩
  have n1 := hN.up' hD hN.env hN.size rfl
  exact wp_region_T hm hs hπ (sq_okT hC hl π _ s' Im ρ act _ hb h n1 fun Im' ρ' act' w' hN' => ⟨rfl, hQ _ _ _ _ hN'⟩)
end Go.Proofs.Ythkjiclplecljaa.Sym

/- Code, loops, functions: the abstract machine's answer is the program's. -/
namespace Go.Proofs.Ythkjiclplecljaa.Sym
open Go
set_option linter.unusedVariables false
set_option linter.unusedSimpArgs false

theorem keepEnv_get : ∀ (live : List Nat) (e e' : Env), keepEnv e live = some e' → ∀ i a, get e' i = some a → get e i = some a
  | [], e, e', h, i, a, hi => by cases h; simp [get] at hi
  | j :: js, e, e', h, i, a, hi => by
    simp only [keepEnv, Option.bind_eq_some_iff] at h
    obtain ⟨b, hb, r, hr, h⟩ := h
    cases h
    simp only [get] at hi
    split at hi
    · rename_i e1
      subst e1
      cases hi
      exact hb
    · exact keepEnv_get js e r hr i a hi
theorem get_mem : ∀ (e : Env) (i : Nat) (a : AV), get e i = some a → (i, a) ∈ e
  | [], i, a, h => by simp [get] at h
  | (j, b) :: e, i, a, h => by
    simp only [get] at h
    split at h
    · rename_i e1
      subst e1
      cases h
      exact List.mem_cons_self
    · exact List.mem_cons_of_mem _ (get_mem e i a h)
theorem get_map (f : AV → AV) : ∀ (e : Env) (i : Nat) (a : AV), get (e.map fun p => (p.1, f p.2)) i = some a → ∃ b, get e i = some b ∧ a = f b
  | [], i, a, h => by simp [get] at h
  | (j, b) :: e, i, a, h => by
    simp only [List.map_cons, get] at h ⊢
    split at h
    · cases h
      exact ⟨b, by simp_all, rfl⟩
    · rename_i e1
      obtain ⟨c, hc, rfl⟩ := get_map f e i a h
      exact ⟨c, by rw [if_neg e1]; exact hc, rfl⟩
theorem canon_ok {B : Base} {s s1 : St} {live : List Nat} (h : canon live s = some s1) {Im : Imm} {ρ : List Loc} {act : Act} {w : World} (hN : Now B s Im ρ act w) : ∃ ρ1, Now B s1 Im ρ1 act w := by
  unfold canon at h
  rw [Option.bind_eq_some_iff] at h
  obtain ⟨e, he, h⟩ := h
  split at h
  case isFalse => cases h
  rename_i hok
  rw [Option.bind_eq_some_iff] at h
  obtain ⟨ord, hord, h⟩ := h
  cases h
  obtain ⟨hcl, hin, _⟩ := reach_all hord
  have hR := hN.acc.rel
  refine ⟨subρ ρ ord, ⟨sub_rel hR hcl true, hN.acc.im, hN.acc.imn, hN.acc.fr, hN.acc.still, hN.acc.lvl, fun b hb => ?_, fun b hb => ?_⟩, ⟨fun i a hi => ?_, fun i a hi => ?_⟩, hN.size, hN.defers, fun i l hl => ?_, by rw [List.length_map]; exact hN.rtl, ?_⟩
  · obtain ⟨k, o, s1, s2, hk, ho, hl, hf, hr⟩ := LBd.of_sub hR hcl hb
    exact hN.acc.new b ⟨k, o, s1, s2, ho, hl, .inl rfl, hr⟩
  · obtain ⟨k, o, s1, s2, hk, ho, hl, hf, hr⟩ := LBd.of_sub hR hcl hb
    exact hN.acc.fresh b ⟨k, o, s1, s2, ho, hl, .inr (by rcases hf with hf | hf; cases hf; exact hf.1), hr⟩
  · obtain ⟨b, hb, rfl⟩ := get_map _ _ _ _ hi
    have hm := get_mem _ _ _ hb
    exact (hN.env.val i b (keepEnv_get _ _ _ he i b hb)).ren (List.all_eq_true.1 hok _ hm) (sub_map (Ω := s.ob) _ fun k hk => hin k (List.mem_append_right _ (List.mem_flatMap.2 ⟨_, hm, hk⟩)))
  · obtain ⟨b, hb, rfl⟩ := get_map _ _ _ _ hi
    exact hN.env.lt i b (keepEnv_get _ _ _ he i b hb)
  · obtain ⟨k, e1, e2⟩ := hN.rt i l hl
    refine ⟨pos ord k, by rw [List.getElem?_map, e1]; rfl, ?_⟩
    exact subρ_get (pos_get (hin k (List.mem_append_left _ (List.mem_of_getElem? e1)))) e2
  · refine List.pairwise_map.2 (hN.rtn.imp_of_mem fun {a b} ha hb hne e => hne ?_)
    have h1 := pos_get (hin a (List.mem_append_left _ ha))
    have h2 := pos_get (hin b (List.mem_append_left _ hb))
    rw [e, h2] at h1
    exact (Option.some.inj h1).symm

def exOf : AE → Exit
  | .normal => .normal
  | .exit id => .exit id
  | .ret => .ret
/-- A region in any order, quiet. -/
theorem Now.up {B : Base} {s : St} {Im : Imm} {ρ : List Loc} {act : Act} {w w1 : World} (h : Now B s Im ρ act w) (hf : Fr w w1 (fun _ => False)) {e : Env} {act' : Act} (hE : EnvOK Im ρ e act') (hs : act'.tmps.size = B.N) (hd : act'.defers = act.defers) : Now B { s with env := e, d := max s.d 1 } Im ρ act' w1 := by
  have ha := h.acc
  have hl := ha.lvl
  refine ⟨⟨ha.rel.same fun b hb => hf.block b hb (fun h => h), ha.im, ha.imn, ?_, fun h0 => ?_, ?_, ha.new, ha.fresh⟩, hE, hs, hd.trans h.defers, h.rt, h.rtl, h.rtn⟩
  · exact Fr.trans (ha.fr.imp fun b hb => ⟨by have := hb.1; simp only; omega, hb.2⟩) hf (fun b hb => hb.elim)
  · simp only at h0; omega
  · simp only; omega
theorem get_dropE {lo hi : Nat} : ∀ {e : Env} {i : Nat} {a : AV}, get (dropE lo hi e) i = some a → get e i = some a ∧ ¬ (lo ≤ i ∧ i ≤ hi)
  | [], i, a, h => by cases h
  | p :: e, i, a, h => by
    have key : get (p :: dropE lo hi e) i = some a → ¬ (lo ≤ p.1 ∧ p.1 ≤ hi) → get (p :: e) i = some a ∧ ¬ (lo ≤ i ∧ i ≤ hi) := fun h hp => by
      obtain ⟨j, b⟩ := p
      simp only [get] at h ⊢
      by_cases c : i = j
      · subst c
        rw [if_pos rfl] at h ⊢
        exact ⟨h, hp⟩
      · rw [if_neg c] at h ⊢
        exact get_dropE h
    rw [dropE] at h
    split at h
    · exact key h (by omega)
    · split at h
      · exact key h (by omega)
      · rename_i h1 h2
        obtain ⟨h3, h4⟩ := get_dropE h
        obtain ⟨j, b⟩ := p
        refine ⟨?_, h4⟩
        simp only [get]
        rw [if_neg (fun e => h4 (by subst e; simp only at h1 h2; omega))]
        exact h3
theorem get_dropR : ∀ {l : List Nat} {e : Env} {i : Nat} {a : AV}, get (dropR l e) i = some a → get e i = some a
  | [], _, _, _, h => h
  | [_], _, _, _, h => h
  | lo :: hi :: r, e, i, a, h => (get_dropE (get_dropR (l := r) h)).1
/-! ### rows that nobody writes any more -/
structure Frz (Im : Imm) (ρ : List Loc) (Ω : List Obj) (w : World) (Im' : Imm) (Ω' : List Obj) : Prop where
  rel : Rel Im' ρ Ω' w
  im : ImLe Im Im'
  imn : ∀ b, Im b = none → ¬ LBd ρ Ω false b → Im' b = none
  lb : ∀ d b, LBd ρ Ω' d b → LBd ρ Ω d b
theorem Frz.refl {Im : Imm} {ρ : List Loc} {Ω : List Obj} {w : World} (h : Rel Im ρ Ω w) : Frz Im ρ Ω w Im Ω := ⟨h, ImLe.refl _, fun _ h _ => h, fun _ _ h => h⟩
theorem Frz.trans {Im Im1 Im2 : Imm} {ρ : List Loc} {Ω Ω1 Ω2 : List Obj} {w : World} (h : Frz Im ρ Ω w Im1 Ω1) (h' : Frz Im1 ρ Ω1 w Im2 Ω2) : Frz Im ρ Ω w Im2 Ω2 :=
  ⟨h'.rel, h.im.trans h'.im, fun b hb hn => h'.imn b (h.imn b hb hn) (fun hl => hn (h.lb _ _ hl)), fun d b hb => h.lb d b (h'.lb d b hb)⟩
theorem frz0_ok {Im : Imm} {ρ : List Loc} {Ω : List Obj} {w : World} (hR : Rel Im ρ Ω w) {a : AV} {x : Value} (hx : VR Im ρ a x) : ∃ Im', Frz Im ρ Ω w Im' (frz0 Ω a).2 ∧ VR Im' ρ (frz0 Ω a).1 x := by
  unfold frz0
  split
  · rename_i k off n sz c
    split
    · rename_i o ho
      split
      · rename_i hq
        obtain ⟨q1, q2, q3⟩ := hq
        obtain ⟨hk, hl⟩ := getO_some ho
        have hlb : ∀ d b, LBd ρ (kill Ω k o) d b → LBd ρ Ω d b := fun d b hb => by
          obtain ⟨i, o', s1, s2, h1, h2, h3, h4⟩ := hb
          exact ⟨i, o', s1, s2, (kill_get h1 h2).1, h2, h3, h4⟩
        rcases hR.obj k o hk hl with ⟨b, base, s, arr, T, fz, e1, e2, e3, e4, e5, e6, e7, f, e8, e9⟩ | ⟨e1, e2⟩
        · have hI : ImLe Im (fun b' => if b' = b then some arr else Im b') := fun b' arr' hb' => by
            show (if b' = b then some arr else Im b') = some arr'
            rw [if_neg]
            · exact hb'
            · rintro rfl
              rw [e7] at hb'
              cases hb'
          have hfrz : Frz Im ρ Ω w (fun b' => if b' = b then some arr else Im b') (kill Ω k o) := by
            have hR1 := hR.killed k o
            refine ⟨⟨hR1.len, fun b' arr' hb'' => ?_, fun i o' hi hl' => ?_, hR1.atoms, hR1.flat, hR1.sep, hR1.gl.mono hI⟩, hI, fun b' hb' hn => ?_, hlb⟩
            · have hb' : (if b' = b then some arr else Im b') = some arr' := hb''
              split at hb'
              · rename_i e; subst e; cases hb'; exact ⟨T, fz, e2⟩
              · exact hR.im b' arr' hb'
            · refine (hR1.obj i o' hi hl').mono hI (RhoLe.refl _) (fun _ _ _ _ => rfl) (fun b' s1 s2 hr hn => ?_)
              show (if b' = b then some arr else Im b') = none
              rw [if_neg]
              · exact hn
              · rintro rfl
                obtain ⟨h1, h2⟩ := kill_get hi hl'
                exact hR.sep i k o' o b' s1 s2 b' base s h1 hk hl' hl h2 hr e1 rfl
            · show (if b' = b then some arr else Im b') = none
              rw [if_neg]
              · exact hb'
              · rintro rfl
                exact hn ⟨k, o, base, s, hk, hl, .inr q1, e1⟩
          refine ⟨_, hfrz, ?_⟩
          have cellsV : ∀ (i : Nat) a, ((o.cells.drop off).take (n * sz))[i]? = some a → o.cells[off + i]? = some a := fun i a hi => by
            have hj2 := (List.getElem?_eq_some_iff.1 hi).1
            rw [List.length_take, Nat.lt_min] at hj2
            rw [List.getElem?_take_of_lt hj2.1, List.getElem?_drop] at hi
            exact hi
          cases hx with
          | view b' o' s' cap hk' hc h1 h2 h3 =>
            rw [e1] at hk'
            cases hk'
            refine .shr b (base + off) cap arr (fun i => f (off + i)) (by simp) hc (fun hq => h1 n (by simpa using hq)) (fun i a hi => hR.atoms k o hk hl a (List.mem_of_getElem? (cellsV i a hi))) (fun i a hi => ?_) (fun i a hi => ?_)
            · rw [Nat.add_assoc]
              exact e8 _ _ (cellsV i a hi)
            · have := (e9 _ _ (cellsV i a hi)).flat (ρ' := []) (hR.flat k o hk hl q2 a (List.mem_of_getElem? (cellsV i a hi)))
              exact this.mono hI [] (RhoLe.refl _)
          | viewE b' o' s' o'' hk' h1 h2 h3 =>
            rw [e1] at hk'
            cases hk'
            rw [Nat.zero_mul, List.take_zero]
            exact .shr b o'' 0 arr (fun i => undef) (by simp) (Nat.le_refl _) (fun _ => rfl) (fun i a hi => by simp at hi) (fun i a hi => by simp at hi) (fun i a hi => by simp at hi)
          | view0 hk' h1 => rw [e1] at hk'; cases hk'
        · refine ⟨Im, ⟨hR.killed k o, ImLe.refl _, fun _ h _ => h, hlb⟩, ?_⟩
          cases hx with
          | view b' o' s' cap hk' hc h1 h2 h3 => rw [e1] at hk'; cases hk'
          | viewE b' o' s' o'' hk' h1 h2 h3 => rw [e1] at hk'; cases hk'
          | view0 hk' h1 =>
            rw [Nat.zero_mul, List.take_zero]
            exact .shr0 none
      · exact ⟨Im, Frz.refl hR, hx⟩
    · exact ⟨Im, Frz.refl hR, hx⟩
  · exact ⟨Im, Frz.refl hR, hx⟩
theorem Now.frzE {B : Base} {Im : Imm} {ρ : List Loc} {act : Act} {w : World} (t : Nat) {s : St} (h : Now B s Im ρ act w) : ∃ Im', Now B (Sym.frzE t s) Im' ρ act w := by
  unfold Sym.frzE
  split
  · rename_i a ha
    have hv := h.env.val t a ha
    have hlt := h.env.lt t a ha
    obtain ⟨Im', hf, hv'⟩ := frz0_ok h.acc.rel hv
    have ac := h.acc
    refine ⟨Im', ⟨hf.rel, ac.im.trans hf.im, fun b hb hlt => hf.imn b (ac.imn b hb hlt) (fun hl => by have := ac.fresh b hl; omega), ac.fr, ac.still, ac.lvl, fun b hb => ac.new b (hf.lb _ _ hb), fun b hb => ac.fresh b (hf.lb _ _ hb)⟩, ⟨fun i b hb => ?_, fun i b hb => ?_⟩, h.size, h.defers, h.rt, h.rtl, h.rtn⟩
    · simp only [Sym.put, Sym.get] at hb
      split at hb
      · rename_i e
        subst e
        cases hb
        exact hv'
      · exact (h.env.val i b hb).mono hf.im _ (RhoLe.refl _)
    · simp only [Sym.put, Sym.get] at hb
      split at hb
      · rename_i e; subst e; exact hlt
      · exact h.env.lt i b hb
  · exact ⟨Im, h⟩
theorem frz0_atom (Ω : List Obj) {a : AV} (ha : atom a = true) : atom (frz0 Ω a).1 = true := by
  unfold frz0
  split
  · split
    · split
      · rfl
      · rfl
    · rfl
  · exact ha
/-- Another value of the abstract machine's for the same cell. -/
theorem Rel.recell {Im : Imm} {ρ : List Loc} {Ω : List Obj} {w : World} (h : Rel Im ρ Ω w) {k i : Nat} {o : Obj} (hk : Ω[k]? = some o) (hl : o.live = true) (hfl : o.flat = false) {a : AV} (ha : atom a = true) {b base s : Nat} {arr : Array Value} {T : TypeId} {fz : Nat × Nat} {x : Value} (hr : ρ[k]? = some (some (b, base, s))) (hw : w.heap[b]? = some (.cells arr T fz)) (hx : arr[base + i]? = some x) (hv : VR Im ρ a x) : Rel Im ρ (Ω.set k { o with cells := o.cells.set i a }) w := by
  have get : ∀ (j : Nat) o', (Ω.set k { o with cells := o.cells.set i a })[j]? = some o' → (j = k ∧ o' = { o with cells := o.cells.set i a }) ∨ (j ≠ k ∧ Ω[j]? = some o') := fun j o' hj => by
    rw [List.getElem?_set] at hj
    split at hj
    · rename_i e
      split at hj
      · cases hj; exact .inl ⟨e.symm, rfl⟩
      · cases hj
    · rename_i e
      exact .inr ⟨fun e' => e e'.symm, hj⟩
  refine ⟨by rw [List.length_set]; exact h.len, h.im, fun j o' hj hl' => ?_, fun j o' hj hl' => ?_, fun j o' hj hl' hf => ?_, fun j j' o1 o2 b1 s1 s2 b2 s3 s4 h1 h2 l1 l2 => ?_, h.gl⟩
  · rcases get j o' hj with ⟨rfl, rfl⟩ | ⟨_, hj'⟩
    · rcases h.obj j o hk hl with ⟨b', base', s', arr', T', fz', e1, e2, e3, e4, e5, e6, e7, f, e8, e9⟩ | ⟨e1, e2⟩
      · rw [hr] at e1
        cases e1
        rw [hw] at e2
        cases e2
        refine .inl ⟨b, base, s, arr, T, fz, hr, hw, e3, e4, e5, by rw [List.length_set]; exact e6, e7, fun q => if q = i then x else f q, fun q c hq => ?_, fun q c hq => ?_⟩
        · simp only at hq ⊢
          rw [List.getElem?_set] at hq
          by_cases c1 : i = q
          · subst c1
            rw [if_pos rfl]
            exact hx
          · rw [if_neg c1] at hq
            rw [if_neg (fun e => c1 e.symm)]
            exact e8 q c hq
        · simp only at hq ⊢
          rw [List.getElem?_set] at hq
          by_cases c1 : i = q
          · subst c1
            rw [if_pos rfl] at hq
            rw [if_pos rfl]
            split at hq
            · cases hq; exact hv
            · cases hq
          · rw [if_neg c1] at hq
            rw [if_neg (fun e => c1 e.symm)]
            exact e9 q c hq
      · rw [hr] at e1; cases e1
    · exact h.obj j o' hj' hl'
  · rcases get j o' hj with ⟨rfl, rfl⟩ | ⟨_, hj'⟩
    · intro c hc
      obtain ⟨q, hq⟩ := List.mem_iff_getElem?.1 hc
      simp only at hq
      rw [List.getElem?_set] at hq
      split at hq
      · split at hq
        · cases hq; exact ha
        · cases hq
      · exact h.atoms j o hk hl c (List.mem_of_getElem? hq)
    · exact h.atoms j o' hj' hl'
  · rcases get j o' hj with ⟨rfl, rfl⟩ | ⟨_, hj'⟩
    · simp only at hf
      rw [hfl] at hf
      cases hf
    · exact h.flat j o' hj' hl' hf
  · rcases get j o1 h1 with ⟨rfl, rfl⟩ | ⟨_, h1'⟩
    · rcases get j' o2 h2 with ⟨rfl, rfl⟩ | ⟨_, h2'⟩
      · intro hne; exact absurd rfl hne
      · exact h.sep _ _ o o2 b1 s1 s2 b2 s3 s4 hk h2' hl l2
    · rcases get j' o2 h2 with ⟨rfl, rfl⟩ | ⟨_, h2'⟩
      · exact h.sep _ _ o1 o b1 s1 s2 b2 s3 s4 h1' hk l1 hl
      · exact h.sep _ _ o1 o2 b1 s1 s2 b2 s3 s4 h1' h2' l1 l2
theorem Now.frzC {B : Base} {Im : Imm} {ρ : List Loc} {act : Act} {w : World} (t off : Nat) {s : St} (h : Now B s Im ρ act w) : ∃ Im', Now B (Sym.frzC t off s) Im' ρ act w := by
  unfold Sym.frzC
  split
  · rename_i k o hk
    split
    · rename_i ob hob
      split
      · rename_i j off' n sz c hc
        split
        · exact ⟨Im, h⟩
        · rename_i hjk
          obtain ⟨g1, g2⟩ := getO_some hob
          have ac := h.acc
          have hfl : ob.flat = false := by
            cases e : ob.flat
            · rfl
            · have := ac.rel.flat k ob g1 g2 e _ (List.mem_of_getElem? hc)
              cases this
          rcases ac.rel.obj k ob g1 g2 with ⟨b, base, sz', arr, T, fz, e1, e2, e3, e4, e5, e6, e7, f, e8, e9⟩ | ⟨e1, e2⟩
          · obtain ⟨Im', hf, hv'⟩ := frz0_ok ac.rel (e9 _ _ hc)
            have g1' : (frz0 s.ob (.view j off' n sz c)).2[k]? = some ob := by
              unfold frz0
              simp only
              split
              · split
                · show (kill s.ob j _)[k]? = some ob
                  unfold Sym.kill
                  rw [List.getElem?_set_ne hjk]
                  exact g1
                · exact g1
              · exact g1
            have hat : atom (frz0 s.ob (.view j off' n sz c)).1 = true := frz0_atom _ rfl
            have hrel := hf.rel.recell g1' g2 hfl hat e1 e2 (e8 _ _ hc) hv'
            have hlb : ∀ d b', LBd ρ ((frz0 s.ob (.view j off' n sz c)).2.set k { ob with cells := ob.cells.set (o + off) (frz0 s.ob (.view j off' n sz c)).1 }) d b' → LBd ρ s.ob d b' := fun d b' hb => by
              apply hf.lb
              obtain ⟨q, oq, s1, s2, h1, h2, h3, h4⟩ := hb
              rw [List.getElem?_set] at h1
              split at h1
              · rename_i eq
                subst eq
                split at h1
                · cases h1
                  exact ⟨k, ob, s1, s2, g1', g2, h3, h4⟩
                · cases h1
              · exact ⟨q, oq, s1, s2, h1, h2, h3, h4⟩
            exact ⟨Im', ⟨hrel, ac.im.trans hf.im, fun b hb hlt => hf.imn b (ac.imn b hb hlt) (fun hl => by have := ac.fresh b hl; omega), ac.fr, ac.still, ac.lvl, fun b hb => ac.new b (hlb _ _ hb), fun b hb => ac.fresh b (hlb _ _ hb)⟩, ⟨fun i b hb => (h.env.val i b hb).mono hf.im _ (RhoLe.refl _), h.env.lt⟩, h.size, h.defers, h.rt, h.rtl, h.rtn⟩
          · rw [e2] at hc
            simp at hc
      · exact ⟨Im, h⟩
    · exact ⟨Im, h⟩
  · exact ⟨Im, h⟩
theorem Now.frzT {B : Base} {Im : Imm} {ρ : List Loc} {act : Act} {w : World} : ∀ (l : List Nat) {s : St}, Now B s Im ρ act w → ∃ Im', Now B (Sym.frzT l s) Im' ρ act w
  | [], s, h => ⟨Im, h⟩
  | _ :: _ :: r, s, h => Now.frzT r h
  | [t], s, h => by
    unfold Sym.frzT
    split
    · exact Now.frzE t h
    · exact Now.frzC _ _ h
theorem reg_ok {P : Program} {C : CT} (hm : P.follows .mixedOrders = true) (hC : CallsOK P C) {B : Base} {lf : Nat} {hv : List Nat} (id : Nat) (ops : Array Oper) (draw : Bool) (an an' : List (List Nat)) (ac : AC) (s s' : St) (x : AE) (Im : Imm) (ρ : List Loc) (act : Act) (w : World) (Q : Exit → Act → World → Prop) (hc : compReg P B.N hv ops draw an = some (ac, an')) (h : aexec C lf ac s = some (x, s')) (hN : Now B s Im ρ act w)
    (hQ : ∀ Im' ρ' act' w', Now B s' Im' ρ' act' w' → Q (exOf x) act' w') : (Code.region id ops draw).wp P Q act w := by
  simp only [compReg, Option.bind_eq_some_iff] at hc
  obtain ⟨l, hl, hc⟩ := hc
  have hD : Fr w { w with drawn := w.drawn + 1 } (fun _ => False) := ⟨rfl, rfl, rfl, Nat.le_refl _, fun _ _ _ => rfl⟩
  split at hc
  · rename_i hd
    subst hd
    cases hc
    simp only [aexec, Option.map_eq_some_iff] at h
    obtain ⟨s1, h1, h⟩ := h
    cases h
    exact wp_region_list (aops_wp hC ops.toList l s s' Im ρ act w hl h1 hN hQ)
  · rename_i hd
    have hd' : draw = true := by simpa using hd
    subst hd'
    split at hc
    · rename_i hlex
      rw [Bool.and_eq_true] at hlex
      cases hc
      simp only [aexec, Option.map_eq_some_iff] at h
      obtain ⟨e', h1, h⟩ := h
      cases h
      exact wp_region_quiet (C := fun w1 => Fr w w1 (fun _ => False)) hm hlex.1 hD (aopsQ_quiet hC (Nat.le_refl 1) hN.acc.rel ops.toList l s.env e' act hl h1 hN.env hN.size fun act' q1 q2 q3 w1 hf => hQ _ _ _ _ (hN.up hf q1 q2 q3))
    · split at hc
      case h_2 =>
        split at hc
        case h_1 =>
          rename_i π hπ
          split at hc
          case isFalse => cases hc
          rename_i hb
          rw [Bool.and_eq_true] at hb
          cases hc
          simp only [aexec, Option.map_eq_some_iff] at h
          obtain ⟨s1, h1, h⟩ := h
          cases h
          exact regm_ok hm hC hl hb.1 hπ hb.2 h1 hN hQ
        split at hc
        case h_1 =>
          rename_i π hπ
          have hπ' : treeGo ops (l.map fun o => clsV hv o.op) ops.size (Array.replicate ops.size false) = some π := by
            split at hπ
            · cases hπ
            · exact hπ
          split at hc
          case isFalse => cases hc
          rename_i hb
          rw [Bool.and_eq_true] at hb
          cases hc
          simp only [aexec, Option.map_eq_some_iff] at h
          obtain ⟨s1, h1, h⟩ := h
          cases h
          exact regx_ok hm hC hl hb.1 hπ' hb.2 h1 hN hQ
        split at hc
        case isFalse => cases hc
        rename_i hlex
        cases hc
        simp only [aexec, Option.map_eq_some_iff] at h
        obtain ⟨s1, h1, h⟩ := h
        cases h
        exact regs_ok hm hC hl hlex h1 hN fun act' w' => hQ Im ρ act' w'
      rename_i n hn
      cases hc
      have hn : (List.range ops.size).find? (fun n => ((List.take n l).all fun o => !heavy hv o.op) && Region.lexTailB Region.Mode.any ops n) = some n := by
        split at hn
        · cases hn
        · exact hn
      have hB := (Bool.and_eq_true _ _ ▸ List.find?_some hn).2
      simp only [aexec, Option.bind_eq_some_iff, Option.map_eq_some_iff] at h
      obtain ⟨e', h1, s1, h2, h⟩ := h
      cases h
      obtain ⟨oL, rfl⟩ : ∃ oL : List Oper, ops = oL.toArray := ⟨ops.toList, by simp⟩
      have split : ∀ (l : List Oper) (os : List AOper) (n : Nat), compOps P B.N oL.toArray l = some os → compOps P B.N oL.toArray (l.take n) = some (os.take n) ∧ compOps P B.N oL.toArray (l.drop n) = some (os.drop n) := by
        intro l
        induction l with
        | nil => intro os n h; cases h; simp [compOps]
        | cons o l ih =>
          intro os n h
          cases n with
          | zero => exact ⟨by simp [compOps], by simpa using h⟩
          | succ n =>
            simp only [compOps, Option.bind_eq_some_iff] at h
            obtain ⟨ao, hao, g, hg, os', hos, h⟩ := h
            split at h
            · rename_i hd
              cases h
              obtain ⟨i1, i2⟩ := ih os' n hos
              refine ⟨?_, by simpa using i2⟩
              simp only [List.take_succ_cons, compOps, hao, hg, i1, Option.bind_some, hd, if_true]
            · cases h
      obtain ⟨c1, c2⟩ := split _ _ n hl
      have hR1 := hN.acc.rel.same (w' := { w with drawn := w.drawn + 1 }) fun b _ => rfl
      refine wp_region_still_tail n hm hB (aopsQ_still hC hR1 _ _ s.env e' act c1 h1 hN.env hN.size fun act' q1 q2 q3 => ?_)
      exact aops_wp hC _ _ _ s' Im ρ act' _ c2 h2 (hN.up hD q1 q2 q3) hQ
theorem code_wp {P : Program} {C : CT} (hm : P.follows .mixedOrders = true) (hC : CallsOK P C) {B : Base} {lf : Nat} {hv : List Nat} : ∀ (c : Code) (an an' : List (List Nat)) (ac : AC) (s s' : St) (x : AE) (Im : Imm) (ρ : List Loc) (act : Act) (w : World) (Q : Exit → Act → World → Prop), compC P B.N hv c an = some (ac, an') → aexec C lf ac s = some (x, s') → Now B s Im ρ act w →
    (∀ Im' ρ' act' w', Now B s' Im' ρ' act' w' → Q (exOf x) act' w') → c.wp P Q act w := by
  intro c
  induction c with
  | skip => intro an an' ac s s' x Im ρ act w Q hc h hN hQ; cases hc; cases h; exact wp_skip (hQ _ _ _ _ hN)
  | ret => intro an an' ac s s' x Im ρ act w Q hc h hN hQ; cases hc; cases h; exact wp_ret (hQ _ _ _ _ hN)
  | exit id => intro an an' ac s s' x Im ρ act w Q hc h hN hQ; cases hc; cases h; exact wp_exit (hQ _ _ _ _ hN)
  | seq a b iha ihb =>
    intro an an' ac s s' x Im ρ act w Q hc h hN hQ
    simp only [compC, Option.bind_eq_some_iff] at hc
    obtain ⟨⟨a', an1⟩, ha, ⟨b', an2⟩, hb, hc⟩ := hc
    cases hc
    simp only [aexec, Option.bind_eq_some_iff] at h
    obtain ⟨⟨y, s1⟩, h1, h⟩ := h
    refine wp_seq (iha an an1 a' s s1 y Im ρ act w _ ha h1 hN fun Im' ρ' act' w' hN' => ?_)
    cases y with
    | normal => exact ihb an1 _ b' s1 s' x Im' ρ' act' w' Q hb h hN' hQ
    | exit id => cases h; exact hQ _ _ _ _ hN'
    | ret => cases h; exact hQ _ _ _ _ hN'
  | cond xo a b iha ihb =>
    intro an an' ac s s' x Im ρ act w Q hc h hN hQ
    simp only [compC, Option.bind_eq_some_iff] at hc
    obtain ⟨ax, hx, ⟨a', an1⟩, ha, ⟨b', an2⟩, hb, hc⟩ := hc
    cases hc
    simp only [aexec, Option.bind_eq_some_iff] at h
    obtain ⟨v, hv, h⟩ := h
    split at h
    · rename_i t
      have ht := (ev_ok hN.env hx hv).inv_v
      refine wp_cond ht ?_
      cases t with
      | true =>
        simp only [if_true] at h ⊢
        exact iha an an1 a' s s' x Im ρ act w Q ha h hN hQ
      | false =>
        simp only [Bool.false_eq_true, if_false] at h ⊢
        exact ihb an1 _ b' s s' x Im ρ act w Q hb h hN hQ
    · cases h
  | block id b ih =>
    intro an an' ac s s' x Im ρ act w Q hc h hN hQ
    simp only [compC, Option.bind_eq_some_iff] at hc
    obtain ⟨⟨b', an1⟩, hb, hc⟩ := hc
    cases hc
    simp only [aexec, Option.bind_eq_some_iff] at h
    obtain ⟨⟨y, s1⟩, h1, h⟩ := h
    refine wp_block (ih an _ b' s s1 y Im ρ act w _ hb h1 hN fun Im' ρ' act' w' hN' => ?_)
    cases y with
    | normal => cases h; exact hQ _ _ _ _ hN'
    | ret => cases h; exact hQ _ _ _ _ hN'
    | exit j =>
      simp only at h
      simp only [exOf, Exit.inBlock]
      split at h
      · rename_i hj
        cases h
        rw [if_pos hj]
        exact hQ _ _ _ _ hN'
      · rename_i hj
        cases h
        rw [if_neg hj]
        exact hQ _ _ _ _ hN'
  | loop b ih =>
    intro an an' ac s s' x Im ρ act w Q hc h hN hQ
    cases an with
    | nil => cases hc
    | cons live an =>
      simp only [compC, Option.bind_eq_some_iff] at hc
      obtain ⟨⟨b', an1⟩, hb, hc⟩ := hc
      cases hc
      simp only [aexec] at h
      have key : ∀ (n : Nat) (s : St) (Im : Imm) (ρ : List Loc) (act : Act) (w : World), loopN (aexec C lf b') live n s = some (x, s') → Now B s Im ρ act w → Code.rounds P b Q n act w := by
        intro n
        induction n with
        | zero => intro s Im ρ act w h; cases h
        | succ n ihn =>
          intro s Im ρ act w h hN
          simp only [loopN, Option.bind_eq_some_iff] at h
          obtain ⟨s1, hs1, ⟨y, s2⟩, h1, h⟩ := h
          obtain ⟨ρ1, hN1⟩ := canon_ok hs1 hN
          rw [rounds_succ]
          refine ih an an1 b' s1 s2 y Im ρ1 act w _ hb h1 hN1 fun Im' ρ' act' w' hN' => ?_
          cases y with
          | normal => exact ihn s2 Im' ρ' act' w' h hN'
          | exit id => cases h; exact hQ _ _ _ _ hN'
          | ret => cases h; exact hQ _ _ _ _ hN'
      exact wp_loop_rounds lf (key lf s Im ρ act w h hN)
  | region id ops draw =>
    intro an an' ac s s' x Im ρ act w Q hc h hN hQ
    cases an with
    | nil =>
      rw [compC] at hc
      split at hc
      · cases hc
      · exact reg_ok hm hC id ops draw _ _ ac s s' x Im ρ act w Q hc h hN hQ
    | cons l an =>
      rw [compC] at hc
      split at hc
      · simp only [Option.bind_eq_some_iff] at hc
        obtain ⟨⟨r, an1⟩, hr, hc⟩ := hc
        cases hc
        simp only [aexec, Option.bind_eq_some_iff] at h
        obtain ⟨⟨y, s1⟩, h1, h⟩ := h
        refine reg_ok hm hC id ops draw _ _ r s s1 y Im ρ act w Q hr h1 hN fun Im' ρ' act' w' hN' => ?_
        cases y with
        | normal =>
          cases h
          obtain ⟨Im2, hN2⟩ := Now.frzT l (hN'.agree (r := { s1 with env := dropR l s1.env }) rfl rfl rfl fun i a hi => get_dropR hi)
          exact hQ _ _ _ _ hN2
        | exit id => cases h; exact hQ _ _ _ _ hN'
        | ret => cases h; exact hQ _ _ _ _ hN'
      · exact reg_ok hm hC id ops draw _ _ ac s s' x Im ρ act w Q hc h hN hQ
  | _ => intro an an' ac s s' x Im ρ act w Q hc h hN hQ; cases an <;> cases hc
end Go.Proofs.Ythkjiclplecljaa.Sym

/- Results; functions. -/
namespace Go.Proofs.Ythkjiclplecljaa.Sym
open Go
set_option linter.unusedVariables false
set_option linter.unusedSimpArgs false

theorem VRs.mono {Im Im' : Imm} (hI : ImLe Im Im') {ρ ρ' : List Loc} (hρ : RhoLe ρ ρ') : ∀ {as : List AV} {us : List Value}, VRs Im ρ as us → VRs Im' ρ' as us
  | [], [], _ => trivial
  | a :: as, u :: us, h => ⟨h.1.mono hI _ hρ, VRs.mono hI hρ h.2⟩
  | [], u :: us, h => h.elim
  | a :: as, [], h => h.elim
theorem VRs.length {Im : Imm} {ρ : List Loc} : ∀ {as : List AV} {us : List Value}, VRs Im ρ as us → as.length = us.length
  | [], [], _ => rfl
  | a :: as, u :: us, h => by simp [VRs.length h.2]
  | [], u :: us, h => h.elim
  | a :: as, [], h => h.elim
/-- The results. -/
theorem res_ok {P : Program} {Im : Imm} {ρ : List Loc} {Ω : List Obj} {w : World} (hR : Rel Im ρ Ω w) {e : Env} {act : Act} (hE : EnvOK Im ρ e act) (f : ResultVar → Sem Value) (hf : ∀ u, f (.tmp u) = pure (act.tmps.getD u undef)) (hc : ∀ a t, f (.cell a t) = (do loadVar t (← asAddr (act.tmps.getD a undef)))) :
    ∀ (rs : List ResultVar) (xs : List RV) (l : List AV), compR P rs = some xs → aRes e Ω xs = some l → ∃ vs, (rs.mapM f).run P w = .ok vs w ∧ VRs Im ρ l vs
  | [], xs, l, h1, h2 => by cases h1; cases h2; exact ⟨[], by simp, trivial⟩
  | .tmp u :: rs, xs, l, h1, h2 => by
    simp only [compR, Option.bind_eq_some_iff] at h1
    obtain ⟨xs', hxs, h1⟩ := h1
    cases h1
    simp only [aRes, Option.bind_eq_some_iff] at h2
    obtain ⟨a, ha, l', hl, h2⟩ := h2
    cases h2
    obtain ⟨vs, hr, hv⟩ := res_ok hR hE f hf hc rs xs' l' hxs hl
    exact ⟨_ :: vs, by simp [List.mapM_cons, hf, hr], hE.val _ _ ha, hv⟩
  | .cell p t :: rs, xs, l, h1, h2 => by
    simp only [compR, Option.bind_eq_some_iff] at h1
    obtain ⟨m, hm, xs', hxs, h1⟩ := h1
    cases h1
    simp only [aRes, Option.bind_eq_some_iff] at h2
    obtain ⟨q, hq, a, ha, l', hl, h2⟩ := h2
    cases h2
    obtain ⟨vs, hr, hv⟩ := res_ok hR hE f hf hc rs xs' l' hxs hl
    obtain ⟨y, hy, hrun⟩ := aLoad_ok (P := P) hm hR (hE.val _ _ hq) ha
    have h0 := hrun w (SameK.refl _ _ _ w)
    have hs : (do loadVar t (← asAddr (act.tmps.getD p undef)) : Sem Value).run P w = .ok y w := by
      simp only [Instr.loadAt, Sem.run_bind] at h0
      generalize act.tmps.getD p undef = u at h0 ⊢
      cases u with
      | pointer a =>
        cases a with
        | none => simp [Instr.sureAddr] at h0
        | some a => simpa [Instr.sureAddr, asAddr] using h0
      | _ => simp [Instr.sureAddr] at h0
    refine ⟨y :: vs, ?_, hy, hv⟩
    rw [List.mapM_cons, hc]
    simp only [Sem.run_bind] at hs
    simp only [Sem.run_bind, hs, Result.andThen_ok, hr, Sem.run_pure]
theorem one_ok {Im : Imm} {ρ : List Loc} {l : List AV} {vs : List Value} (h : VRs Im ρ l vs) : VR Im ρ (one l) (if hs : vs.length = 1 then vs[0] else .tuple vs.toArray) := by
  match l, vs, h with
  | [], [], _ => exact .tup #[] (fun _ => undef) rfl (fun i a hi => by simp at hi) (fun i a hi => by simp at hi)
  | [a], [v], h => exact h.1
  | a :: b :: l, u :: v :: vs, h =>
    have hl := VRs.length h
    have h2 : VR Im ρ (.tup (a :: b :: l)) (.tuple (u :: v :: vs).toArray) := by
      have get : ∀ (as : List AV) (us : List Value), VRs Im ρ as us → ∀ (i : Nat) c, as[i]? = some c → ∃ x, us[i]? = some x ∧ VR Im ρ c x := by
        intro as
        induction as with
        | nil => intro us _ i c hi; simp at hi
        | cons c as ih =>
          intro us h i d hi
          cases us with
          | nil => exact h.elim
          | cons x us =>
            cases i with
            | zero => simp at hi; subst hi; exact ⟨x, rfl, h.1⟩
            | succ i => obtain ⟨y, h1, h2⟩ := ih us h.2 i d (by simpa using hi); exact ⟨y, by simpa using h1, h2⟩
      have hcv : CV Im ρ (a :: b :: l) (u :: v :: vs).toArray := CV.mk (by simpa using hl) fun i c hi => by
        obtain ⟨x, h1, h2⟩ := get _ _ h i c hi
        exact ⟨x, by rw [List.getElem?_toArray]; exact h1, h2⟩
      exact .tup _ hcv.2.choose hcv.1 hcv.2.choose_spec.1 hcv.2.choose_spec.2
    rw [dif_neg (by simp)]
    exact h2
  | [a], v :: v' :: vs, h => exact h.2.elim
  | a :: b :: l, [v], h => exact h.2.elim
  | [], v :: vs, h => exact h.elim
  | a :: l, [], h => exact h.elim
theorem results_run {P : Program} {fn : Func} {tmps : Array Value} {w : World} {vs : List Value} (h : ∀ f : ResultVar → Sem Value, (∀ u, f (.tmp u) = pure (tmps.getD u undef)) → (∀ a t, f (.cell a t) = (do loadVar t (← asAddr (tmps.getD a undef)))) → (fn.results.toList.mapM f).run P w = .ok vs w) :
    (results fn tmps).run P w = .ok (if hs : vs.length = 1 then vs[0] else .tuple vs.toArray) w := by
  unfold results
  obtain ⟨rs, hrs⟩ : ∃ rs : List ResultVar, fn.results = rs.toArray := ⟨fn.results.toList, by simp⟩
  rw [hrs] at h ⊢
  rw [List.mapM_toArray]
  simp only [Sem.run_bind, Sem.run_map]
  rw [h _ (fun u => rfl) (fun a t => rfl)]
  simp

/-! ### rows that nobody writes any more -/
theorem frzL_ok {ρ : List Loc} {w : World} : ∀ (as : List AV) (Im : Imm) (Ω : List Obj) (us : List Value), Rel Im ρ Ω w → VRs Im ρ as us → ∃ Im', Frz Im ρ Ω w Im' (frzL Ω as).2 ∧ VRs Im' ρ (frzL Ω as).1 us
  | [], Im, Ω, [], hR, _ => ⟨Im, Frz.refl hR, trivial⟩
  | a :: as, Im, Ω, u :: us, hR, h => by
    obtain ⟨Im1, h1, h2⟩ := frz0_ok hR h.1
    obtain ⟨Im2, h3, h4⟩ := frzL_ok as Im1 _ us h1.rel (h.2.mono h1.im (RhoLe.refl _))
    exact ⟨Im2, h1.trans h3, h2.mono h3.im _ (RhoLe.refl _), h4⟩
  | [], Im, Ω, u :: us, _, h => h.elim
  | a :: as, Im, Ω, [], _, h => h.elim
theorem VRs.to_cv {Im : Imm} {ρ : List Loc} {as : List AV} {us : List Value} (h : VRs Im ρ as us) : CV Im ρ as us.toArray := by
  have get : ∀ (as : List AV) (us : List Value), VRs Im ρ as us → ∀ (i : Nat) c, as[i]? = some c → ∃ x, us[i]? = some x ∧ VR Im ρ c x := by
    intro as
    induction as with
    | nil => intro us _ i c hi; simp at hi
    | cons c as ih =>
      intro us h i d hi
      cases us with
      | nil => exact h.elim
      | cons x us =>
        cases i with
        | zero => simp at hi; subst hi; exact ⟨x, rfl, h.1⟩
        | succ i => obtain ⟨y, h1, h2⟩ := ih us h.2 i d (by simpa using hi); exact ⟨y, by simpa using h1, h2⟩
  refine CV.mk (by simpa using VRs.length h) fun i c hi => ?_
  obtain ⟨x, h1, h2⟩ := get _ _ h i c hi
  exact ⟨x, by rw [List.getElem?_toArray]; exact h1, h2⟩
theorem frz1_ok {Im : Imm} {ρ : List Loc} {Ω : List Obj} {w : World} (hR : Rel Im ρ Ω w) {a : AV} {x : Value} (hx : VR Im ρ a x) : ∃ Im', Frz Im ρ Ω w Im' (frz1 Ω a).2 ∧ VR Im' ρ (frz1 Ω a).1 x := by
  by_cases ha : ∃ cs, a = .agg cs
  · obtain ⟨cs, rfl⟩ := ha
    cases hx with
    | agg arr f hl h1 h2 =>
      obtain ⟨Im', h3, h4⟩ := frzL_ok cs Im Ω arr.toList hR (VRs.of_get (by simpa using hl) fun i a hi => ⟨f i, by rw [Array.getElem?_toList]; exact h1 i a hi, h2 i a hi⟩)
      refine ⟨Im', h3, ?_⟩
      have := h4.to_cv.agg
      rw [Array.toArray_toList] at this
      exact this
  · have e : frz1 Ω a = frz0 Ω a := by cases a <;> first | rfl | exact absurd ⟨_, rfl⟩ ha
    rw [e]
    exact frz0_ok hR hx
theorem frzM_ok {ρ : List Loc} {w : World} : ∀ (as : List AV) (Im : Imm) (Ω : List Obj) (us : List Value), Rel Im ρ Ω w → VRs Im ρ as us → ∃ Im', Frz Im ρ Ω w Im' (frzM Ω as).2 ∧ VRs Im' ρ (frzM Ω as).1 us
  | [], Im, Ω, [], hR, _ => ⟨Im, Frz.refl hR, trivial⟩
  | a :: as, Im, Ω, u :: us, hR, h => by
    obtain ⟨Im1, h1, h2⟩ := frz1_ok hR h.1
    obtain ⟨Im2, h3, h4⟩ := frzM_ok as Im1 _ us h1.rel (h.2.mono h1.im (RhoLe.refl _))
    exact ⟨Im2, h1.trans h3, h2.mono h3.im _ (RhoLe.refl _), h4⟩
  | [], Im, Ω, u :: us, _, h => h.elim
  | a :: as, Im, Ω, [], _, h => h.elim

/-! ### functions -/
/-- A table of functions is the program's. -/
def TableOK (P : Program) (T : Tb) : Prop := (∀ f fn, T.tab f = some fn → ∃ F an fz up hv, P.funcs[f]? = some F ∧ compF P F an fz up hv = some fn) ∧ CallsOK P T.ext
theorem args0_get {Im : Imm} {ρ : List Loc} : ∀ (as : List AV) (us : List Value) (k : Nat), VRs Im ρ as us → ∀ i a, get (args0 k as) i = some a → k ≤ i ∧ ∃ u, us[i - k]? = some u ∧ VR Im ρ a u
  | [], [], k, _, i, a, h => by simp [args0, get] at h
  | b :: as, u :: us, k, hv, i, a, h => by
    simp only [args0, get] at h
    split at h
    · rename_i e
      subst e
      cases h
      exact ⟨Nat.le_refl _, u, by simp, hv.1⟩
    · rename_i hne
      obtain ⟨h1, x, h2, h3⟩ := args0_get as us (k + 1) hv.2 i a h
      refine ⟨by omega, x, ?_, h3⟩
      rw [show i - k = (i - (k + 1)) + 1 by omega, List.getElem?_cons_succ]
      exact h2
  | [], u :: us, k, hv, _, _, _ => hv.elim
  | a :: as, [], k, hv, _, _, _ => hv.elim
theorem dedup_first : ∀ (xs ys acc : List Nat), xs.Nodup → (∀ k ∈ xs, k ∉ acc) → ∃ r, dedup (xs ++ ys) acc = acc ++ xs ++ r
  | [], ys, acc, _, _ => by
    have : ∀ (ys acc : List Nat), ∃ r, dedup ys acc = acc ++ r := by
      intro ys
      induction ys with
      | nil => intro acc; exact ⟨[], by simp [dedup]⟩
      | cons y ys ih =>
        intro acc
        rw [dedup]
        split
        · exact ih acc
        · obtain ⟨r, hr⟩ := ih (acc ++ [y])
          exact ⟨y :: r, by rw [hr]; simp⟩
    obtain ⟨r, hr⟩ := this ys acc
    exact ⟨r, by simpa using hr⟩
  | x :: xs, ys, acc, hn, hd => by
    rw [List.cons_append, dedup, if_neg (by simpa using hd x (by simp))]
    obtain ⟨r, hr⟩ := dedup_first xs ys (acc ++ [x]) (List.nodup_cons.1 hn).2 (fun k hk hm => by
      rcases List.mem_append.1 hm with hm | hm
      · exact hd k (by simp [hk]) hm
      · simp at hm
        subst hm
        exact (List.nodup_cons.1 hn).1 hk)
    exact ⟨r, by rw [hr]; simp⟩
theorem finishFn_ok {P : Program} {F : Func} {fn : AFn} {B : Base} {s : St} {r : Res} (hr : compR P F.results.toList = some fn.res) (h : finish fn s = some r) {Im : Imm} {ρ : List Loc} {act : Act} {w : World} (hN : Now B s Im ρ act w) (hRL : ∀ i, i < B.RL.length → B.RL[i]? = B.ρ0[i]?) (hst : ∀ o ∈ B.Ω0, o.fresh = false) :
    ∃ x Im' ρ', (results F act.tmps).run P w = .ok x w ∧ Back B.RL.length B.Im0 B.ρ0 B.Ω0 B.w0 r Im' ρ' x w := by
  unfold finish at h
  rw [Option.bind_eq_some_iff] at h
  obtain ⟨l, hl, h⟩ := h
  have hR := hN.acc.rel
  have hres := fun f hf hc => res_ok (P := P) hR hN.env f hf hc F.results.toList fn.res l hr hl
  -- the values hang on no choice of f
  obtain ⟨vs, hrun0, hvs⟩ := hres (fun | .tmp t => pure (act.tmps.getD t undef) | .cell a t => do loadVar t (← asAddr (act.tmps.getD a undef))) (fun _ => rfl) (fun _ _ => rfl)
  have hrun : (results F act.tmps).run P w = .ok (if hs : vs.length = 1 then vs[0] else .tuple vs.toArray) w := by
    refine results_run fun f hf hc => ?_
    have hfe : f = (fun | .tmp t => pure (act.tmps.getD t undef) | .cell a t => do loadVar t (← asAddr (act.tmps.getD a undef))) := by
      funext q
      cases q with
      | tmp t => exact hf t
      | cell a t => exact hc a t
    rw [hfe]
    exact hrun0
  have hfrz : ∃ Im', Frz Im ρ s.ob w Im' (if fn.frz = true then frzM s.ob l else (l, s.ob)).2 ∧ VRs Im' ρ (if fn.frz = true then frzM s.ob l else (l, s.ob)).1 vs := by
    split
    · exact frzM_ok l Im s.ob vs hR hvs
    · exact ⟨Im, Frz.refl hR, hvs⟩
  generalize hq : (if fn.frz = true then frzM s.ob l else (l, s.ob)) = q at h hfrz
  obtain ⟨l', Ω⟩ := q
  obtain ⟨Im', hf, hv'⟩ := hfrz
  simp only at h hf hv'
  split at h
  case isFalse => cases h
  rename_i hok
  rw [Option.bind_eq_some_iff] at h
  obtain ⟨ord, hord, h⟩ := h
  cases h
  obtain ⟨hcl, hin, rest, hrest⟩ := reach_all hord
  refine ⟨_, Im', subρ ρ ord, hrun, (one_ok hv').ren hok (sub_map (Ω := Ω) _ fun k hk => hin k (List.mem_append_right _ hk)), sub_rel hf.rel hcl _, hN.acc.im.trans hf.im, fun b hb hlt => ?_, fun i hi => ?_, hN.acc.fr.imp fun b hb => ⟨?_, hb.2⟩, fun h0 => hN.acc.still ?_, ?_, fun b hb => ?_, fun b hb => ?_⟩
  · refine hf.imn b (hN.acc.imn b hb hlt) fun hl => ?_
    have := hN.acc.fresh b hl
    omega
  · obtain ⟨r2, hr2⟩ := dedup_first s.rt (refs (one l')) [] hN.rtn (fun k _ hk => by simp at hk)
    have hlt : i < s.rt.length := by rw [hN.rtl]; exact hi
    have hB : B.RL[i]? = some B.RL[i] := List.getElem?_eq_getElem hi
    obtain ⟨k, e1, e2⟩ := hN.rt i _ hB
    have hord : ord[i]? = some k := by
      rw [hrest, hr2, List.nil_append, List.append_assoc, List.getElem?_append_left hlt]
      exact e1
    rw [← hRL i hi, hB]
    exact subρ_get hord e2
  · have := hb.1
    simp only
    split <;> omega
  · simp only at h0
    split at h0 <;> omega
  · have := hN.acc.lvl
    simp only
    split <;> omega
  · obtain ⟨k, o, s1, s2, hk, ho, hl, _, hr⟩ := LBd.of_sub hf.rel hcl hb
    exact hN.acc.new b (hf.lb _ _ ⟨k, o, s1, s2, ho, hl, .inl rfl, hr⟩)
  · obtain ⟨k, o, s1, s2, hk, ho, hl, hfr, hr⟩ := LBd.of_sub hf.rel hcl hb
    exact hN.acc.fresh b (hf.lb _ _ ⟨k, o, s1, s2, ho, hl, .inr (by rcases hfr with e | e; cases e; exact e.1), hr⟩)
/-- Calls answer as the abstract machine says. -/
theorem acall_ok {P : Program} (hm : P.follows .mixedOrders = true) {T : Tb} (hT : TableOK P T) : ∀ k, CallsOK P (acall T k)
  | 0 => fun f n args Ω r h => by cases h
  | k + 1 => fun f n args Ω r h Im ρ w vals hR hst hn hv => by
    simp only [acall] at h
    split at h
    case h_2 => exact hT.2 f n args Ω r h Im ρ w vals hR hst hn hv
    rename_i fn hfn
    split at h
    case isFalse => cases h
    rename_i hnp
    rw [Option.bind_eq_some_iff] at h
    obtain ⟨⟨x, s⟩, hex, h⟩ := h
    obtain ⟨F, an, fz, up, hv', hF, hcomp⟩ := hT.1 f fn hfn
    simp only [compF, Option.bind_eq_some_iff] at hcomp
    obtain ⟨c, hc, ⟨b, rest⟩, hb, rs, hrs, hcomp⟩ := hcomp
    split at hcomp
    case isFalse => cases hcomp
    rename_i hq
    obtain ⟨q1, q2, q3⟩ := hq
    obtain rfl := Option.some.inj hcomp
    refine ⟨⟨F, hF, q2, by rw [hc]; rfl⟩, ?_⟩
    have hlen := VRs.length hv
    have hsz : vals.toArray.size = F.params.size + F.nfree := by
      have : args.length = F.params.size + F.nfree := hnp.1
      simp [← hlen, this]
    let B : Base := ⟨Im, ρ, Ω, w, F.ntmps, ρ.take n⟩
    have hBl : B.RL.length = n := by
      show (ρ.take n).length = n
      rw [List.length_take, hR.len]
      omega
    have hN : Now B ⟨args0 0 args, Ω, 0, List.range n⟩ Im ρ { tmps := vals.toArray ++ Array.replicate (F.ntmps - vals.toArray.size) undef, defers := [] } w := by
      refine ⟨⟨hR, ImLe.refl _, fun _ h _ => h, Fr.refl _ _, fun _ => rfl, Nat.zero_le 2, fun b hb => .inl hb, fun b hb => ?_⟩, ⟨fun i a hi => ?_, fun i a hi => ?_⟩, ?_, rfl, fun i l hl => ?_, ?_, List.nodup_range⟩
      · exfalso
        obtain ⟨i, o, s1, s2, h1, h2, h3, h4⟩ := hb
        rcases h3 with h3 | h3
        · cases h3
        · rw [hst o (List.mem_of_getElem? h1)] at h3
          cases h3
      · obtain ⟨_, u, h1, h2⟩ := args0_get args vals 0 hv i a hi
        have hlt := (List.getElem?_eq_some_iff.1 h1).1
        rw [Nat.sub_zero] at h1 hlt
        rw [Array.getD_eq_getD_getElem?, Array.getElem?_append_left (by simpa using hlt), List.getElem?_toArray, h1]
        exact h2
      · obtain ⟨_, u, h1, h2⟩ := args0_get args vals 0 hv i a hi
        have hlt := (List.getElem?_eq_some_iff.1 h1).1
        rw [Nat.sub_zero] at hlt
        simp
        omega
      · show (vals.toArray ++ Array.replicate (F.ntmps - vals.toArray.size) undef).size = F.ntmps
        rw [Array.size_append, Array.size_replicate, hsz]
        omega
      · have hl' : (ρ.take n)[i]? = some l := hl
        have hlt := (List.getElem?_eq_some_iff.1 hl').1
        rw [List.length_take] at hlt
        rw [List.getElem?_take_of_lt (by omega)] at hl'
        exact ⟨i, by rw [List.getElem?_range (by omega)], hl'⟩
      · rw [List.length_range]
        exact hBl.symm
    refine calls_of_wp hF hc (code_wp hm (acall_ok hm hT k) (B := B) c an rest b _ s x Im ρ _ w _ hb hex hN fun Im' ρ' act' w' hN' => ?_)
    have fin : finish ⟨F.params.size + F.nfree, b, rs, fz, up⟩ s = some r → act'.defers = [] ∧ ∃ v, (results F act'.tmps).run P w' = .ok v w' ∧ ∃ x Im' ρ', Ending.returned v = .returned x ∧ Back n Im ρ Ω w r Im' ρ' x w' := fun hfin => by
      obtain ⟨v, Im2, ρ2, hrun, hback⟩ := finishFn_ok (fn := ⟨F.params.size + F.nfree, b, rs, fz, up⟩) hrs hfin hN' (fun i hi => by
        rw [hBl] at hi
        show (ρ.take n)[i]? = ρ[i]?
        rw [List.getElem?_take_of_lt hi]) hst
      rw [hBl] at hback
      exact ⟨hN'.defers, v, hrun, v, Im2, ρ2, rfl, hback⟩
    cases x with
    | normal => exact fin h
    | ret => exact fin h
    | exit id => cases h
end Go.Proofs.Ythkjiclplecljaa.Sym
