/- Operations that do not look at memory yield the same in every world; regions in an order in which they may be taken. -/
import Derived.Test.YtkaigdfklihlcaaSymZ
namespace Go.Proofs.Ytkaigdfklihlcaa.Sym
open Go
set_option linter.unusedVariables false
set_option linter.unusedSimpArgs false

def YieldsP (P : Program) (Im : Imm) (ρ : List Loc) (o : Oper) (act : Act) (r : AV) : Prop := ∃ y, VR Im ρ r y ∧ ∀ w', (execOp act.eval o).run P w' = .ok (.value y) w'
theorem aqp_ok {P : Program} {o : Oper} {ao : AO} (hc : compOp P o = some ao) (hp : clsOf ao = 2) {Im : Imm} {ρ : List Loc} {Ω : List Obj} {w : World} (hR : Rel Im ρ Ω w) {e : Env} {act : Act} (hE : EnvOK Im ρ e act) {r : AV} (h : aq e Ω ao = some r) : YieldsP P Im ρ o act r := by
  have val' : ∀ (s : Sem Value), execOp act.eval o = (do pure (.value (← s)) : Sem Next) → (∃ y, VR Im ρ r y ∧ ∀ w', s.run P w' = .ok y w') → YieldsP P Im ρ o act r := fun s hs ⟨y, hy, hr⟩ => ⟨y, hy, fun w' => by rw [hs]; exact do_value (hr w')⟩
  have hc0 := hc
  cases ho : o.op with
  | move x =>
    simp only [compOp, ho, Option.map_eq_some_iff] at hc
    obtain ⟨ax, hx, rfl⟩ := hc
    exact ⟨_, ev_ok hE hx h, fun w' => by simp [execOp, ho]⟩
  | assign x =>
    simp only [compOp, ho, Option.map_eq_some_iff] at hc
    obtain ⟨ax, hx, rfl⟩ := hc
    exact ⟨_, ev_ok hE hx h, fun w' => by simp [execOp, ho]⟩
  | pick c a b =>
    simp only [compOp, ho, Option.bind_eq_some_iff] at hc
    obtain ⟨xc, h1, xa, h2, xb, h3, hc⟩ := hc
    cases hc
    simp only [aq, Option.bind_eq_some_iff] at h
    obtain ⟨vc, e1, va, e2, vb, e3, h⟩ := h
    obtain ⟨y, hy, hr⟩ := aPick_ok (P := P) h (ev_ok hE h1 e1) (ev_ok hE h2 e2) (ev_ok hE h3 e3)
    exact ⟨y, hy, fun w' => by simp only [execOp, ho]; exact hr w'⟩
  | binOp op t x y t' =>
    simp only [compOp, ho, Option.bind_eq_some_iff] at hc
    obtain ⟨ax, h1, ay, h2, d, hd, hc⟩ := hc
    have hex : execOp act.eval o = (do pure (.value (← (do eqGuard op t x y (act.eval x) (act.eval y); binOp op t (act.eval x) (act.eval y) : Sem Value))) : Sem Next) := by simp only [execOp, ho]
    refine val' _ hex ?_
    have boolRes : ∀ b, r = .v (.bool b) → (∀ w', (do eqGuard op t x y (act.eval x) (act.eval y); binOp op t (act.eval x) (act.eval y) : Sem Value).run P w' = .ok (.bool b) w') → ∃ y_1, VR Im ρ r y_1 ∧ ∀ w', (do eqGuard op t x y (act.eval x) (act.eval y); binOp op t (act.eval x) (act.eval y) : Sem Value).run P w' = .ok y_1 w' := fun b hb hw => ⟨_, hb ▸ .v rfl, hw⟩
    split at hc
    · cases hc
      simp only [aq, Option.bind_eq_some_iff] at h
      obtain ⟨vx, e1, vy, e2, h⟩ := h
      exact aBin_ok h t (ev_ok hE h1 e1) (ev_ok hE h2 e2) x y
    · cases hc
      simp only [aq, Option.bind_eq_some_iff] at h
      obtain ⟨vx, e1, vy, e2, h⟩ := h
      exact aBin_ok h t (ev_ok hE h1 e1) (ev_ok hE h2 e2) x y
    · split at hc
      · rename_i hop
        cases hc
        simp only [aq, Option.bind_eq_some_iff, Option.map_eq_some_iff] at h
        obtain ⟨vx, e1, vy, e2, b, hb, rfl⟩ := h
        exact boolRes _ rfl fun w' => aEqB_ok hop hb hd (ev_ok hE h1 e1) (ev_ok hE h2 e2) x y w'
      · cases hc
    · split at hc
      · rename_i hop
        cases hc
        simp only [aq, Option.bind_eq_some_iff, Option.map_eq_some_iff] at h
        obtain ⟨vx, e1, vy, e2, b, hb, rfl⟩ := h
        exact boolRes _ rfl fun w' => aEqP_ok hop hb hd (ev_ok hE h1 e1) (ev_ok hE h2 e2) x y w'
      · cases hc
    · split at hc
      · rename_i hop
        cases hc
        simp only [aq, Option.bind_eq_some_iff, Option.map_eq_some_iff] at h
        obtain ⟨vx, e1, vy, e2, b, hb, rfl⟩ := h
        exact boolRes _ rfl fun w' => aEqS_ok hop hb hd (ev_ok hE h1 e1) (ev_ok hE h2 e2) x y w'
      · cases hc
    · split at hc
      · rename_i hop
        simp only [Bool.and_eq_true, Bool.not_eq_true'] at hop
        simp only [Option.bind_eq_some_iff] at hc
        obtain ⟨ls, hls, hc⟩ := hc
        cases hc
        simp only [aq, Option.bind_eq_some_iff] at h
        obtain ⟨vx, e1, vy, e2, h⟩ := h
        split at h
        · simp only [Option.map_eq_some_iff] at h
          obtain ⟨b, hb, rfl⟩ := h
          exact boolRes _ rfl fun w' => eqst_ok hop.1 hd hop.2 hls hb (ev_ok hE h1 e1) (ev_ok hE h2 e2) x y w'
        · cases h
      · cases hc
    · cases hc
  | unOp op t x =>
    simp only [compOp, ho, Option.map_eq_some_iff] at hc
    obtain ⟨ax, hx, rfl⟩ := hc
    simp only [aq, Option.bind_eq_some_iff] at h
    obtain ⟨vx, e1, h⟩ := h
    exact val' _ (by simp only [execOp, ho]) (aUn_ok h (ev_ok hE hx e1))
  | load t x =>
    simp only [compOp, ho, Option.bind_eq_some_iff] at hc
    obtain ⟨m, hm, ax, hx, hc⟩ := hc
    cases hc
    cases hp
  | field t x f =>
    simp only [compOp, ho, Option.bind_eq_some_iff] at hc
    obtain ⟨d, hd, hc⟩ := hc
    split at hc
    · rename_i fs
      simp only [Option.bind_eq_some_iff] at hc
      obtain ⟨fd, hf, m, hm, ax, hx, hc⟩ := hc
      cases hc
      simp only [aq, Option.bind_eq_some_iff] at h
      obtain ⟨vx, e1, h⟩ := h
      obtain ⟨cs, hcs, y, hy, hr⟩ := aField_ok (P := P) hm h (ev_ok hE hx e1)
      exact val' (Instr.field t (act.eval x) f) (by simp only [execOp, ho]) ⟨y, hy, fun w' => by simp [Instr.field, run_underlying hd, hf, hcs, asAgg, hr]⟩
    · cases hc
  | fieldAddr t x f =>
    simp only [compOp, ho, Option.bind_eq_some_iff] at hc
    obtain ⟨d, hd, hc⟩ := hc
    split at hc
    · rename_i fs
      simp only [Option.bind_eq_some_iff] at hc
      obtain ⟨fd, hf, n, hn, hc⟩ := hc
      split at hc
      · cases hc
      · rename_i hn0
        simp only [Option.bind_eq_some_iff] at hc
        obtain ⟨ax, hx, hc⟩ := hc
        cases hc
        simp only [aq, Option.bind_eq_some_iff] at h
        obtain ⟨vx, e1, h⟩ := h
        obtain ⟨b, off, hp, hr⟩ := aFad_ok h (ev_ok hE hx e1)
        exact val' (Instr.fieldAt t (act.eval x) f) (by simp only [execOp, ho]) ⟨_, hr, fun w' => by simp [Instr.fieldAt, run_underlying hd, hf, hp, Instr.sureAddr, fieldPlace, run_sizeOf' hn, hn0, add_at]⟩
    · cases hc
  | nilCheck x =>
    simp only [compOp, ho, Option.map_eq_some_iff] at hc
    obtain ⟨ax, hx, rfl⟩ := hc
    simp only [aq, Option.bind_eq_some_iff] at h
    obtain ⟨vx, e1, h⟩ := h
    obtain ⟨hv, a, ha⟩ := aNilck_ok (P := P) h (ev_ok hE hx e1)
    exact ⟨_, hv, fun w' => by simp only [execOp, ho, ha]; rfl⟩
  | indexAddr t x i =>
    simp only [compOp, ho, Option.bind_eq_some_iff] at hc
    obtain ⟨ax, hx, ai, hi, d, hd, hc⟩ := hc
    split at hc
    · simp only [Option.bind_eq_some_iff] at hc
      obtain ⟨n, hn, hc⟩ := hc
      cases hc
      simp only [aq, Option.bind_eq_some_iff] at h
      obtain ⟨vx, e1, vi, e2, h⟩ := h
      exact val' _ (by simp only [execOp, ho]) (aIxS_ok hd hn h (ev_ok hE hx e1) (ev_ok hE hi e2))
    · simp only [Option.bind_eq_some_iff] at hc
      obtain ⟨n, hn, hc⟩ := hc
      cases hc
      simp only [aq, Option.bind_eq_some_iff] at h
      obtain ⟨vx, e1, vi, e2, h⟩ := h
      exact val' _ (by simp only [execOp, ho]) (aIxA_ok hd hn h (ev_ok hE hx e1) (ev_ok hE hi e2))
    · cases hc
  | index t x i =>
    simp only [compOp, ho, Option.bind_eq_some_iff] at hc
    obtain ⟨ax, hx, ai, hi, d, hd, hc⟩ := hc
    split at hc
    · cases hc
      simp only [aq, Option.bind_eq_some_iff] at h
      obtain ⟨vx, e1, vi, e2, h⟩ := h
      exact val' _ (by simp only [execOp, ho]) (aIxStr_ok hd h (ev_ok hE hx e1) (ev_ok hE hi e2))
    · simp only [Option.bind_eq_some_iff] at hc
      obtain ⟨n, hn, m, hm, hc⟩ := hc
      cases hc
      simp only [aq, Option.bind_eq_some_iff] at h
      obtain ⟨vx, e1, vi, e2, h⟩ := h
      exact val' _ (by simp only [execOp, ho]) (aIxV_ok hd hn hm h (ev_ok hE hx e1) (ev_ok hE hi e2))
    · cases hc
  | extract x i =>
    simp only [compOp, ho, Option.map_eq_some_iff] at hc
    obtain ⟨ax, hx, rfl⟩ := hc
    simp only [aq, Option.bind_eq_some_iff] at h
    obtain ⟨vx, e1, h⟩ := h
    exact val' _ (by simp only [execOp, ho]) (aExt_ok h (ev_ok hE hx e1))
  | convert s d x =>
    simp only [compOp, ho, Option.bind_eq_some_iff] at hc
    obtain ⟨ax, hx, su, hs, du, hd, hc⟩ := hc
    split at hc
    · cases hc
      simp only [aq, Option.bind_eq_some_iff] at h
      obtain ⟨vx, e1, h⟩ := h
      exact val' _ (by simp only [execOp, ho]) (aCvi_ok hs hd h (ev_ok hE hx e1))
    · cases hc
      simp only [aq, Option.bind_eq_some_iff] at h
      obtain ⟨vx, e1, h⟩ := h
      exact val' _ (by simp only [execOp, ho]) (aCvs_ok hs hd h (ev_ok hE hx e1))
    · split at hc
      · cases hc
        simp [aq] at h
      · cases hc
    · split at hc
      · rename_i he
        cases hc
        cases hp
      · cases hc
    · cases hc
  | slice t x lo hi mx =>
    simp only [compOp, ho, Option.bind_eq_some_iff] at hc
    obtain ⟨ax, hx, al, hl, ah, hh, am, hm, d, hd, hc⟩ := hc
    split at hc
    · split at hc
      · rename_i hmn
        cases hc
        simp only [aq, Option.bind_eq_some_iff] at h
        obtain ⟨vx, e1, vl, e2, vh, e3, h⟩ := h
        have hmx : mx = none := by
          cases mx with
          | none => rfl
          | some m => simp only [cxo, Option.map_eq_some_iff] at hm; obtain ⟨z, _, rfl⟩ := hm; simp at hmn
        subst hmx
        exact val' _ (by simp only [execOp, ho]; rfl) (aSlStr_ok hd h (ev_ok hE hx e1) (evO_ok hE hl e2) (evO_ok hE hh e3))
      · cases hc
    · simp only [Option.bind_eq_some_iff] at hc
      obtain ⟨n, hn, hc⟩ := hc
      split at hc
      · cases hc
      · rename_i hb
        cases hc
        simp only [aq, Option.bind_eq_some_iff] at h
        obtain ⟨vx, e1, vl, e2, vh, e3, vm, e4, h⟩ := h
        exact val' _ (by simp only [execOp, ho]) (aSlS_ok hd hn hR (bnd_mx (Im := Im) (ρ := ρ) hm e4 hh e3 hb) h (ev_ok hE hx e1) (evO_ok hE hl e2) (evO_ok hE hh e3) (evO_ok hE hm e4))
    · cases hc
  | build t parts => exact val' _ (by simp only [execOp, ho]) (build_ok ho hc0 hE h)
  | call c =>
    simp only [compOp, ho, Option.bind_eq_some_iff] at hc
    obtain ⟨xs, hxs, hc⟩ := hc
    split at hc
    · simp only [Option.bind_eq_some_iff] at hc
      obtain ⟨f, hf, hc⟩ := hc
      cases hc
      simp [aq] at h
    · cases hc
    · rename_i bi hcal
      have hargs : (c.args.map act.eval).toList = c.args.toList.map act.eval := Array.toList_map
      have hex : ∀ b, bi = b → execOp act.eval o = builtin b c.argTypes o.type (c.args.map fun | .const _ => true | _ => false) (c.args.map act.eval) := fun b hb => by subst hb; simp only [execOp, ho, resolve, hcal, invoke, pure_bind]; rfl
      split at hc
      · rename_i t ts x hts
        have ht0 : c.argTypes[0]? = some t := by rw [← Array.getElem?_toList, hts]; rfl
        simp only [Option.bind_eq_some_iff] at hc
        obtain ⟨d, hd, hc⟩ := hc
        have hone : ∃ u, c.args.map act.eval = #[u] ∧ ∀ a, ev e x = some a → VR Im ρ a u := by
          cases ha : c.args.toList with
          | nil => rw [ha] at hxs; cases hxs
          | cons p ps =>
            rw [ha] at hxs
            simp only [cxs, Option.bind_eq_some_iff] at hxs
            obtain ⟨b, hb, bs, hbs, hxs⟩ := hxs
            injection hxs with hxs
            injection hxs with e1 e2
            subst e1 e2
            cases ps with
            | nil =>
              refine ⟨act.eval p, ?_, fun a hea => ev_ok hE hb hea⟩
              apply Array.ext'
              rw [Array.toList_map, ha]
              rfl
            | cons q qs =>
              simp only [cxs, Option.bind_eq_some_iff] at hbs
              obtain ⟨_, _, _, _, hbs⟩ := hbs
              cases hbs
        obtain ⟨u, hu, hv⟩ := hone
        split at hc
        · cases hc
          simp only [aq, Option.bind_eq_some_iff] at h
          obtain ⟨vx, e1, h⟩ := h
          obtain ⟨y, hy, hr⟩ := aLenS_ok (P := P) (ty := o.type) ht0 hd h (hv _ e1)
          exact ⟨y, hy, fun w' => by rw [hex _ rfl, hu]; exact do_value (hr w')⟩
        · cases hc
          simp only [aq, Option.bind_eq_some_iff] at h
          obtain ⟨vx, e1, h⟩ := h
          obtain ⟨y, hy, hr⟩ := aLen_ok (P := P) (ty := o.type) ht0 hd h (hv _ e1)
          exact ⟨y, hy, fun w' => by rw [hex _ rfl, hu]; exact do_value (hr w')⟩
        · cases hc
      · cases hc
        simp only [aq, Option.bind_eq_some_iff] at h
        obtain ⟨l, hl, h⟩ := h
        have hvs := evs_ok hE _ _ _ hxs hl
        obtain ⟨a, as, rfl, h⟩ := aFold_cons h
        rw [← hargs] at hvs
        cases hm : (c.args.map act.eval).toList with
        | nil => rw [hm] at hvs; exact hvs.elim
        | cons v vs =>
          rw [hm] at hvs
          obtain ⟨y, hy, hr⟩ := aFold_ok (P := P) (fun a b r u v => aMin2_ok) as a v vs r h hvs.1 hvs.2
          have he : c.args.map act.eval = (v :: vs).toArray := Array.ext' hm
          exact ⟨y, hy, fun w' => by rw [hex _ rfl, he]; exact do_value (run_min (hr w'))⟩
      · cases hc
        simp only [aq, Option.bind_eq_some_iff] at h
        obtain ⟨l, hl, h⟩ := h
        have hvs := evs_ok hE _ _ _ hxs hl
        obtain ⟨a, as, rfl, h⟩ := aFold_cons h
        rw [← hargs] at hvs
        cases hm : (c.args.map act.eval).toList with
        | nil => rw [hm] at hvs; exact hvs.elim
        | cons v vs =>
          rw [hm] at hvs
          obtain ⟨y, hy, hr⟩ := aFold_ok (P := P) (fun a b r u v => aMax2_ok) as a v vs r h hvs.1 hvs.2
          have he : c.args.map act.eval = (v :: vs).toArray := Array.ext' hm
          exact ⟨y, hy, fun w' => by rw [hex _ rfl, he]; exact do_value (run_max (hr w'))⟩
      · simp only [Option.bind_eq_some_iff] at hc
        obtain ⟨d, hd, hc⟩ := hc
        split at hc
        · simp only [Option.bind_eq_some_iff] at hc
          obtain ⟨i, hi, z, hz, u, hu, hc⟩ := hc
          split at hc
          · cases hc
            simp [aq] at h
          · cases hc
        · cases hc
      · simp only [Option.bind_eq_some_iff] at hc
        obtain ⟨d, hd, hc⟩ := hc
        split at hc
        · simp only [Option.bind_eq_some_iff] at hc
          obtain ⟨i, hi, hc⟩ := hc
          cases hc
          simp [aq] at h
        · cases hc
      · simp only [Option.bind_eq_some_iff] at hc
        obtain ⟨d, hd, hc⟩ := hc
        split at hc
        · simp only [Option.bind_eq_some_iff] at hc
          obtain ⟨n, hn, z, hz, hc⟩ := hc
          split at hc
          · cases hc
            simp [aq] at h
          · cases hc
        · cases hc
      · cases hc
  | makeFunc f first captured =>
    simp only [compOp, ho] at hc
    split at hc
    case h_2 => cases hc
    rename_i g
    split at hc
    case isFalse => cases hc
    rename_i hfirst
    simp only [Option.map_eq_some_iff] at hc
    obtain ⟨xs, hxs, rfl⟩ := hc
    simp only [aq, Option.bind_eq_some_iff] at h
    obtain ⟨l, hl, h⟩ := h
    split at h
    case isFalse => cases h
    cases h
    have hvs := evs_ok hE _ _ _ hxs hl
    have hf0 : first = #[] := by simpa using hfirst
    refine ⟨.func (.func g) #[] (captured.map act.eval), ?_, fun w' => by simp [execOp, ho, Instr.makeFunc, hf0]⟩
    have hcv := vrs_cv hvs
    obtain ⟨h1, f, h2, h3⟩ := hcv
    have ha : (captured.toList.map act.eval).toArray = captured.map act.eval := by apply Array.ext'; simp
    rw [ha] at h1 h2
    exact .fn _ f h1 h2 h3
  | store t a x =>
    simp only [compOp, ho, Option.bind_eq_some_iff] at hc
    obtain ⟨n, hn, ax, hx, ay, hy, hc⟩ := hc
    cases hc
    simp [aq] at h
  | box t x =>
    simp only [compOp, ho, Option.map_eq_some_iff] at hc
    obtain ⟨ax, hx, rfl⟩ := hc
    simp [aq] at h
  | alloc t =>
    simp only [compOp, ho, Option.map_eq_some_iff] at hc
    obtain ⟨z, hz, rfl⟩ := hc
    simp [aq] at h
  | buildSlice t len parts =>
    simp only [compOp, ho, Option.bind_eq_some_iff] at hc
    obtain ⟨d, hd, hc⟩ := hc
    split at hc
    · simp only [Option.bind_eq_some_iff] at hc
      obtain ⟨n, hn, z, hz, hc⟩ := hc
      split at hc
      · simp only [Option.bind_eq_some_iff] at hc
        obtain ⟨ps, hps, hc⟩ := hc
        cases hc
        simp [aq] at h
      · cases hc
    · cases hc
  | makeSlice t l c =>
    simp only [compOp, ho, Option.bind_eq_some_iff] at hc
    obtain ⟨al, hl, ac, hcc, d, hd, hc⟩ := hc
    split at hc
    · simp only [Option.bind_eq_some_iff] at hc
      obtain ⟨i, hi, z, hz, hc⟩ := hc
      split at hc
      · cases hc; simp [aq] at h
      · cases hc
    · cases hc
  | _ => simp [compOp, ho] at hc

theorem compOps_get {P : Program} {N : Nat} {ops : Array Oper} : ∀ (L : List Oper) (l : List AOper) (i : Nat) (o : AOper), compOps P N ops L = some l → l[i]? = some o → ∃ p, L[i]? = some p ∧ compOp P p = some o.op ∧ compG ops p.guard = some o.g ∧ o.dst = p.dst ∧ p.dst.all (fun d => decide (d < N)) = true
  | [], l, i, o, h, hi => by cases h; simp at hi
  | p :: L, l, i, o, h, hi => by
    simp only [compOps, Option.bind_eq_some_iff] at h
    obtain ⟨ao, hao, g, hg, l', hl', h⟩ := h
    split at h
    case isFalse => cases h
    rename_i hd
    cases h
    cases i with
    | zero => simp at hi; subst hi; exact ⟨p, rfl, hao, hg, rfl, hd⟩
    | succ i => simpa using compOps_get L l' i o hl' (by simpa using hi)
theorem compOps_len {P : Program} {N : Nat} {ops : Array Oper} {L : List Oper} {l : List AOper} (h : compOps P N ops L = some l) : l.length = L.length := compOps_length _ _ h
theorem call_quiet {P : Program} {C : CT} (hC : CallsOK P C) {o : Oper} {fx : AX} {xs : List AX} (hc : compOp P o = some (.call fx xs)) {Im : Imm} {ρ : List Loc} {Ω : List Obj} {w : World} (hR : Rel Im ρ Ω w) {e : Env} {act : Act} (hE : EnvOK Im ρ e act) {a : AV} {Ω' : List Obj} {d : Nat} (h : (ev e fx).bind (fun f => (evs e xs).bind fun as => aCallM C Ω f as) = some (a, Ω', d)) {next : Act → World → Prop} {Q : Exit → Act → World → Prop}
    (hn : ∀ y Im' ρ' w', VR Im' ρ' a y → Ev1 Im ρ Ω w Im' ρ' Ω' w' d → Fr w w' (fun _ => False) → next (act.put o.dst y) w') : o.wp P act w next Q := by
  obtain ⟨c, ho⟩ := comp_call hc
  simp only [compOp, ho, Option.bind_eq_some_iff] at hc
  obtain ⟨xs', hxs, hc⟩ := hc
  split at hc
  · rename_i f hcal
    simp only [Option.bind_eq_some_iff] at hc
    obtain ⟨fx', hf, hc⟩ := hc
    cases hc
    simp only [Option.bind_eq_some_iff] at h
    obtain ⟨fv, hfv, as, has, h⟩ := h
    unfold aCallM at h
    split at h
    · rename_i g caps
      split at h
      · rename_i hok
        simp only [Option.bind_eq_some_iff] at h
        obtain ⟨ord, hord, r, hr, h⟩ := h
        split at h
        case isFalse => cases h
        rename_i hrd
        obtain ⟨arr, harr, hcaps⟩ := fnAt (ev_ok hE hf hfv)
        have hargs := evs_ok hE _ _ _ hxs has
        obtain ⟨hcl, hnl, hfn, hcalls⟩ := call_ok hC hR (hargs.append hcaps) hok hord hr
        have hrun := call_run ho hcal harr hfn w
        rw [Array.toList_map] at hrun
        unfold Oper.wp
        rw [hrun]
        refine hcalls.mono ?_
        rintro en w' ⟨x, Im', ρ', rfl, hb⟩
        obtain ⟨ρ2, hv, hst, hstill, hlvl⟩ := finish_ok hR hcl hnl hb h
        exact hn x Im' ρ2 w' hv ⟨hst, fun b hb' hlt => hb.imn b hb' hlt, hstill, hlvl⟩ (Back.quiet hR hb hrd).2
      · cases h
    · cases h
  · cases hc
  · exfalso
    repeat' (first | (cases hc; done) | (split at hc) | (rw [Option.bind_eq_some_iff] at hc; obtain ⟨_, _, hc⟩ := hc))
theorem clsV_four {hv : List Nat} {ao : AO} (h : clsV hv ao = 4) : ∃ f xs, ao = .call f xs := by
  unfold clsV at h
  split at h
  · exact ⟨_, _, rfl⟩
  · have : clsOf ao ≤ 3 := by cases ao <;> simp [clsOf]
    omega
theorem clsV_other {hv : List Nat} {ao : AO} (h : clsV hv ao ≠ 4) (h' : clsV hv ao ≠ 5) : clsV hv ao = clsOf ao := by
  unfold clsV at h h' ⊢
  split at h
  · rename_i f c xs
    split at h
    · rename_i hh; rw [if_pos hh]; rfl
    · rename_i hh
      split at h
      · rename_i hh2
        simp only [hh, hh2, if_true] at h'
        exact absurd rfl h'
      · exact absurd rfl h
  · rfl
theorem sq_ok {P : Program} {C : CT} (hC : CallsOK P C) {hv : List Nat} {ops : Array Oper} {B : Base} {l : List AOper} (hl : compOps P B.N ops ops.toList = some l) {Q : Exit → Act → World → Prop} : ∀ (π : List Nat) (s s' : St) (Im : Imm) (ρ : List Loc) (act : Act) (w : World), π.all (fun i => decide (i < l.length)) = true → aopsM C (π.map fun i => (qk (clsV hv (l.getD i ⟨none, none, .mv (.t 0)⟩).op), l.getD i ⟨none, none, .mv (.t 0)⟩)) s = some s' → Now B s Im ρ act w →
    (∀ Im' ρ' act' w', Now B s' Im' ρ' act' w' → Q .normal act' w') → wpSq P ops (l.map fun o => clsV hv o.op) Q π act w
  | [], s, s', Im, ρ, act, w, _, h, hN, hQ => by cases h; exact hQ _ _ _ _ hN
  | i :: π, s, s', Im, ρ, act, w, hπ, h, hN, hQ => by
    simp only [List.all_cons, Bool.and_eq_true, decide_eq_true_eq] at hπ
    have hli : l[i]? = some l[i] := List.getElem?_eq_getElem hπ.1
    obtain ⟨p, hp, hao, hg, hdst, hd⟩ := compOps_get _ _ i _ hl hli
    have hpo : ops[i]? = some p := by rw [← Array.getElem?_toList]; exact hp
    have hgd : l.getD i ⟨none, none, .mv (.t 0)⟩ = l[i] := by rw [List.getD_eq_getElem?_getD, hli]; rfl
    rw [List.map_cons, hgd] at h
    have hcl : (l.map fun o => clsV hv o.op).getD i 0 = clsV hv l[i].op := by rw [List.getD_eq_getElem?_getD, List.getElem?_map, hli]; rfl
    simp only [aopsM, Option.bind_eq_some_iff] at h
    obtain ⟨b, hb, h⟩ := h
    have hw := wants_ok hg hN.env hb
    rw [wpSq, hcl]
    by_cases hc4 : clsV hv l[i].op = 4
    · rw [if_neg (by omega), if_neg (by omega), if_pos hc4]
      rw [hc4, show qk 4 = .m from rfl] at h
      obtain ⟨fx, xs, hfx⟩ := clsV_four hc4
      unfold Go.wpOp
      simp only [hpo]
      cases b with
      | true =>
        simp only [if_true, Option.bind_eq_some_iff] at h
        obtain ⟨⟨a, Ω, d⟩, ha, h⟩ := h
        rw [if_pos hw]
        rw [hfx] at ha hao
        refine .inl (call_quiet hC hao hN.acc.rel hN.env ha fun y Im' ρ' w' hy hev hfr => ?_)
        have hN' := hN.put hd hy hev
        rw [hdst] at h
        exact ⟨⟨fun b hb => hfr.block b hb (fun h => h), hfr.size⟩, sq_ok hC hl π _ s' Im' ρ' _ w' hπ.2 h hN' hQ⟩
      | false =>
        simp only [Bool.false_eq_true, if_false] at h
        rw [if_neg (by rw [hw]; simp)]
        rw [hdst] at h
        exact ⟨⟨Same.refl _, Nat.le_refl _⟩, sq_ok hC hl π _ s' Im ρ _ w hπ.2 h (hN.skip hd) hQ⟩
    have same_up : ∀ w1, Same w w1 → SameK Im ρ s.ob w w1 := fun w1 h1 b hb => by
      refine h1 b ?_
      rcases hb with ⟨arr, ha⟩ | ⟨k, o, s1, s2, h1, h2, h3⟩
      · obtain ⟨T, fz, e⟩ := hN.acc.rel.im b arr ha
        exact (Array.getElem?_eq_some_iff.1 e).1
      · rcases hN.acc.rel.obj k o h1 h2 with ⟨b', base', s', arr, T, fz, e1, e2, _⟩ | ⟨e1, _⟩
        · rw [h3] at e1
          cases e1
          exact (Array.getElem?_eq_some_iff.1 e2).1
        · rw [h3] at e1
          cases e1
    by_cases hc5 : clsV hv l[i].op = 5
    · rw [hc5, show qk 5 = .s from rfl] at h
      rw [if_neg (by omega), if_neg (by omega), if_neg (by omega)]
      refine ⟨p, hpo, ?_⟩
      cases b with
      | true =>
        simp only [if_true, aopM, Option.bind_eq_some_iff, Option.map_eq_some_iff] at h
        obtain ⟨⟨a, Ω, d⟩, ⟨a', ha, he⟩, h⟩ := h
        cases he
        obtain ⟨y, hy, hrun⟩ := aopQ_okK hC hao hN.acc.rel hN.env (Nat.zero_le 1) ha
        rw [hdst] at h
        refine ⟨y, fun w1 h1 _ => ?_, fun h2 => absurd h2 (by omega), ?_⟩
        · rcases hrun w1 (same_up w1 h1) with hr | ⟨g', args, hr, hcalls⟩
          · exact .inl ⟨hw, hr⟩
          · exact .inr (.inr ⟨hw, g', args, hr, hcalls.mono fun e w2 hp => ⟨hp.1, hp.2.2 rfl⟩⟩)
        · exact sq_ok hC hl π _ s' Im ρ _ w hπ.2 h (hN.put hd hy (Ev1.refl hN.acc.rel)) hQ
      | false =>
        simp only [Bool.false_eq_true, if_false] at h
        rw [hdst] at h
        exact ⟨undef, fun _ _ _ => .inr (.inl ⟨hw, rfl⟩), fun _ => .inr ⟨hw, rfl⟩, sq_ok hC hl π _ s' Im ρ _ w hπ.2 h (hN.skip hd) hQ⟩
    have hq0 : qk (clsV hv l[i].op) = .o := by unfold qk; rw [if_neg hc4, if_neg hc5]
    rw [hq0] at h
    simp only [aopM] at h
    have hco := clsV_other hc4 hc5
    rw [hco] at hc4 hc5 ⊢
    by_cases hc0 : clsOf l[i].op = 0
    · rw [if_pos hc0]
      unfold Go.wpOp
      simp only [hpo]
      cases b with
      | true =>
        simp only [if_true, Option.bind_eq_some_iff] at h
        obtain ⟨⟨a, Ω, d⟩, ha, h⟩ := h
        rw [if_pos hw]
        refine .inl (op_wp hC hao hN.acc.rel hN.env ha fun y Im' ρ' w' hy hev => ?_)
        have hN' := hN.put hd hy hev
        rw [hdst] at h
        exact sq_ok hC hl π _ s' Im' ρ' _ w' hπ.2 h hN' hQ
      | false =>
        simp only [Bool.false_eq_true, if_false] at h
        rw [if_neg (by rw [hw]; simp)]
        rw [hdst] at h
        exact sq_ok hC hl π _ s' Im ρ _ w hπ.2 h (hN.skip hd) hQ
    · rw [if_neg hc0]
      by_cases hc3 : clsOf l[i].op = 3
      · rw [if_pos hc3]
        refine ⟨p, hpo, ?_⟩
        cases b with
        | true =>
          simp only [if_true, Option.bind_eq_some_iff] at h
          obtain ⟨⟨a, Ω, d⟩, ha, h⟩ := h
          have key : ∀ ao : AO, clsOf ao = 3 → aop C s.env s.ob ao = some (a, Ω, d) → ∃ dd, ae s.env s.ob ao = some (a, Ω, dd) ∧ d = lev dd := fun ao hne hh => by
            have hh' : (match aq s.env s.ob ao with | some a => some (a, s.ob, 0) | none => (ae s.env s.ob ao).map fun (a, Ω', d) => (a, Ω', lev d)) = some (a, Ω, d) ∧ aq s.env s.ob ao = none := by
              cases ao <;> first | (cases hne; done) | exact ⟨hh, rfl⟩
            obtain ⟨k1, k2⟩ := hh'
            rw [k2] at k1
            simp only [Option.map_eq_some_iff] at k1
            obtain ⟨⟨a', Ω', dd⟩, e1, e2⟩ := k1
            cases e2
            exact ⟨dd, e1, rfl⟩
          obtain ⟨dd, hae, rfl⟩ := key _ hc3 ha
          obtain ⟨n, y, w', ρ', hrun, _, hy, hst, hal⟩ := ae_ok hao hN.acc.rel hN.env hae
          obtain ⟨rfl, hsame⟩ := hal (by rw [hc3]; rfl)
          have hst' : Step Im ρ s.ob w Im ρ' Ω w' (decide (lev dd = 2)) := by cases dd <;> exact hst
          have hev : Ev1 Im ρ s.ob w Im ρ' Ω w' (lev dd) := ⟨hst', fun _ h _ => h, fun h0 => by cases dd <;> simp [lev] at h0, by cases dd <;> simp [lev]⟩
          refine ⟨y, w', .inl ⟨hw, hrun, hsame, hst.fr.size⟩, ?_⟩
          rw [hdst] at h
          exact sq_ok hC hl π _ s' Im ρ' _ w' hπ.2 h (hN.put hd hy hev) hQ
        | false =>
          simp only [Bool.false_eq_true, if_false] at h
          rw [hdst] at h
          exact ⟨undef, w, .inr ⟨hw, rfl, rfl⟩, sq_ok hC hl π _ s' Im ρ _ w hπ.2 h (hN.skip hd) hQ⟩
      rw [if_neg hc3, if_neg hc4]
      refine ⟨p, hpo, ?_⟩
      cases b with
      | true =>
        simp only [if_true, Option.bind_eq_some_iff] at h
        obtain ⟨⟨a, Ω, d⟩, ha, h⟩ := h
        have haq : aq s.env s.ob l[i].op = some a ∧ Ω = s.ob ∧ d = 0 := by
          have key : ∀ ao : AO, clsOf ao ≠ 0 → clsOf ao ≠ 3 → aop C s.env s.ob ao = some (a, Ω, d) → (match aq s.env s.ob ao with | some a => some (a, s.ob, 0) | none => (ae s.env s.ob ao).map fun (a, Ω', d) => (a, Ω', lev d)) = some (a, Ω, d) ∧ ae s.env s.ob ao = none := fun ao hne hne3 hh => by
            cases ao <;> first | exact absurd rfl hne | exact absurd rfl hne3 | exact ⟨hh, rfl⟩
          obtain ⟨k1, k2⟩ := key _ hc0 hc3 ha
          split at k1
          · rename_i a' ha'
            cases k1
            exact ⟨ha', rfl, rfl⟩
          · rw [k2] at k1
            cases k1
        obtain ⟨haq, rfl, rfl⟩ := haq
        obtain ⟨y, hy, hrun⟩ := aq_ok hao hN.acc.rel hN.env haq
        rw [hdst] at h
        by_cases hc2 : clsOf l[i].op = 2
        · obtain ⟨y2, hy2, hrun2⟩ := aqp_ok hao hc2 hN.acc.rel hN.env haq
          refine ⟨y2, fun w1 _ _ => .inl ⟨hw, hrun2 w1⟩, fun _ => .inl ⟨hw, hrun2⟩, ?_⟩
          exact sq_ok hC hl π _ s' Im ρ _ w hπ.2 h (hN.put hd hy2 (Ev1.refl hN.acc.rel)) hQ
        · refine ⟨y, fun w1 h1 _ => .inl ⟨hw, hrun w1 (same_up w1 h1)⟩, fun h2 => absurd h2 hc2, ?_⟩
          exact sq_ok hC hl π _ s' Im ρ _ w hπ.2 h (hN.put hd hy (Ev1.refl hN.acc.rel)) hQ
      | false =>
        simp only [Bool.false_eq_true, if_false] at h
        rw [hdst] at h
        exact ⟨undef, fun _ _ _ => .inr (.inl ⟨hw, rfl⟩), fun _ => .inr ⟨hw, rfl⟩, sq_ok hC hl π _ s' Im ρ _ w hπ.2 h (hN.skip hd) hQ⟩
/-- A region in which what acts comes one behind the other. -/
theorem regm_ok {P : Program} {C : CT} {hv : List Nat} (hm : P.follows .mixedOrders = true) (hC : CallsOK P C) {B : Base} {ops : Array Oper} {l : List AOper} (hl : compOps P B.N ops ops.toList = some l) (hs : Region.noSelect ops = true) {π : List Nat} (hπ : permGo ops (l.map fun o => clsV hv o.op) ops.size (Array.replicate ops.size false) = some π) (hb : π.all (fun i => decide (i < l.length)) = true) {s s' : St} (h : aopsM C (π.map fun i => (qk (clsV hv (l.getD i ⟨none, none, .mv (.t 0)⟩).op), l.getD i ⟨none, none, .mv (.t 0)⟩)) { s with d := max s.d 1 } = some s') {Im : Imm} {ρ : List Loc} {act : Act} {w : World} (hN : Now B s Im ρ act w) {id : Nat} {Q : Exit → Act → World → Prop}
    (hQ : ∀ Im' ρ' act' w', Now B s' Im' ρ' act' w' → Q .normal act' w') : (Code.region id ops true).wp P Q act w := by
  have hD : Fr w { w with drawn := w.drawn + 1 } (fun _ => False) := ⟨rfl, rfl, rfl, Nat.le_refl _, fun _ _ _ => rfl⟩
  have n1 := hN.up' hD hN.env hN.size rfl
  exact wp_region_M hm hs hπ (sq_ok hC hl π _ s' Im ρ act _ hb h n1 fun Im' ρ' act' w' hN' => ⟨rfl, hQ _ _ _ _ hN'⟩)
end Go.Proofs.Ytkaigdfklihlcaa.Sym
