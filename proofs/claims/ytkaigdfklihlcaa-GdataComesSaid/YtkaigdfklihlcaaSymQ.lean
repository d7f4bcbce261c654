/- Results; functions. -/
import Derived.Test.YtkaigdfklihlcaaSymP
namespace Go.Proofs.Ytkaigdfklihlcaa.Sym
open Go
set_option linter.unusedVariables false
set_option linter.unusedSimpArgs false

theorem VRs.mono {Im Im' : Imm} (hI : ImLe Im Im') {ρ ρ' : List Loc} (hρ : RhoLe ρ ρ') : ∀ {as : List AV} {us : List Value}, VRs Im ρ as us → VRs Im' ρ' as us
  | [], [], _ => trivial
  | a :: as, u :: us, h => ⟨h.1.mono hI _ hρ, VRs.mono hI hρ h.2⟩
  | [], u :: us, h => h.elim
  | a :: as, [], h => h.elim
theorem VRs.length {Im : Imm} {ρ : List Loc} : ∀ {as : List AV} {us : List Value}, VRs Im ρ as us → as.length = us.length
  | [], [], _ => rfl
  | a :: as, u :: us, h => by simp [VRs.length h.2]
  | [], u :: us, h => h.elim
  | a :: as, [], h => h.elim
/-- The results. -/
theorem res_ok {P : Program} {Im : Imm} {ρ : List Loc} {Ω : List Obj} {w : World} (hR : Rel Im ρ Ω w) {e : Env} {act : Act} (hE : EnvOK Im ρ e act) (f : ResultVar → Sem Value) (hf : ∀ u, f (.tmp u) = pure (act.tmps.getD u undef)) (hc : ∀ a t, f (.cell a t) = (do loadVar t (← asAddr (act.tmps.getD a undef)))) :
    ∀ (rs : List ResultVar) (xs : List RV) (l : List AV), compR P rs = some xs → aRes e Ω xs = some l → ∃ vs, (rs.mapM f).run P w = .ok vs w ∧ VRs Im ρ l vs
  | [], xs, l, h1, h2 => by cases h1; cases h2; exact ⟨[], by simp, trivial⟩
  | .tmp u :: rs, xs, l, h1, h2 => by
    simp only [compR, Option.bind_eq_some_iff] at h1
    obtain ⟨xs', hxs, h1⟩ := h1
    cases h1
    simp only [aRes, Option.bind_eq_some_iff] at h2
    obtain ⟨a, ha, l', hl, h2⟩ := h2
    cases h2
    obtain ⟨vs, hr, hv⟩ := res_ok hR hE f hf hc rs xs' l' hxs hl
    exact ⟨_ :: vs, by simp [List.mapM_cons, hf, hr], hE.val _ _ ha, hv⟩
  | .cell p t :: rs, xs, l, h1, h2 => by
    simp only [compR, Option.bind_eq_some_iff] at h1
    obtain ⟨m, hm, xs', hxs, h1⟩ := h1
    cases h1
    simp only [aRes, Option.bind_eq_some_iff] at h2
    obtain ⟨q, hq, a, ha, l', hl, h2⟩ := h2
    cases h2
    obtain ⟨vs, hr, hv⟩ := res_ok hR hE f hf hc rs xs' l' hxs hl
    obtain ⟨y, hy, hrun⟩ := aLoad_ok (P := P) hm hR (hE.val _ _ hq) ha
    have h0 := hrun w (SameK.refl _ _ _ w)
    have hs : (do loadVar t (← asAddr (act.tmps.getD p undef)) : Sem Value).run P w = .ok y w := by
      simp only [Instr.loadAt, Sem.run_bind] at h0
      generalize act.tmps.getD p undef = u at h0 ⊢
      cases u with
      | pointer a =>
        cases a with
        | none => simp [Instr.sureAddr] at h0
        | some a => simpa [Instr.sureAddr, asAddr] using h0
      | _ => simp [Instr.sureAddr] at h0
    refine ⟨y :: vs, ?_, hy, hv⟩
    rw [List.mapM_cons, hc]
    simp only [Sem.run_bind] at hs
    simp only [Sem.run_bind, hs, Result.andThen_ok, hr, Sem.run_pure]
theorem one_ok {Im : Imm} {ρ : List Loc} {l : List AV} {vs : List Value} (h : VRs Im ρ l vs) : VR Im ρ (one l) (if hs : vs.length = 1 then vs[0] else .tuple vs.toArray) := by
  match l, vs, h with
  | [], [], _ => exact .tup #[] (fun _ => undef) rfl (fun i a hi => by simp at hi) (fun i a hi => by simp at hi)
  | [a], [v], h => exact h.1
  | a :: b :: l, u :: v :: vs, h =>
    have hl := VRs.length h
    have h2 : VR Im ρ (.tup (a :: b :: l)) (.tuple (u :: v :: vs).toArray) := by
      have get : ∀ (as : List AV) (us : List Value), VRs Im ρ as us → ∀ (i : Nat) c, as[i]? = some c → ∃ x, us[i]? = some x ∧ VR Im ρ c x := by
        intro as
        induction as with
        | nil => intro us _ i c hi; simp at hi
        | cons c as ih =>
          intro us h i d hi
          cases us with
          | nil => exact h.elim
          | cons x us =>
            cases i with
            | zero => simp at hi; subst hi; exact ⟨x, rfl, h.1⟩
            | succ i => obtain ⟨y, h1, h2⟩ := ih us h.2 i d (by simpa using hi); exact ⟨y, by simpa using h1, h2⟩
      have hcv : CV Im ρ (a :: b :: l) (u :: v :: vs).toArray := CV.mk (by simpa using hl) fun i c hi => by
        obtain ⟨x, h1, h2⟩ := get _ _ h i c hi
        exact ⟨x, by rw [List.getElem?_toArray]; exact h1, h2⟩
      exact .tup _ hcv.2.choose hcv.1 hcv.2.choose_spec.1 hcv.2.choose_spec.2
    rw [dif_neg (by simp)]
    exact h2
  | [a], v :: v' :: vs, h => exact h.2.elim
  | a :: b :: l, [v], h => exact h.2.elim
  | [], v :: vs, h => exact h.elim
  | a :: l, [], h => exact h.elim
theorem results_run {P : Program} {fn : Func} {tmps : Array Value} {w : World} {vs : List Value} (h : ∀ f : ResultVar → Sem Value, (∀ u, f (.tmp u) = pure (tmps.getD u undef)) → (∀ a t, f (.cell a t) = (do loadVar t (← asAddr (tmps.getD a undef)))) → (fn.results.toList.mapM f).run P w = .ok vs w) :
    (results fn tmps).run P w = .ok (if hs : vs.length = 1 then vs[0] else .tuple vs.toArray) w := by
  unfold results
  obtain ⟨rs, hrs⟩ : ∃ rs : List ResultVar, fn.results = rs.toArray := ⟨fn.results.toList, by simp⟩
  rw [hrs] at h ⊢
  rw [List.mapM_toArray]
  simp only [Sem.run_bind, Sem.run_map]
  rw [h _ (fun u => rfl) (fun a t => rfl)]
  simp

/-! ### rows that nobody writes any more -/
structure Frz (Im : Imm) (ρ : List Loc) (Ω : List Obj) (w : World) (Im' : Imm) (Ω' : List Obj) : Prop where
  rel : Rel Im' ρ Ω' w
  im : ImLe Im Im'
  imn : ∀ b, Im b = none → ¬ LBd ρ Ω false b → Im' b = none
  lb : ∀ d b, LBd ρ Ω' d b → LBd ρ Ω d b
theorem Frz.refl {Im : Imm} {ρ : List Loc} {Ω : List Obj} {w : World} (h : Rel Im ρ Ω w) : Frz Im ρ Ω w Im Ω := ⟨h, ImLe.refl _, fun _ h _ => h, fun _ _ h => h⟩
theorem Frz.trans {Im Im1 Im2 : Imm} {ρ : List Loc} {Ω Ω1 Ω2 : List Obj} {w : World} (h : Frz Im ρ Ω w Im1 Ω1) (h' : Frz Im1 ρ Ω1 w Im2 Ω2) : Frz Im ρ Ω w Im2 Ω2 :=
  ⟨h'.rel, h.im.trans h'.im, fun b hb hn => h'.imn b (h.imn b hb hn) (fun hl => hn (h.lb _ _ hl)), fun d b hb => h.lb d b (h'.lb d b hb)⟩
theorem frz0_ok {Im : Imm} {ρ : List Loc} {Ω : List Obj} {w : World} (hR : Rel Im ρ Ω w) {a : AV} {x : Value} (hx : VR Im ρ a x) : ∃ Im', Frz Im ρ Ω w Im' (frz0 Ω a).2 ∧ VR Im' ρ (frz0 Ω a).1 x := by
  unfold frz0
  split
  · rename_i k off n sz c
    split
    · rename_i o ho
      split
      · rename_i hq
        obtain ⟨q1, q2, q3⟩ := hq
        obtain ⟨hk, hl⟩ := getO_some ho
        have hlb : ∀ d b, LBd ρ (kill Ω k o) d b → LBd ρ Ω d b := fun d b hb => by
          obtain ⟨i, o', s1, s2, h1, h2, h3, h4⟩ := hb
          exact ⟨i, o', s1, s2, (kill_get h1 h2).1, h2, h3, h4⟩
        rcases hR.obj k o hk hl with ⟨b, base, s, arr, T, fz, e1, e2, e3, e4, e5, e6, e7, f, e8, e9⟩ | ⟨e1, e2⟩
        · have hI : ImLe Im (fun b' => if b' = b then some arr else Im b') := fun b' arr' hb' => by
            show (if b' = b then some arr else Im b') = some arr'
            rw [if_neg]
            · exact hb'
            · rintro rfl
              rw [e7] at hb'
              cases hb'
          have hfrz : Frz Im ρ Ω w (fun b' => if b' = b then some arr else Im b') (kill Ω k o) := by
            have hR1 := hR.killed k o
            refine ⟨⟨hR1.len, fun b' arr' hb'' => ?_, fun i o' hi hl' => ?_, hR1.atoms, hR1.flat, hR1.sep⟩, hI, fun b' hb' hn => ?_, hlb⟩
            · have hb' : (if b' = b then some arr else Im b') = some arr' := hb''
              split at hb'
              · rename_i e; subst e; cases hb'; exact ⟨T, fz, e2⟩
              · exact hR.im b' arr' hb'
            · refine (hR1.obj i o' hi hl').mono hI (RhoLe.refl _) (fun _ _ _ _ => rfl) (fun b' s1 s2 hr hn => ?_)
              show (if b' = b then some arr else Im b') = none
              rw [if_neg]
              · exact hn
              · rintro rfl
                obtain ⟨h1, h2⟩ := kill_get hi hl'
                exact hR.sep i k o' o b' s1 s2 b' base s h1 hk hl' hl h2 hr e1 rfl
            · show (if b' = b then some arr else Im b') = none
              rw [if_neg]
              · exact hb'
              · rintro rfl
                exact hn ⟨k, o, base, s, hk, hl, .inr q1, e1⟩
          refine ⟨_, hfrz, ?_⟩
          have cellsV : ∀ (i : Nat) a, ((o.cells.drop off).take (n * sz))[i]? = some a → o.cells[off + i]? = some a := fun i a hi => by
            have hj2 := (List.getElem?_eq_some_iff.1 hi).1
            rw [List.length_take, Nat.lt_min] at hj2
            rw [List.getElem?_take_of_lt hj2.1, List.getElem?_drop] at hi
            exact hi
          cases hx with
          | view b' o' s' cap hk' hc h1 h2 h3 =>
            rw [e1] at hk'
            cases hk'
            refine .shr b (base + off) cap arr (fun i => f (off + i)) (by simp) hc (fun hq => h1 n (by simpa using hq)) (fun i a hi => hR.atoms k o hk hl a (List.mem_of_getElem? (cellsV i a hi))) (fun i a hi => ?_) (fun i a hi => ?_)
            · rw [Nat.add_assoc]
              exact e8 _ _ (cellsV i a hi)
            · have := (e9 _ _ (cellsV i a hi)).flat (ρ' := []) (hR.flat k o hk hl q2 a (List.mem_of_getElem? (cellsV i a hi)))
              exact this.mono hI [] (RhoLe.refl _)
          | viewE b' o' s' o'' hk' h1 h2 h3 =>
            rw [e1] at hk'
            cases hk'
            rw [Nat.zero_mul, List.take_zero]
            exact .shr b o'' 0 arr (fun i => undef) (by simp) (Nat.le_refl _) (fun _ => rfl) (fun i a hi => by simp at hi) (fun i a hi => by simp at hi) (fun i a hi => by simp at hi)
          | view0 hk' h1 => rw [e1] at hk'; cases hk'
        · refine ⟨Im, ⟨hR.killed k o, ImLe.refl _, fun _ h _ => h, hlb⟩, ?_⟩
          cases hx with
          | view b' o' s' cap hk' hc h1 h2 h3 => rw [e1] at hk'; cases hk'
          | viewE b' o' s' o'' hk' h1 h2 h3 => rw [e1] at hk'; cases hk'
          | view0 hk' h1 =>
            rw [Nat.zero_mul, List.take_zero]
            exact .shr0 none
      · exact ⟨Im, Frz.refl hR, hx⟩
    · exact ⟨Im, Frz.refl hR, hx⟩
  · exact ⟨Im, Frz.refl hR, hx⟩
theorem frzL_ok {ρ : List Loc} {w : World} : ∀ (as : List AV) (Im : Imm) (Ω : List Obj) (us : List Value), Rel Im ρ Ω w → VRs Im ρ as us → ∃ Im', Frz Im ρ Ω w Im' (frzL Ω as).2 ∧ VRs Im' ρ (frzL Ω as).1 us
  | [], Im, Ω, [], hR, _ => ⟨Im, Frz.refl hR, trivial⟩
  | a :: as, Im, Ω, u :: us, hR, h => by
    obtain ⟨Im1, h1, h2⟩ := frz0_ok hR h.1
    obtain ⟨Im2, h3, h4⟩ := frzL_ok as Im1 _ us h1.rel (h.2.mono h1.im (RhoLe.refl _))
    exact ⟨Im2, h1.trans h3, h2.mono h3.im _ (RhoLe.refl _), h4⟩
  | [], Im, Ω, u :: us, _, h => h.elim
  | a :: as, Im, Ω, [], _, h => h.elim
theorem VRs.to_cv {Im : Imm} {ρ : List Loc} {as : List AV} {us : List Value} (h : VRs Im ρ as us) : CV Im ρ as us.toArray := by
  have get : ∀ (as : List AV) (us : List Value), VRs Im ρ as us → ∀ (i : Nat) c, as[i]? = some c → ∃ x, us[i]? = some x ∧ VR Im ρ c x := by
    intro as
    induction as with
    | nil => intro us _ i c hi; simp at hi
    | cons c as ih =>
      intro us h i d hi
      cases us with
      | nil => exact h.elim
      | cons x us =>
        cases i with
        | zero => simp at hi; subst hi; exact ⟨x, rfl, h.1⟩
        | succ i => obtain ⟨y, h1, h2⟩ := ih us h.2 i d (by simpa using hi); exact ⟨y, by simpa using h1, h2⟩
  refine CV.mk (by simpa using VRs.length h) fun i c hi => ?_
  obtain ⟨x, h1, h2⟩ := get _ _ h i c hi
  exact ⟨x, by rw [List.getElem?_toArray]; exact h1, h2⟩
theorem frz1_ok {Im : Imm} {ρ : List Loc} {Ω : List Obj} {w : World} (hR : Rel Im ρ Ω w) {a : AV} {x : Value} (hx : VR Im ρ a x) : ∃ Im', Frz Im ρ Ω w Im' (frz1 Ω a).2 ∧ VR Im' ρ (frz1 Ω a).1 x := by
  by_cases ha : ∃ cs, a = .agg cs
  · obtain ⟨cs, rfl⟩ := ha
    cases hx with
    | agg arr f hl h1 h2 =>
      obtain ⟨Im', h3, h4⟩ := frzL_ok cs Im Ω arr.toList hR (VRs.of_get (by simpa using hl) fun i a hi => ⟨f i, by rw [Array.getElem?_toList]; exact h1 i a hi, h2 i a hi⟩)
      refine ⟨Im', h3, ?_⟩
      have := h4.to_cv.agg
      rw [Array.toArray_toList] at this
      exact this
  · have e : frz1 Ω a = frz0 Ω a := by cases a <;> first | rfl | exact absurd ⟨_, rfl⟩ ha
    rw [e]
    exact frz0_ok hR hx
theorem frzM_ok {ρ : List Loc} {w : World} : ∀ (as : List AV) (Im : Imm) (Ω : List Obj) (us : List Value), Rel Im ρ Ω w → VRs Im ρ as us → ∃ Im', Frz Im ρ Ω w Im' (frzM Ω as).2 ∧ VRs Im' ρ (frzM Ω as).1 us
  | [], Im, Ω, [], hR, _ => ⟨Im, Frz.refl hR, trivial⟩
  | a :: as, Im, Ω, u :: us, hR, h => by
    obtain ⟨Im1, h1, h2⟩ := frz1_ok hR h.1
    obtain ⟨Im2, h3, h4⟩ := frzM_ok as Im1 _ us h1.rel (h.2.mono h1.im (RhoLe.refl _))
    exact ⟨Im2, h1.trans h3, h2.mono h3.im _ (RhoLe.refl _), h4⟩
  | [], Im, Ω, u :: us, _, h => h.elim
  | a :: as, Im, Ω, [], _, h => h.elim

/-! ### functions -/
/-- A table of functions is the program's. -/
def TableOK (P : Program) (T : Tb) : Prop := (∀ f fn, T.tab f = some fn → ∃ F an fz up hv, P.funcs[f]? = some F ∧ compF P F an fz up hv = some fn) ∧ CallsOK P T.ext
theorem args0_get {Im : Imm} {ρ : List Loc} : ∀ (as : List AV) (us : List Value) (k : Nat), VRs Im ρ as us → ∀ i a, get (args0 k as) i = some a → k ≤ i ∧ ∃ u, us[i - k]? = some u ∧ VR Im ρ a u
  | [], [], k, _, i, a, h => by simp [args0, get] at h
  | b :: as, u :: us, k, hv, i, a, h => by
    simp only [args0, get] at h
    split at h
    · rename_i e
      subst e
      cases h
      exact ⟨Nat.le_refl _, u, by simp, hv.1⟩
    · rename_i hne
      obtain ⟨h1, x, h2, h3⟩ := args0_get as us (k + 1) hv.2 i a h
      refine ⟨by omega, x, ?_, h3⟩
      rw [show i - k = (i - (k + 1)) + 1 by omega, List.getElem?_cons_succ]
      exact h2
  | [], u :: us, k, hv, _, _, _ => hv.elim
  | a :: as, [], k, hv, _, _, _ => hv.elim
theorem dedup_first : ∀ (xs ys acc : List Nat), xs.Nodup → (∀ k ∈ xs, k ∉ acc) → ∃ r, dedup (xs ++ ys) acc = acc ++ xs ++ r
  | [], ys, acc, _, _ => by
    have : ∀ (ys acc : List Nat), ∃ r, dedup ys acc = acc ++ r := by
      intro ys
      induction ys with
      | nil => intro acc; exact ⟨[], by simp [dedup]⟩
      | cons y ys ih =>
        intro acc
        rw [dedup]
        split
        · exact ih acc
        · obtain ⟨r, hr⟩ := ih (acc ++ [y])
          exact ⟨y :: r, by rw [hr]; simp⟩
    obtain ⟨r, hr⟩ := this ys acc
    exact ⟨r, by simpa using hr⟩
  | x :: xs, ys, acc, hn, hd => by
    rw [List.cons_append, dedup, if_neg (by simpa using hd x (by simp))]
    obtain ⟨r, hr⟩ := dedup_first xs ys (acc ++ [x]) (List.nodup_cons.1 hn).2 (fun k hk hm => by
      rcases List.mem_append.1 hm with hm | hm
      · exact hd k (by simp [hk]) hm
      · simp at hm
        subst hm
        exact (List.nodup_cons.1 hn).1 hk)
    exact ⟨r, by rw [hr]; simp⟩
theorem finishFn_ok {P : Program} {F : Func} {fn : AFn} {B : Base} {s : St} {r : Res} (hr : compR P F.results.toList = some fn.res) (h : finish fn s = some r) {Im : Imm} {ρ : List Loc} {act : Act} {w : World} (hN : Now B s Im ρ act w) (hRL : ∀ i, i < B.RL.length → B.RL[i]? = B.ρ0[i]?) (hst : ∀ o ∈ B.Ω0, o.fresh = false) :
    ∃ x Im' ρ', (results F act.tmps).run P w = .ok x w ∧ Back B.RL.length B.Im0 B.ρ0 B.Ω0 B.w0 r Im' ρ' x w := by
  unfold finish at h
  rw [Option.bind_eq_some_iff] at h
  obtain ⟨l, hl, h⟩ := h
  have hR := hN.acc.rel
  have hres := fun f hf hc => res_ok (P := P) hR hN.env f hf hc F.results.toList fn.res l hr hl
  -- the values hang on no choice of f
  obtain ⟨vs, hrun0, hvs⟩ := hres (fun | .tmp t => pure (act.tmps.getD t undef) | .cell a t => do loadVar t (← asAddr (act.tmps.getD a undef))) (fun _ => rfl) (fun _ _ => rfl)
  have hrun : (results F act.tmps).run P w = .ok (if hs : vs.length = 1 then vs[0] else .tuple vs.toArray) w := by
    refine results_run fun f hf hc => ?_
    have hfe : f = (fun | .tmp t => pure (act.tmps.getD t undef) | .cell a t => do loadVar t (← asAddr (act.tmps.getD a undef))) := by
      funext q
      cases q with
      | tmp t => exact hf t
      | cell a t => exact hc a t
    rw [hfe]
    exact hrun0
  have hfrz : ∃ Im', Frz Im ρ s.ob w Im' (if fn.frz = true then frzM s.ob l else (l, s.ob)).2 ∧ VRs Im' ρ (if fn.frz = true then frzM s.ob l else (l, s.ob)).1 vs := by
    split
    · exact frzM_ok l Im s.ob vs hR hvs
    · exact ⟨Im, Frz.refl hR, hvs⟩
  generalize hq : (if fn.frz = true then frzM s.ob l else (l, s.ob)) = q at h hfrz
  obtain ⟨l', Ω⟩ := q
  obtain ⟨Im', hf, hv'⟩ := hfrz
  simp only at h hf hv'
  split at h
  case isFalse => cases h
  rename_i hok
  rw [Option.bind_eq_some_iff] at h
  obtain ⟨ord, hord, h⟩ := h
  cases h
  obtain ⟨hcl, hin, rest, hrest⟩ := reach_all hord
  refine ⟨_, Im', subρ ρ ord, hrun, (one_ok hv').ren hok (sub_map (Ω := Ω) _ fun k hk => hin k (List.mem_append_right _ hk)), sub_rel hf.rel hcl _, hN.acc.im.trans hf.im, fun b hb hlt => ?_, fun i hi => ?_, hN.acc.fr.imp fun b hb => ⟨?_, hb.2⟩, fun h0 => hN.acc.still ?_, ?_, fun b hb => ?_, fun b hb => ?_⟩
  · refine hf.imn b (hN.acc.imn b hb hlt) fun hl => ?_
    have := hN.acc.fresh b hl
    omega
  · obtain ⟨r2, hr2⟩ := dedup_first s.rt (refs (one l')) [] hN.rtn (fun k _ hk => by simp at hk)
    have hlt : i < s.rt.length := by rw [hN.rtl]; exact hi
    have hB : B.RL[i]? = some B.RL[i] := List.getElem?_eq_getElem hi
    obtain ⟨k, e1, e2⟩ := hN.rt i _ hB
    have hord : ord[i]? = some k := by
      rw [hrest, hr2, List.nil_append, List.append_assoc, List.getElem?_append_left hlt]
      exact e1
    rw [← hRL i hi, hB]
    exact subρ_get hord e2
  · have := hb.1
    simp only
    split <;> omega
  · simp only at h0
    split at h0 <;> omega
  · have := hN.acc.lvl
    simp only
    split <;> omega
  · obtain ⟨k, o, s1, s2, hk, ho, hl, _, hr⟩ := LBd.of_sub hf.rel hcl hb
    exact hN.acc.new b (hf.lb _ _ ⟨k, o, s1, s2, ho, hl, .inl rfl, hr⟩)
  · obtain ⟨k, o, s1, s2, hk, ho, hl, hfr, hr⟩ := LBd.of_sub hf.rel hcl hb
    exact hN.acc.fresh b (hf.lb _ _ ⟨k, o, s1, s2, ho, hl, .inr (by rcases hfr with e | e; cases e; exact e.1), hr⟩)
/-- Calls answer as the abstract machine says. -/
theorem acall_ok {P : Program} (hm : P.follows .mixedOrders = true) {T : Tb} (hT : TableOK P T) : ∀ k, CallsOK P (acall T k)
  | 0 => fun f n args Ω r h => by cases h
  | k + 1 => fun f n args Ω r h Im ρ w vals hR hst hn hv => by
    simp only [acall] at h
    split at h
    case h_2 => exact hT.2 f n args Ω r h Im ρ w vals hR hst hn hv
    rename_i fn hfn
    split at h
    case isFalse => cases h
    rename_i hnp
    rw [Option.bind_eq_some_iff] at h
    obtain ⟨⟨x, s⟩, hex, h⟩ := h
    obtain ⟨F, an, fz, up, hv', hF, hcomp⟩ := hT.1 f fn hfn
    simp only [compF, Option.bind_eq_some_iff] at hcomp
    obtain ⟨c, hc, ⟨b, rest⟩, hb, rs, hrs, hcomp⟩ := hcomp
    split at hcomp
    case isFalse => cases hcomp
    rename_i hq
    obtain ⟨q1, q2, q3⟩ := hq
    obtain rfl := Option.some.inj hcomp
    refine ⟨⟨F, hF, q2, by rw [hc]; rfl⟩, ?_⟩
    have hlen := VRs.length hv
    have hsz : vals.toArray.size = F.params.size + F.nfree := by
      have : args.length = F.params.size + F.nfree := hnp.1
      simp [← hlen, this]
    let B : Base := ⟨Im, ρ, Ω, w, F.ntmps, ρ.take n⟩
    have hBl : B.RL.length = n := by
      show (ρ.take n).length = n
      rw [List.length_take, hR.len]
      omega
    have hN : Now B ⟨args0 0 args, Ω, 0, List.range n⟩ Im ρ { tmps := vals.toArray ++ Array.replicate (F.ntmps - vals.toArray.size) undef, defers := [] } w := by
      refine ⟨⟨hR, ImLe.refl _, fun _ h _ => h, Fr.refl _ _, fun _ => rfl, Nat.zero_le 2, fun b hb => .inl hb, fun b hb => ?_⟩, ⟨fun i a hi => ?_, fun i a hi => ?_⟩, ?_, rfl, fun i l hl => ?_, ?_, List.nodup_range⟩
      · exfalso
        obtain ⟨i, o, s1, s2, h1, h2, h3, h4⟩ := hb
        rcases h3 with h3 | h3
        · cases h3
        · rw [hst o (List.mem_of_getElem? h1)] at h3
          cases h3
      · obtain ⟨_, u, h1, h2⟩ := args0_get args vals 0 hv i a hi
        have hlt := (List.getElem?_eq_some_iff.1 h1).1
        rw [Nat.sub_zero] at h1 hlt
        rw [Array.getD_eq_getD_getElem?, Array.getElem?_append_left (by simpa using hlt), List.getElem?_toArray, h1]
        exact h2
      · obtain ⟨_, u, h1, h2⟩ := args0_get args vals 0 hv i a hi
        have hlt := (List.getElem?_eq_some_iff.1 h1).1
        rw [Nat.sub_zero] at hlt
        simp
        omega
      · show (vals.toArray ++ Array.replicate (F.ntmps - vals.toArray.size) undef).size = F.ntmps
        rw [Array.size_append, Array.size_replicate, hsz]
        omega
      · have hl' : (ρ.take n)[i]? = some l := hl
        have hlt := (List.getElem?_eq_some_iff.1 hl').1
        rw [List.length_take] at hlt
        rw [List.getElem?_take_of_lt (by omega)] at hl'
        exact ⟨i, by rw [List.getElem?_range (by omega)], hl'⟩
      · rw [List.length_range]
        exact hBl.symm
    refine calls_of_wp hF hc (code_wp hm (acall_ok hm hT k) (B := B) c an rest b _ s x Im ρ _ w _ hb hex hN fun Im' ρ' act' w' hN' => ?_)
    have fin : finish ⟨F.params.size + F.nfree, b, rs, fz, up⟩ s = some r → act'.defers = [] ∧ ∃ v, (results F act'.tmps).run P w' = .ok v w' ∧ ∃ x Im' ρ', Ending.returned v = .returned x ∧ Back n Im ρ Ω w r Im' ρ' x w' := fun hfin => by
      obtain ⟨v, Im2, ρ2, hrun, hback⟩ := finishFn_ok (fn := ⟨F.params.size + F.nfree, b, rs, fz, up⟩) hrs hfin hN' (fun i hi => by
        rw [hBl] at hi
        show (ρ.take n)[i]? = ρ[i]?
        rw [List.getElem?_take_of_lt hi]) hst
      rw [hBl] at hback
      exact ⟨hN'.defers, v, hrun, v, Im2, ρ2, rfl, hback⟩
    cases x with
    | normal => exact fin h
    | ret => exact fin h
    | exit id => cases h
end Go.Proofs.Ytkaigdfklihlcaa.Sym
