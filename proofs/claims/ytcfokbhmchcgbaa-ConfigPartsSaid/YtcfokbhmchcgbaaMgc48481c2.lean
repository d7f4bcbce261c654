/- Check, the program's. -/
import Derived.Test.YtcfokbhmchcgbaaMg9bffb2aa
import Derived.Test.YtcfokbhmchcgbaaMg28c758ef
import Derived.Test.YtcfokbhmchcgbaaMg9d92cb48
namespace Go.Proofs.Ytcfokbhmchcgbaa.Ver
open Go Go.Proofs.Ytcfokbhmchcgbaa.Sym Go.Proofs.Ytcfokbhmchcgbaa.Tab
set_option linter.unusedVariables false
set_option linter.unusedSimpArgs false
set_option maxHeartbeats 4000000
set_option maxRecDepth 20000
theorem check_err (k : Nat) (y : AV) (e p : Int) (d : Nat) (hd : d ≤ 1) (x : AV) (hx : ∃ n cs, x = .shr n false cs ∧ cs.all atom = true ∧ cs.all flat0 = true) (h : acall T (k + 17) 53 0 [x] [] = some ⟨.tup [.v (.slice none 0 0), .v (.int .i64 e), .v (.int .i64 p)], [], d⟩) :
    ∃ d', acall T (k + 18) 38 0 [x] [] = some ⟨.tup [.v (.int .i64 e), .v (.int .i64 p)], [], d'⟩ ∧ d' ≤ 1 := by
  obtain ⟨n, cs, rfl, h1, h2⟩ := hx
  refine ⟨d, ?_, hd⟩
  rw [acall_go (body := b_verify_Check) rfl rfl (Nat.zero_le _)]
  have hdd : d = 0 ∨ d = 1 := by omega
  rcases hdd with rfl | rfl <;> simp -implicitDefEqProofs only [eqs, eqd, aCall, Sym.reach, Sym.pos, ↓reduceIte, reduceCtorEq, Nat.reduceEqDiff, Nat.reduceAdd, Nat.reduceSub, Nat.reduceMul, Nat.reduceLT, Nat.reduceLeDiff, Nat.reduceBEq, Nat.reduceBNe, Nat.reduceGT, Int.reduceEq, Int.reduceLT, Int.reduceLE, Int.reduceToNat, Int.reduceAdd, Int.reduceSub, Int.reduceMul, Int.reduceNeg, Int.reduceBEq, Int.reduceBNe, b_verify_Check, h, r0, s0]
theorem check_ok (k : Nat) (n M : Nat) (cs : List AV) (W : List Sym.Obj) (h : acall T (k + 17) 53 0 [.shr n false cs] [] = some ⟨.tup [.view 0 0 M 1 (some M), .v (.int .i64 0), .v (.int .i64 0)], W, 1⟩) :
    acall T (k + 18) 38 0 [.shr n false cs] [] = some ⟨.tup [.v (.int .i64 0), .v (.int .i64 0)], [], 1⟩ := by
  rw [acall_go (body := b_verify_Check) rfl rfl (Nat.zero_le _)]
  simp -implicitDefEqProofs only [eqs, eqd, aCall, Sym.pos, ↓reduceIte, reduceCtorEq, Nat.reduceEqDiff, Nat.reduceAdd, Nat.reduceSub, Nat.reduceMul, Nat.reduceLT, Nat.reduceLeDiff, Nat.reduceBEq, Nat.reduceBNe, Nat.reduceGT, Int.reduceEq, Int.reduceLT, Int.reduceLE, Int.reduceToNat, Int.reduceAdd, Int.reduceSub, Int.reduceMul, Int.reduceNeg, Int.reduceBEq, Int.reduceBNe, b_verify_Check, h, r0, s0]
end Go.Proofs.Ytcfokbhmchcgbaa.Ver

/- Check of a program, of both. -/
namespace Go.Proofs.Ytcfokbhmchcgbaa.Cfg
open Go Go.Proofs.Ytcfokbhmchcgbaa.Sym Go.Proofs.Ytcfokbhmchcgbaa.Tab Go.Proofs.Ytcfokbhmchcgbaa.Args
set_option linter.unusedVariables false
set_option linter.unusedSimpArgs false
set_option maxHeartbeats 4000000
set_option maxRecDepth 20000
def toV (v : Ins) : Ver.Ins := ⟨v.f0, v.f1, v.f2, v.f3, v.f4⟩
theorem toV_c (l : List Ins) : l.flatMap S54.av = (l.map toV).flatMap Ver.Ins.c := by
  rw [List.flatMap_map]
  rfl
theorem toV_in {l : List Ins} (h : ∀ (i0 : Nat) x0, l[i0]? = some x0 → S54.In x0) (i : Nat) (hi : i < (l.map toV).length) : ((l.map toV)[i]).In := by
  rw [List.getElem_map]
  have hl : i < l.length := by simpa using hi
  have := h i l[i] (List.getElem?_eq_getElem hl)
  exact ⟨this.1, this.2, this.3, this.4, this.5⟩
theorem vins_ok (L : List Ver.Ins) : ∃ n cs, AV.shr L.length false (L.flatMap Ver.Ins.c) = .shr n false cs ∧ cs.all atom = true ∧ cs.all flat0 = true := by
  refine ⟨_, _, rfl, ?_, ?_⟩
  · induction L with
    | nil => rfl
    | cons x L ih => rw [List.flatMap_cons, List.all_append, ih]; rfl
  · induction L with
    | nil => rfl
    | cons x L ih => rw [List.flatMap_cons, List.all_append, ih]; rfl
/-- The error of a program. -/
def cE (l : List Ins) : Int := if 200 < l.length then 2 else (Ver.run (l.map toV) l.length 0 (Ver.t00 l.length)).1
theorem vcheck_a (k : Nat) (hk : 200 ≤ k) (l : List Ins) (hin : ∀ (i0 : Nat) x0, l[i0]? = some x0 → S54.In x0) : ∃ d p, d ≤ 1 ∧ acall T (k + 18) 38 0 [.shr l.length false (l.flatMap S54.av)] [] = some ⟨.tup [.v (.int .i64 (cE l)), .v (.int .i64 p)], [], d⟩ := by
  have hv := toV_in hin
  have hl : (l.map toV).length = l.length := List.length_map ..
  unfold cE
  rw [toV_c]
  rw [← hl]
  generalize l.map toV = L at *
  by_cases c : 200 < L.length
  · rw [if_pos c]
    obtain ⟨d, h1, h2⟩ := Ver.check_err k (.v (.int .i64 0)) 2 200 0 (by omega) _ (vins_ok L) (Ver.all_long k L c)
    exact ⟨d, _, h2, h1⟩
  · rw [if_neg c]
    have h1 := Ver.all_a k hk L (by omega) hv
    generalize Ver.run L L.length 0 (Ver.t00 L.length) = r at *
    obtain ⟨e, p, t⟩ := r
    unfold Ver.pres at h1
    simp only at h1 ⊢
    by_cases he : e = 0
    · rw [if_pos he] at h1
      subst he
      exact ⟨1, _, Nat.le_refl _, Ver.check_ok k _ _ _ _ h1⟩
    · rw [if_neg he] at h1
      obtain ⟨d, g1, g2⟩ := Ver.check_err k (.v (.int .i64 0)) e p 1 (by omega) _ (vins_ok L) h1
      exact ⟨d, _, g2, g1⟩
end Go.Proofs.Ytcfokbhmchcgbaa.Cfg

/- Are all blocks of a station's its own? a station, the program's. -/
namespace Go.Proofs.Ytcfokbhmchcgbaa.Cfg
open Go Go.Proofs.Ytcfokbhmchcgbaa.Sym Go.Proofs.Ytcfokbhmchcgbaa.Tab Go.Proofs.Ytcfokbhmchcgbaa.Args
set_option linter.unusedVariables false
set_option linter.unusedSimpArgs false
set_option maxHeartbeats 4000000
set_option maxRecDepth 20000
def adB : Option Blk → Int
  | none => 0
  | some b => b.f1
abbrev xc (c : Clu) : Sym.Obj := ⟨true, false, true, c.av⟩
abbrev xs (s : Sta) : Sym.Obj := ⟨true, false, true, s.av⟩
theorem clo_own (k : Nat) (hk : 250 ≤ k) (c : Clu) (hB : c.f6.length ≤ 250) (s : Sta) (z : Spt) : acall T (k + 5) 54 2 [.agg z.av, .ptr 0 0, .ptr 1 0] [xc c, xs s] = some ⟨.v (.bool (adB (rB c.f6 z) != s.f0)), [xc c, xs s], 1⟩ := by
  have hf := bfind_a k hk c.f6 hB z.f0
  rw [acall_go (body := b_config_owns_1) rfl rfl (Nat.le_refl 2)]
  unfold rB
  generalize fnd (fun y : Blk => y.f0) z.f0 c.f6 c.f6.length 0 = r at *
  cases r with
  | none =>
    simp only [blkO] at hf
    simp -implicitDefEqProofs only [eqs, eqd, eqe, lh_some, ↓reduceIte, reduceCtorEq, Nat.reduceEqDiff, Nat.reduceAdd, Nat.reduceSub, Nat.reduceMul, Nat.reduceLT, Nat.reduceLeDiff, Nat.reduceBEq, Nat.reduceBNe, Nat.reduceGT, Int.reduceEq, Int.reduceLT, Int.reduceLE, Int.reduceToNat, Int.reduceAdd, Int.reduceSub, Int.reduceMul, Int.reduceNeg, Int.reduceBEq, Int.reduceBNe, b_config_owns_1, S25.av, S37.av, S56.av, xc, xs, hf, adB]
  | some b =>
    simp only [blkO, S63.av] at hf
    simp -implicitDefEqProofs only [eqs, eqd, eqe, lh_some, ↓reduceIte, reduceCtorEq, Nat.reduceEqDiff, Nat.reduceAdd, Nat.reduceSub, Nat.reduceMul, Nat.reduceLT, Nat.reduceLeDiff, Nat.reduceBEq, Nat.reduceBNe, Nat.reduceGT, Int.reduceEq, Int.reduceLT, Int.reduceLE, Int.reduceToNat, Int.reduceAdd, Int.reduceSub, Int.reduceMul, Int.reduceNeg, Int.reduceBEq, Int.reduceBNe, b_config_owns_1, S25.av, S37.av, S56.av, xc, xs, hf, adB]
def ownF (c : Clu) (s : Sta) (P : List Spt) : Nat → Nat → Bool
  | 0, _ => true
  | m + 1, i => if h : i < P.length then (if adB (rB c.f6 P[i]) = s.f0 then ownF c s P m (i + 1) else false) else true
def owst (c : Clu) (s : Sta) (P : List Spt) (i d : Nat) : St := ⟨[(0, .shr P.length false (P.flatMap S56.av)), (1, .fn 54 [.ptr 0 0, .ptr 1 0]), (7, .v (.int .i64 P.length)), (8, .v (.int .i64 i))], [xc c, xs s], d, [0, 1]⟩
noncomputable abbrev owfin (C : CT) (lf : Nat) (s : St) (N : Nat) : Option Res := FnR [.t 4] false false (Lh C lf (some s) [0, 1, 7, 8] l_api_Spot_47_0 N [.b 0, .c l_api_Spot_47_1])
theorem own_one (k : Nat) (hk : 250 ≤ k) (lf : Nat) (c : Clu) (hB : c.f6.length ≤ 250) (s : Sta) (P : List Spt) (hP : P.length ≤ 250) (i : Nat) (hi : i < P.length) (d : Nat) (hd : d ≤ 1) (N : Nat) : owfin (acall T (k + 5)) lf (owst c s P i d) (N + 1) = if adB (rB c.f6 P[i]) = s.f0 then owfin (acall T (k + 5)) lf (owst c s P (i + 1) 1) N else some ⟨.v (.int .i64 i), [xc c, xs s], 1⟩ := by
  have c1 : (i : Int) < P.length := by omega
  have c0 : (0 : Int) ≤ i := by omega
  have w1 : IntKind.i64.wrap ((i : Int) + 1) = i + 1 := w64 (by omega) (by omega)
  have h5 := chunk S56.av 2 spt_len P i hi
  have l5 : i * 2 + 2 ≤ P.length * 2 := by omega
  have hl := chunk_len S56.av 2 spt_len P
  have hc := clo_own k hk c hB s P[i]
  have hdd : d = 0 ∨ d = 1 := by omega
  unfold owfin owst
  rw [lh_as l_api_Spot_47_0.eq_1]
  generalize adB (rB c.f6 P[i]) = v at *
  generalize P[i] = y at *
  generalize P.flatMap S56.av = cs at *
  generalize P.length = n at *
  by_cases e : v = s.f0
  · have e' : (v != s.f0) = false := by simpa using e
    rw [e'] at hc
    rw [if_pos e]
    simp only [S56.av, S25.av, S37.av, xc, xs] at hc
    rcases hdd with rfl | rfl
    · simp -implicitDefEqProofs only [eqs, eqd, eqe, ↓reduceIte, reduceCtorEq, Nat.reduceEqDiff, Nat.reduceAdd, Nat.reduceSub, Nat.reduceMul, Nat.reduceLT, Nat.reduceLeDiff, Nat.reduceBEq, Nat.reduceBNe, Nat.reduceGT, Int.reduceEq, Int.reduceLT, Int.reduceLE, Int.reduceToNat, Int.reduceAdd, Int.reduceSub, Int.reduceMul, Int.reduceNeg, Int.reduceBEq, Int.reduceBNe, nx_nil, S56.av, S25.av, S37.av, xc, xs, c0, c1, w1, h5, l5, hl, hc, Int.toNat_natCast, Int.natCast_add]
    · simp -implicitDefEqProofs only [eqs, eqd, eqe, ↓reduceIte, reduceCtorEq, Nat.reduceEqDiff, Nat.reduceAdd, Nat.reduceSub, Nat.reduceMul, Nat.reduceLT, Nat.reduceLeDiff, Nat.reduceBEq, Nat.reduceBNe, Nat.reduceGT, Int.reduceEq, Int.reduceLT, Int.reduceLE, Int.reduceToNat, Int.reduceAdd, Int.reduceSub, Int.reduceMul, Int.reduceNeg, Int.reduceBEq, Int.reduceBNe, nx_nil, S56.av, S25.av, S37.av, xc, xs, c0, c1, w1, h5, l5, hl, hc, Int.toNat_natCast, Int.natCast_add]
  · have e' : (v != s.f0) = true := by simpa using e
    rw [e'] at hc
    rw [if_neg e]
    simp only [S56.av, S25.av, S37.av, xc, xs] at hc
    rcases hdd with rfl | rfl
    · simp -implicitDefEqProofs only [eqs, eqd, eqe, ↓reduceIte, reduceCtorEq, Nat.reduceEqDiff, Nat.reduceAdd, Nat.reduceSub, Nat.reduceMul, Nat.reduceLT, Nat.reduceLeDiff, Nat.reduceBEq, Nat.reduceBNe, Nat.reduceGT, Int.reduceEq, Int.reduceLT, Int.reduceLE, Int.reduceToNat, Int.reduceAdd, Int.reduceSub, Int.reduceMul, Int.reduceNeg, Int.reduceBEq, Int.reduceBNe, nx_nil, S56.av, S25.av, S37.av, xc, xs, c0, c1, w1, h5, l5, hl, hc, Int.toNat_natCast, Int.natCast_add]
    · simp -implicitDefEqProofs only [eqs, eqd, eqe, ↓reduceIte, reduceCtorEq, Nat.reduceEqDiff, Nat.reduceAdd, Nat.reduceSub, Nat.reduceMul, Nat.reduceLT, Nat.reduceLeDiff, Nat.reduceBEq, Nat.reduceBNe, Nat.reduceGT, Int.reduceEq, Int.reduceLT, Int.reduceLE, Int.reduceToNat, Int.reduceAdd, Int.reduceSub, Int.reduceMul, Int.reduceNeg, Int.reduceBEq, Int.reduceBNe, nx_nil, S56.av, S25.av, S37.av, xc, xs, c0, c1, w1, h5, l5, hl, hc, Int.toNat_natCast, Int.natCast_add]
theorem own_run (k : Nat) (hk : 250 ≤ k) (lf : Nat) (c : Clu) (hB : c.f6.length ≤ 250) (s : Sta) (P : List Spt) (hP : P.length ≤ 250) : ∀ (m i d N : Nat), i + m = P.length → m ≤ N → d ≤ 1 → ∃ d' j, d' ≤ 1 ∧ owfin (acall T (k + 5)) lf (owst c s P i d) N = some ⟨.v (.int .i64 j), [xc c, xs s], d'⟩ ∧ decide (0 ≤ j) = !ownF c s P m i
  | 0, i, d, N, hi, hN, hd => by
    obtain rfl : i = P.length := by omega
    refine ⟨d, -1, hd, ?_, rfl⟩
    have c1 : ¬ (P.length : Int) < P.length := by omega
    have hdd : d = 0 ∨ d = 1 := by omega
    unfold owfin owst
    rw [lh_as l_api_Spot_47_0.eq_1]
    generalize P.flatMap S56.av = cs at *
    rcases hdd with rfl | rfl
    · simp -implicitDefEqProofs only [eqs, eqd, eqe, ↓reduceIte, reduceCtorEq, Nat.reduceEqDiff, Nat.reduceAdd, Nat.reduceSub, Nat.reduceMul, Nat.reduceLT, Nat.reduceLeDiff, Nat.reduceBEq, Nat.reduceBNe, Nat.reduceGT, Int.reduceEq, Int.reduceLT, Int.reduceLE, Int.reduceToNat, Int.reduceAdd, Int.reduceSub, Int.reduceMul, Int.reduceNeg, Int.reduceBEq, Int.reduceBNe, nx_nil, l_api_Spot_47_1, S25.av, S37.av, xc, xs, c1]
    · simp -implicitDefEqProofs only [eqs, eqd, eqe, ↓reduceIte, reduceCtorEq, Nat.reduceEqDiff, Nat.reduceAdd, Nat.reduceSub, Nat.reduceMul, Nat.reduceLT, Nat.reduceLeDiff, Nat.reduceBEq, Nat.reduceBNe, Nat.reduceGT, Int.reduceEq, Int.reduceLT, Int.reduceLE, Int.reduceToNat, Int.reduceAdd, Int.reduceSub, Int.reduceMul, Int.reduceNeg, Int.reduceBEq, Int.reduceBNe, nx_nil, l_api_Spot_47_1, S25.av, S37.av, xc, xs, c1]
  | m + 1, i, d, N, hi, hN, hd => by
    obtain ⟨N, rfl⟩ : ∃ M, N = M + 1 := ⟨N - 1, by omega⟩
    have h : i < P.length := by omega
    rw [own_one k hk lf c hB s P hP i h d hd N, ownF, dif_pos h]
    by_cases e : adB (rB c.f6 P[i]) = s.f0
    · rw [if_pos e, if_pos e]
      exact own_run k hk lf c hB s P hP m (i + 1) 1 N (by omega) (by omega) (Nat.le_refl _)
    · rw [if_neg e, if_neg e]
      exact ⟨1, i, Nat.le_refl _, rfl, by simp⟩
theorem owns_a (k : Nat) (hk : 250 ≤ k) (c : Clu) (hB : c.f6.length ≤ 250) (s : Sta) (hP : s.f5.length ≤ 250) : acall T (k + 8) 40 0 [.agg c.av, .agg s.av] [] = some ⟨.v (.bool (ownF c s s.f5 s.f5.length 0)), [], 1⟩ := by
  obtain ⟨d, j, hd, h1, h2⟩ := own_run k hk (k + 5) c hB s s.f5 hP s.f5.length 0 0 (k + 4) (by omega) (by omega) (by omega)
  have lp : ∀ (ks : List It) (s : St), Lp (acall T (k + 5)) (k + 5) [0, 1, 7, 8] l_api_Spot_47_0 (k + 5) ks s = Lh (acall T (k + 5)) (k + 5) (canon [0, 1, 7, 8] s) [0, 1, 7, 8] l_api_Spot_47_0 (k + 4) ks := fun ks s => lp_succ (n := k + 4)
  have i1 : acall T (k + 6) 47 2 [.shr s.f5.length false (s.f5.flatMap S56.av), .fn 54 [.ptr 0 0, .ptr 1 0]] [xc c, xs s] = some ⟨.v (.int .i64 j), [xc c, xs s], d⟩ := by
    rw [acall_go (body := b_api_Spot_47) rfl rfl (Nat.le_refl 2), ← h1]
    unfold owfin owst
    generalize s.f5.flatMap S56.av = cs at *
    simp -implicitDefEqProofs only [eqs, eqd, eqe, ↓reduceIte, reduceCtorEq, Nat.reduceEqDiff, Nat.reduceAdd, Nat.reduceSub, Nat.reduceMul, Nat.reduceLT, Nat.reduceLeDiff, Nat.reduceBEq, Nat.reduceBNe, Nat.reduceGT, Int.reduceEq, Int.reduceLT, Int.reduceLE, Int.reduceToNat, Int.reduceAdd, Int.reduceSub, Int.reduceMul, Int.reduceNeg, Int.reduceBEq, Int.reduceBNe, b_api_Spot_47, S25.av, S37.av, xc, xs, lp, Int.natCast_zero]
  clear h1
  have hdd : d = 0 ∨ d = 1 := by omega
  have i2 : ∃ d2, d2 ≤ 1 ∧ acall T (k + 7) 31 2 [.shr s.f5.length false (s.f5.flatMap S56.av), .fn 54 [.ptr 0 0, .ptr 1 0]] [xc c, xs s] = some ⟨.v (.bool (!ownF c s s.f5 s.f5.length 0)), [xc c, xs s], d2⟩ := by
    refine ⟨d, hd, ?_⟩
    rw [← h2, acall_go (body := b_api_Spot_31) rfl rfl (Nat.le_refl 2)]
    simp only [S25.av, S37.av, xc, xs] at i1
    by_cases c0 : 0 ≤ j
    · rcases hdd with rfl | rfl
      · simp -implicitDefEqProofs only [eqs, eqd, eqe, lh_some, ↓reduceIte, reduceCtorEq, Nat.reduceEqDiff, Nat.reduceAdd, Nat.reduceSub, Nat.reduceMul, Nat.reduceLT, Nat.reduceLeDiff, Nat.reduceBEq, Nat.reduceBNe, Nat.reduceGT, Int.reduceEq, Int.reduceLT, Int.reduceLE, Int.reduceToNat, Int.reduceAdd, Int.reduceSub, Int.reduceMul, Int.reduceNeg, Int.reduceBEq, Int.reduceBNe, b_api_Spot_31, S25.av, S37.av, xc, xs, i1, c0]
      · simp -implicitDefEqProofs only [eqs, eqd, eqe, lh_some, ↓reduceIte, reduceCtorEq, Nat.reduceEqDiff, Nat.reduceAdd, Nat.reduceSub, Nat.reduceMul, Nat.reduceLT, Nat.reduceLeDiff, Nat.reduceBEq, Nat.reduceBNe, Nat.reduceGT, Int.reduceEq, Int.reduceLT, Int.reduceLE, Int.reduceToNat, Int.reduceAdd, Int.reduceSub, Int.reduceMul, Int.reduceNeg, Int.reduceBEq, Int.reduceBNe, b_api_Spot_31, S25.av, S37.av, xc, xs, i1, c0]
    · rcases hdd with rfl | rfl
      · simp -implicitDefEqProofs only [eqs, eqd, eqe, lh_some, ↓reduceIte, reduceCtorEq, Nat.reduceEqDiff, Nat.reduceAdd, Nat.reduceSub, Nat.reduceMul, Nat.reduceLT, Nat.reduceLeDiff, Nat.reduceBEq, Nat.reduceBNe, Nat.reduceGT, Int.reduceEq, Int.reduceLT, Int.reduceLE, Int.reduceToNat, Int.reduceAdd, Int.reduceSub, Int.reduceMul, Int.reduceNeg, Int.reduceBEq, Int.reduceBNe, b_api_Spot_31, S25.av, S37.av, xc, xs, i1, c0]
      · simp -implicitDefEqProofs only [eqs, eqd, eqe, lh_some, ↓reduceIte, reduceCtorEq, Nat.reduceEqDiff, Nat.reduceAdd, Nat.reduceSub, Nat.reduceMul, Nat.reduceLT, Nat.reduceLeDiff, Nat.reduceBEq, Nat.reduceBNe, Nat.reduceGT, Int.reduceEq, Int.reduceLT, Int.reduceLE, Int.reduceToNat, Int.reduceAdd, Int.reduceSub, Int.reduceMul, Int.reduceNeg, Int.reduceBEq, Int.reduceBNe, b_api_Spot_31, S25.av, S37.av, xc, xs, i1, c0]
  obtain ⟨d2, hd2, i2⟩ := i2
  have hdd2 : d2 = 0 ∨ d2 = 1 := by omega
  rw [acall_go (body := b_config_owns) rfl rfl (Nat.zero_le _)]
  simp only [S25.av, S37.av, xc, xs] at i2
  generalize ownF c s s.f5 s.f5.length 0 = w at *
  cases w
  · rcases hdd2 with rfl | rfl
    · simp -implicitDefEqProofs only [eqs, eqd, eqe, lh_some, ↓reduceIte, reduceCtorEq, Nat.reduceEqDiff, Nat.reduceAdd, Nat.reduceSub, Nat.reduceMul, Nat.reduceLT, Nat.reduceLeDiff, Nat.reduceBEq, Nat.reduceBNe, Nat.reduceGT, Int.reduceEq, Int.reduceLT, Int.reduceLE, Int.reduceToNat, Int.reduceAdd, Int.reduceSub, Int.reduceMul, Int.reduceNeg, Int.reduceBEq, Int.reduceBNe, b_config_owns, S25.av, S37.av, i2]
    · simp -implicitDefEqProofs only [eqs, eqd, eqe, lh_some, ↓reduceIte, reduceCtorEq, Nat.reduceEqDiff, Nat.reduceAdd, Nat.reduceSub, Nat.reduceMul, Nat.reduceLT, Nat.reduceLeDiff, Nat.reduceBEq, Nat.reduceBNe, Nat.reduceGT, Int.reduceEq, Int.reduceLT, Int.reduceLE, Int.reduceToNat, Int.reduceAdd, Int.reduceSub, Int.reduceMul, Int.reduceNeg, Int.reduceBEq, Int.reduceBNe, b_config_owns, S25.av, S37.av, i2]
  · rcases hdd2 with rfl | rfl
    · simp -implicitDefEqProofs only [eqs, eqd, eqe, lh_some, ↓reduceIte, reduceCtorEq, Nat.reduceEqDiff, Nat.reduceAdd, Nat.reduceSub, Nat.reduceMul, Nat.reduceLT, Nat.reduceLeDiff, Nat.reduceBEq, Nat.reduceBNe, Nat.reduceGT, Int.reduceEq, Int.reduceLT, Int.reduceLE, Int.reduceToNat, Int.reduceAdd, Int.reduceSub, Int.reduceMul, Int.reduceNeg, Int.reduceBEq, Int.reduceBNe, b_config_owns, S25.av, S37.av, i2]
    · simp -implicitDefEqProofs only [eqs, eqd, eqe, lh_some, ↓reduceIte, reduceCtorEq, Nat.reduceEqDiff, Nat.reduceAdd, Nat.reduceSub, Nat.reduceMul, Nat.reduceLT, Nat.reduceLeDiff, Nat.reduceBEq, Nat.reduceBNe, Nat.reduceGT, Int.reduceEq, Int.reduceLT, Int.reduceLE, Int.reduceToNat, Int.reduceAdd, Int.reduceSub, Int.reduceMul, Int.reduceNeg, Int.reduceBEq, Int.reduceBNe, b_config_owns, S25.av, S37.av, i2]
/-- A station's error. -/
def stE (c : Clu) (i : Nat) (s : Sta) : Int := if (inn s.f0 0 c.f5 && inn s.f1 1 1000) = false then 3 else if dupI (fun y => y.f0) s.f0 c.f7 i 0 = true then 14
  else if (LayF s.f2 s.f4 c.f6).1 ≠ 0 then (LayF s.f2 s.f4 c.f6).1 else if cE s.f3 ≠ 0 then cE s.f3 else if (ReaF s.f5 c.f6).1 ≠ 0 then (ReaF s.f5 c.f6).1 else if ownF c s s.f5 s.f5.length 0 = true then 0 else 5
theorem station_a (k : Nat) (hk : 250 ≤ k) (c : Clu) (hB : c.f6.length ≤ 250) (hL : c.f7.length ≤ 250) (i : Nat) (hi : i < c.f7.length) (h4 : c.f7[i].f4.length ≤ 250) (h5 : c.f7[i].f5.length ≤ 250) (hin : ∀ (i0 : Nat) x0, c.f7[i].f3[i0]? = some x0 → S54.In x0) : acall T (k + 19) 22 0 [.agg c.av, .v (.int .i64 i)] [] = some ⟨.v (.int .i64 (stE c i c.f7[i])), [], 1⟩ := by
  have c1 : (i : Int) < c.f7.length := by omega
  have c0 : (0 : Int) ≤ i := by omega
  have g5 := chunk S37.av 6 sta_len c.f7 i hi
  have l5 : i * 6 + 6 ≤ c.f7.length * 6 := by omega
  have hl := chunk_len S37.av 6 sta_len c.f7
  have n1 := in_a (k + 17) c.f7[i].f0 0 c.f5
  have n2 := in_a (k + 17) c.f7[i].f1 1 1000
  have hp := place_a (k + 15) (by omega) c hL c.f7[i].f0
  have hj := (idx_dup (fun y : Sta => y.f0) c.f7[i].f0 c.f7 i hi rfl c.f7.length 0 (by omega) (by omega)).1
  rw [Nat.sub_zero] at hj
  obtain ⟨d1, e1, h1⟩ := Lay_a (k + 11) (by omega) c.f6 hB c.f7[i].f4 h4 c.f7[i].f2
  obtain ⟨d2, p2, e2, h2⟩ := vcheck_a k (by omega) c.f7[i].f3 hin
  obtain ⟨d3, e3, h3⟩ := Reach_a (k + 11) (by omega) c.f6 hB c.f7[i].f5 h5
  have ho := owns_a (k + 10) (by omega) c hB c.f7[i] h5
  have m1 : max 1 d1 = 1 := Nat.max_eq_left e1
  have m2 : max 1 d2 = 1 := Nat.max_eq_left e2
  have m3 : max 1 d3 = 1 := Nat.max_eq_left e3
  clear h4 h5 hin
  unfold stE
  generalize dupI (fun y : Sta => y.f0) c.f7[i].f0 c.f7 i 0 = du at *
  generalize idx (fun y : Sta => y.f0) c.f7[i].f0 c.f7 c.f7.length 0 = j at *
  unfold rE at h1 h3
  generalize hlay : LayF c.f7[i].f2 c.f7[i].f4 c.f6 = rl at *
  generalize hcee : cE c.f7[i].f3 = re at *
  generalize hrea : ReaF c.f7[i].f5 c.f6 = rr at *
  generalize ownF c c.f7[i] c.f7[i].f5 c.f7[i].f5.length 0 = ow at *
  clear hlay hcee hrea
  obtain ⟨rl, rl2⟩ := rl
  obtain ⟨rr, rr2⟩ := rr
  simp only at h1 h3 ⊢
  rw [acall_go (body := b_config_station) rfl rfl (Nat.zero_le _)]
  generalize c.f7[i] = y at *
  generalize inn y.f0 0 c.f5 = b1 at *
  generalize inn y.f1 1 1000 = b2 at *
  simp only [S25.av] at hp ho
  generalize hcs : c.f7.flatMap S37.av = cs at *
  simp only [S37.av] at ho g5
  cases b1
  · rw [if_pos (show (false && b2) = false from rfl)]
    simp -implicitDefEqProofs only [eqs, eqd, eqe, lh_some, ↓reduceIte, reduceCtorEq, Nat.reduceEqDiff, Nat.reduceAdd, Nat.reduceSub, Nat.reduceMul, Nat.reduceLT, Nat.reduceLeDiff, Nat.reduceBEq, Nat.reduceBNe, Nat.reduceGT, Int.reduceEq, Int.reduceLT, Int.reduceLE, Int.reduceToNat, Int.reduceAdd, Int.reduceSub, Int.reduceMul, Int.reduceNeg, Int.reduceBEq, Int.reduceBNe, b_config_station, g_config_station_0, S25.av, S37.av, hcs, c0, c1, g5, l5, hl, Int.toNat_natCast, n1]
  cases b2
  · rw [if_pos (show (true && false) = false from rfl)]
    simp -implicitDefEqProofs only [eqs, eqd, eqe, lh_some, ↓reduceIte, reduceCtorEq, Nat.reduceEqDiff, Nat.reduceAdd, Nat.reduceSub, Nat.reduceMul, Nat.reduceLT, Nat.reduceLeDiff, Nat.reduceBEq, Nat.reduceBNe, Nat.reduceGT, Int.reduceEq, Int.reduceLT, Int.reduceLE, Int.reduceToNat, Int.reduceAdd, Int.reduceSub, Int.reduceMul, Int.reduceNeg, Int.reduceBEq, Int.reduceBNe, b_config_station, g_config_station_0, S25.av, S37.av, hcs, c0, c1, g5, l5, hl, Int.toNat_natCast, n1, n2]
  rw [if_neg (show ¬ (true && true) = false by decide)]
  cases du
  case true =>
    have hjn : j < (i : Int) := hj.2 rfl
    rw [if_pos rfl]
    simp -implicitDefEqProofs only [eqs, eqd, eqe, lh_some, ↓reduceIte, reduceCtorEq, Nat.reduceEqDiff, Nat.reduceAdd, Nat.reduceSub, Nat.reduceMul, Nat.reduceLT, Nat.reduceLeDiff, Nat.reduceBEq, Nat.reduceBNe, Nat.reduceGT, Int.reduceEq, Int.reduceLT, Int.reduceLE, Int.reduceToNat, Int.reduceAdd, Int.reduceSub, Int.reduceMul, Int.reduceNeg, Int.reduceBEq, Int.reduceBNe, b_config_station, g_config_station_0, S25.av, S37.av, hcs, c0, c1, g5, l5, hl, Int.toNat_natCast, n1, n2, hp, hjn]
  have hjn : ¬ j < (i : Int) := fun h => by simpa using hj.1 h
  rw [if_neg (by decide)]
  by_cases z1 : rl = 0
  · rw [if_neg (show ¬ (rl ≠ 0) from fun h => h z1)]
    subst z1
    by_cases z2 : re = 0
    · rw [if_neg (show ¬ (re ≠ 0) from fun h => h z2)]
      subst z2
      by_cases z3 : rr = 0
      · rw [if_neg (show ¬ (rr ≠ 0) from fun h => h z3)]
        subst z3
        cases ow
        · rw [if_neg (by decide)]
          simp -implicitDefEqProofs only [eqs, eqd, eqe, lh_some, ↓reduceIte, reduceCtorEq, Nat.reduceEqDiff, Nat.reduceAdd, Nat.reduceSub, Nat.reduceMul, Nat.reduceLT, Nat.reduceLeDiff, Nat.reduceBEq, Nat.reduceBNe, Nat.reduceGT, Int.reduceEq, Int.reduceLT, Int.reduceLE, Int.reduceToNat, Int.reduceAdd, Int.reduceSub, Int.reduceMul, Int.reduceNeg, Int.reduceBEq, Int.reduceBNe, b_config_station, g_config_station_0, S25.av, S37.av, hcs, c0, c1, g5, l5, hl, Int.toNat_natCast, n1, n2, hp, hjn, h1, e1, m1, h2, e2, m2, h3, e3, m3, ho]
        · rw [if_pos rfl]
          simp -implicitDefEqProofs only [eqs, eqd, eqe, lh_some, ↓reduceIte, reduceCtorEq, Nat.reduceEqDiff, Nat.reduceAdd, Nat.reduceSub, Nat.reduceMul, Nat.reduceLT, Nat.reduceLeDiff, Nat.reduceBEq, Nat.reduceBNe, Nat.reduceGT, Int.reduceEq, Int.reduceLT, Int.reduceLE, Int.reduceToNat, Int.reduceAdd, Int.reduceSub, Int.reduceMul, Int.reduceNeg, Int.reduceBEq, Int.reduceBNe, b_config_station, g_config_station_0, S25.av, S37.av, hcs, c0, c1, g5, l5, hl, Int.toNat_natCast, n1, n2, hp, hjn, h1, e1, m1, h2, e2, m2, h3, e3, m3, ho]
      · have z3' : (rr != 0) = true := by simpa using z3
        rw [if_pos z3]
        simp -implicitDefEqProofs only [eqs, eqd, eqe, lh_some, ↓reduceIte, reduceCtorEq, Nat.reduceEqDiff, Nat.reduceAdd, Nat.reduceSub, Nat.reduceMul, Nat.reduceLT, Nat.reduceLeDiff, Nat.reduceBEq, Nat.reduceBNe, Nat.reduceGT, Int.reduceEq, Int.reduceLT, Int.reduceLE, Int.reduceToNat, Int.reduceAdd, Int.reduceSub, Int.reduceMul, Int.reduceNeg, Int.reduceBEq, Int.reduceBNe, b_config_station, g_config_station_0, S25.av, S37.av, hcs, c0, c1, g5, l5, hl, Int.toNat_natCast, n1, n2, hp, hjn, h1, e1, m1, h2, e2, m2, h3, e3, m3, z3']
    · have z2' : (re != 0) = true := by simpa using z2
      rw [if_pos z2]
      simp -implicitDefEqProofs only [eqs, eqd, eqe, lh_some, ↓reduceIte, reduceCtorEq, Nat.reduceEqDiff, Nat.reduceAdd, Nat.reduceSub, Nat.reduceMul, Nat.reduceLT, Nat.reduceLeDiff, Nat.reduceBEq, Nat.reduceBNe, Nat.reduceGT, Int.reduceEq, Int.reduceLT, Int.reduceLE, Int.reduceToNat, Int.reduceAdd, Int.reduceSub, Int.reduceMul, Int.reduceNeg, Int.reduceBEq, Int.reduceBNe, b_config_station, g_config_station_0, S25.av, S37.av, hcs, c0, c1, g5, l5, hl, Int.toNat_natCast, n1, n2, hp, hjn, h1, e1, m1, h2, e2, m2, z2']
  · have z1' : (rl != 0) = true := by simpa using z1
    rw [if_pos z1]
    simp -implicitDefEqProofs only [eqs, eqd, eqe, lh_some, ↓reduceIte, reduceCtorEq, Nat.reduceEqDiff, Nat.reduceAdd, Nat.reduceSub, Nat.reduceMul, Nat.reduceLT, Nat.reduceLeDiff, Nat.reduceBEq, Nat.reduceBNe, Nat.reduceGT, Int.reduceEq, Int.reduceLT, Int.reduceLE, Int.reduceToNat, Int.reduceAdd, Int.reduceSub, Int.reduceMul, Int.reduceNeg, Int.reduceBEq, Int.reduceBNe, b_config_station, g_config_station_0, S25.av, S37.av, hcs, c0, c1, g5, l5, hl, Int.toNat_natCast, n1, n2, hp, hjn, h1, e1, m1, z1']
end Go.Proofs.Ytcfokbhmchcgbaa.Cfg

/- A station, the document's. -/
namespace Go.Proofs.Ytcfokbhmchcgbaa.Cfg
open Go Go.Proofs.Ytcfokbhmchcgbaa.Sym Go.Proofs.Ytcfokbhmchcgbaa.Tab Go.Proofs.Ytcfokbhmchcgbaa.Args
set_option linter.unusedVariables false
set_option linter.unusedSimpArgs false
set_option maxHeartbeats 4000000
set_option maxRecDepth 20000
end Go.Proofs.Ytcfokbhmchcgbaa.Cfg

/- Check of a cluster, of both. -/
namespace Go.Proofs.Ytcfokbhmchcgbaa.Cfg
open Go Go.Proofs.Ytcfokbhmchcgbaa.Sym Go.Proofs.Ytcfokbhmchcgbaa.Tab Go.Proofs.Ytcfokbhmchcgbaa.Args
set_option linter.unusedVariables false
set_option linter.unusedSimpArgs false
set_option maxHeartbeats 4000000
set_option maxRecDepth 20000
def chF (c : Clu) : Nat → Nat → Int × Int
  | 0, _ => (0, 0)
  | m + 1, i => if h : i < c.f7.length then (if stE c i c.f7[i] ≠ 0 then (stE c i c.f7[i], 100 + i) else chF c m (i + 1)) else (0, 0)
def ckF (c : Clu) : Int × Int := if num c = false then (3, 0) else if (bcR c.f6).1 ≠ 0 then ((bcR c.f6).1, IntKind.i64.wrap (1 + (bcR c.f6).2)) else if inn c.f7.length 1 32 = false then (2, 100) else chF c c.f7.length 0
/-- What it is asked of. -/
structure Sml (c : Clu) : Prop where
  st : c.f7.length ≤ 250
  bl : c.f6.length ≤ 250
  sub : ∀ (j : Nat) (h : j < c.f7.length), c.f7[j].f4.length ≤ 250
  pub : ∀ (j : Nat) (h : j < c.f7.length), c.f7[j].f5.length ≤ 250
  cod : ∀ (j : Nat) (h : j < c.f7.length) (i0 : Nat) x0, c.f7[j].f3[i0]? = some x0 → S54.In x0
def ckstP (c : Clu) (i : Nat) : St := ⟨[(1, .ptr 0 0), (29, .v (.int .i64 c.f7.length)), (30, .v (.int .i64 i))], [⟨true, true, true, c.av⟩], 1, []⟩
noncomputable abbrev ckfP (C : CT) (lf : Nat) (s : St) (N : Nat) : Option Res := FnR [.t 2, .t 3] false false (Lh C lf (some s) [1, 29, 30] l_config_Check_0 N [.b 0, .c l_config_Check_1])
theorem ck_runP (k : Nat) (hk : 250 ≤ k) (lf : Nat) (c : Clu) (hs : Sml c) : ∀ (m i N : Nat), i + m = c.f7.length → m ≤ N → ckfP (acall T (k + 19)) lf (ckstP c i) N = some ⟨rE (chF c m i), [], 1⟩
  | 0, i, N, hi, hN => by
    obtain rfl : i = c.f7.length := by omega
    have c1 : ¬ (c.f7.length : Int) < c.f7.length := by omega
    rw [chF]
    unfold ckfP ckstP rE
    rw [lh_as l_config_Check_0.eq_1]
    simp -implicitDefEqProofs only [eqs, eqd, eqe, ↓reduceIte, reduceCtorEq, Nat.reduceEqDiff, Nat.reduceAdd, Nat.reduceSub, Nat.reduceMul, Nat.reduceLT, Nat.reduceLeDiff, Nat.reduceBEq, Nat.reduceBNe, Nat.reduceGT, Int.reduceEq, Int.reduceLT, Int.reduceLE, Int.reduceToNat, Int.reduceAdd, Int.reduceSub, Int.reduceMul, Int.reduceNeg, Int.reduceBEq, Int.reduceBNe, nx_nil, l_config_Check_1, S25.av, c1]
  | m + 1, i, N, hi', hN => by
    obtain ⟨N, rfl⟩ : ∃ M, N = M + 1 := ⟨N - 1, by omega⟩
    have hi : i < c.f7.length := by omega
    have ih := ck_runP k hk lf c hs m (i + 1) N (by omega) (by omega)
    have c1 : (i : Int) < c.f7.length := by omega
    have hL := hs.st
    have w1 : IntKind.i64.wrap ((i : Int) + 1) = i + 1 := w64 (by omega) (by omega)
    have w2 : IntKind.i64.wrap (100 + (i : Int)) = 100 + i := w64 (by omega) (by omega)
    have hst := station_a k hk c hs.bl hs.st i hi (hs.sub i hi) (hs.pub i hi) (hs.cod i hi)
    rw [chF, dif_pos hi]
    generalize stE c i c.f7[i] = e at *
    simp only [S25.av] at hst
    by_cases z : e = 0
    · rw [if_neg (show ¬ (e ≠ 0) from fun h => h z), ← ih]
      subst z
      clear ih
      unfold ckfP ckstP
      rw [lh_as l_config_Check_0.eq_1]
      simp -implicitDefEqProofs only [eqs, eqd, eqe, ↓reduceIte, reduceCtorEq, Nat.reduceEqDiff, Nat.reduceAdd, Nat.reduceSub, Nat.reduceMul, Nat.reduceLT, Nat.reduceLeDiff, Nat.reduceBEq, Nat.reduceBNe, Nat.reduceGT, Int.reduceEq, Int.reduceLT, Int.reduceLE, Int.reduceToNat, Int.reduceAdd, Int.reduceSub, Int.reduceMul, Int.reduceNeg, Int.reduceBEq, Int.reduceBNe, nx_nil, S25.av, c1, w1, hst, Int.natCast_add]
    · have z' : (e != 0) = true := by simpa using z
      rw [if_pos z]
      clear ih
      unfold ckfP ckstP rE
      rw [lh_as l_config_Check_0.eq_1]
      simp -implicitDefEqProofs only [eqs, eqd, eqe, ↓reduceIte, reduceCtorEq, Nat.reduceEqDiff, Nat.reduceAdd, Nat.reduceSub, Nat.reduceMul, Nat.reduceLT, Nat.reduceLeDiff, Nat.reduceBEq, Nat.reduceBNe, Nat.reduceGT, Int.reduceEq, Int.reduceLT, Int.reduceLE, Int.reduceToNat, Int.reduceAdd, Int.reduceSub, Int.reduceMul, Int.reduceNeg, Int.reduceBEq, Int.reduceBNe, nx_nil, S25.av, c1, w2, hst, z']
theorem Check_a (k : Nat) (hk : 250 ≤ k) (c : Clu) (hs : Sml c) : acall T (k + 20) 8 0 [.agg c.av] [] = some ⟨rE (ckF c), [], 1⟩ := by
  have hn := numbers_a (k + 17) c
  obtain ⟨d, e1, hb⟩ := bcheck_a (k + 15) (by omega) c.f6 hs.bl
  have m1 : max 1 d = 1 := Nat.max_eq_left e1
  have hi := in_a (k + 18) c.f7.length 1 32
  have hst := hs.st
  have key := ck_runP k hk (k + 19) c hs c.f7.length 0 (k + 18) (by omega) (by omega)
  have lp : ∀ (ks : List It) (s : St), Lp (acall T (k + 19)) (k + 19) [1, 29, 30] l_config_Check_0 (k + 19) ks s = Lh (acall T (k + 19)) (k + 19) (canon [1, 29, 30] s) [1, 29, 30] l_config_Check_0 (k + 18) ks := fun ks s => lp_succ (n := k + 18)
  unfold ckF
  generalize chF c c.f7.length 0 = w at *
  generalize num c = b0 at *
  generalize inn c.f7.length 1 32 = b1 at *
  unfold rE at hb
  generalize bcR c.f6 = r at *
  obtain ⟨r1, r2⟩ := r
  simp only [S25.av] at hn
  simp only at hb ⊢
  rw [acall_go (body := b_config_Check) rfl rfl (Nat.zero_le _)]
  cases b0
  · rw [if_pos rfl]
    unfold rE
    simp -implicitDefEqProofs only [eqs, eqd, eqe, ↓reduceIte, reduceCtorEq, Nat.reduceEqDiff, Nat.reduceAdd, Nat.reduceSub, Nat.reduceMul, Nat.reduceLT, Nat.reduceLeDiff, Nat.reduceBEq, Nat.reduceBNe, Nat.reduceGT, Int.reduceEq, Int.reduceLT, Int.reduceLE, Int.reduceToNat, Int.reduceAdd, Int.reduceSub, Int.reduceMul, Int.reduceNeg, Int.reduceBEq, Int.reduceBNe, b_config_Check, S25.av, hn]
  rw [if_neg (by decide)]
  by_cases z : r1 = 0
  · rw [if_neg (show ¬ (r1 ≠ 0) from fun h => h z)]
    subst z
    cases b1
    · rw [if_pos rfl]
      unfold rE
      simp -implicitDefEqProofs only [eqs, eqd, eqe, ↓reduceIte, reduceCtorEq, Nat.reduceEqDiff, Nat.reduceAdd, Nat.reduceSub, Nat.reduceMul, Nat.reduceLT, Nat.reduceLeDiff, Nat.reduceBEq, Nat.reduceBNe, Nat.reduceGT, Int.reduceEq, Int.reduceLT, Int.reduceLE, Int.reduceToNat, Int.reduceAdd, Int.reduceSub, Int.reduceMul, Int.reduceNeg, Int.reduceBEq, Int.reduceBNe, b_config_Check, S25.av, hn, hb, e1, m1, hi]
    · rw [if_neg (by decide), ← key]
      clear key
      unfold ckfP ckstP
      simp -implicitDefEqProofs only [eqs, eqd, eqe, ↓reduceIte, reduceCtorEq, Nat.reduceEqDiff, Nat.reduceAdd, Nat.reduceSub, Nat.reduceMul, Nat.reduceLT, Nat.reduceLeDiff, Nat.reduceBEq, Nat.reduceBNe, Nat.reduceGT, Int.reduceEq, Int.reduceLT, Int.reduceLE, Int.reduceToNat, Int.reduceAdd, Int.reduceSub, Int.reduceMul, Int.reduceNeg, Int.reduceBEq, Int.reduceBNe, b_config_Check, S25.av, hn, hb, e1, m1, hi, lp, Int.natCast_zero]
  · have z' : (r1 != 0) = true := by simpa using z
    rw [if_pos z]
    unfold rE
    simp -implicitDefEqProofs only [eqs, eqd, eqe, ↓reduceIte, reduceCtorEq, Nat.reduceEqDiff, Nat.reduceAdd, Nat.reduceSub, Nat.reduceMul, Nat.reduceLT, Nat.reduceLeDiff, Nat.reduceBEq, Nat.reduceBNe, Nat.reduceGT, Int.reduceEq, Int.reduceLT, Int.reduceLE, Int.reduceToNat, Int.reduceAdd, Int.reduceSub, Int.reduceMul, Int.reduceNeg, Int.reduceBEq, Int.reduceBNe, b_config_Check, S25.av, hn, hb, e1, m1, z']
end Go.Proofs.Ytcfokbhmchcgbaa.Cfg

/- A cluster without one of its stations, with other numbers: plain. -/
namespace Go.Proofs.Ytcfokbhmchcgbaa.Cfg
open Go Go.Proofs.Ytcfokbhmchcgbaa.Sym Go.Proofs.Ytcfokbhmchcgbaa.Tab Go.Proofs.Ytcfokbhmchcgbaa.Args
set_option linter.unusedVariables false
set_option linter.unusedSimpArgs false
theorem chF_all (c : Clu) : ∀ (m i : Nat), i + m = c.f7.length → (chF c m i).1 = 0 → ∀ (j : Nat) (h : j < c.f7.length), i ≤ j → stE c j c.f7[j] = 0
  | 0, i, hi, h0, j, h, hj => by omega
  | m + 1, i, hi, h0, j, h, hj => by
    have hlt : i < c.f7.length := by omega
    rw [chF, dif_pos hlt] at h0
    by_cases e : stE c i c.f7[i] = 0
    · rw [if_neg (show ¬ (stE c i c.f7[i] ≠ 0) from fun q => q e)] at h0
      by_cases z : j = i
      · subst z; exact e
      · exact chF_all c m (i + 1) (by omega) h0 j h (by omega)
    · rw [if_pos e] at h0
      exact absurd h0 e
theorem chF_ok (c : Clu) (h : ∀ (j : Nat) (h : j < c.f7.length), stE c j c.f7[j] = 0) : ∀ (m i : Nat), i + m = c.f7.length → chF c m i = (0, 0)
  | 0, i, hi => rfl
  | m + 1, i, hi => by
    have hlt : i < c.f7.length := by omega
    rw [chF, dif_pos hlt, if_neg (show ¬ (stE c i c.f7[i] ≠ 0) from fun q => q (h i hlt))]
    exact chF_ok c h m (i + 1) (by omega)
structure May (c : Clu) : Prop where
  num : num c = true
  blk : (bcR c.f6).1 = 0
  len : inn c.f7.length 1 32 = true
  st : ∀ (j : Nat) (h : j < c.f7.length), stE c j c.f7[j] = 0
theorem ckF_may {c : Clu} (h : (ckF c).1 = 0) : May c := by
  unfold ckF at h
  by_cases h1 : num c = false
  · rw [if_pos h1] at h; simp at h
  rw [if_neg h1] at h
  by_cases h2 : (bcR c.f6).1 = 0
  · rw [if_neg (show ¬ ((bcR c.f6).1 ≠ 0) from fun q => q h2)] at h
    by_cases h3 : inn c.f7.length 1 32 = false
    · rw [if_pos h3] at h; simp at h
    rw [if_neg h3] at h
    exact ⟨by simpa using h1, h2, by simpa using h3, fun j hj => chF_all c c.f7.length 0 (by omega) h j hj (by omega)⟩
  · rw [if_pos h2] at h
    exact absurd h h2
theorem may_ckF {c : Clu} (h : May c) : ckF c = (0, 0) := by
  unfold ckF
  rw [if_neg (by rw [h.num]; decide), if_neg (show ¬ ((bcR c.f6).1 ≠ 0) from fun q => q h.blk), if_neg (by rw [h.len]; decide)]
  exact chF_ok c h.st c.f7.length 0 (by omega)
theorem inn_iff (x l h : Int) : inn x l h = true ↔ l ≤ x ∧ x ≤ h := by unfold inn; simp
theorem dupI_iff {α : Type} (key : α → Int) (x : Int) (L : List α) : ∀ (m k : Nat), dupI key x L m k = true ↔ ∃ (j : Nat) (h : j < L.length), k ≤ j ∧ j < k + m ∧ key L[j] = x
  | 0, k => ⟨fun h => (by cases h), fun ⟨j, h, h1, h2, _⟩ => (by omega)⟩
  | m + 1, k => by
    rw [dupI]
    by_cases c : k < L.length
    · rw [dif_pos c]
      by_cases e : key L[k] = x
      · rw [if_pos e]
        exact ⟨fun _ => ⟨k, c, by omega, by omega, e⟩, fun _ => rfl⟩
      · rw [if_neg e, dupI_iff key x L m (k + 1)]
        constructor
        · rintro ⟨j, h, h1, h2, h3⟩
          exact ⟨j, h, by omega, by omega, h3⟩
        · rintro ⟨j, h, h1, h2, h3⟩
          refine ⟨j, h, ?_, by omega, h3⟩
          by_cases z : j = k
          · subst z; exact absurd h3 e
          · omega
    · rw [dif_neg c]
      exact ⟨fun h => (by cases h), fun ⟨j, h, h1, h2, _⟩ => (by omega)⟩
theorem ownF_eq (c d : Clu) (h6 : d.f6 = c.f6) (s : Sta) (P : List Spt) : ∀ m i, ownF d s P m i = ownF c s P m i
  | 0, i => rfl
  | m + 1, i => by rw [ownF, ownF, h6, ownF_eq c d h6 s P m (i + 1)]
/-- What a station that may be asks for. -/
theorem stE_0 {c : Clu} {i : Nat} {s : Sta} : stE c i s = 0 ↔ (inn s.f0 0 c.f5 && inn s.f1 1 1000) = true ∧ dupI (fun y => y.f0) s.f0 c.f7 i 0 = false ∧ (LayF s.f2 s.f4 c.f6).1 = 0 ∧ cE s.f3 = 0 ∧ (ReaF s.f5 c.f6).1 = 0 ∧ ownF c s s.f5 s.f5.length 0 = true := by
  unfold stE
  by_cases h1 : (inn s.f0 0 c.f5 && inn s.f1 1 1000) = false
  · rw [if_pos h1, h1]
    simp
  rw [if_neg h1]
  have h1' : (inn s.f0 0 c.f5 && inn s.f1 1 1000) = true := by simpa using h1
  by_cases h2 : dupI (fun y => y.f0) s.f0 c.f7 i 0 = true
  · rw [if_pos h2, h2]
    simp
  rw [if_neg h2]
  have h2' : dupI (fun y => y.f0) s.f0 c.f7 i 0 = false := by simpa using h2
  by_cases h3 : (LayF s.f2 s.f4 c.f6).1 = 0
  · rw [if_neg (show ¬ ((LayF s.f2 s.f4 c.f6).1 ≠ 0) from fun q => q h3)]
    by_cases h4 : cE s.f3 = 0
    · rw [if_neg (show ¬ (cE s.f3 ≠ 0) from fun q => q h4)]
      by_cases h5 : (ReaF s.f5 c.f6).1 = 0
      · rw [if_neg (show ¬ ((ReaF s.f5 c.f6).1 ≠ 0) from fun q => q h5)]
        by_cases h6 : ownF c s s.f5 s.f5.length 0 = true
        · rw [if_pos h6]
          exact ⟨fun _ => ⟨h1', h2', h3, h4, h5, h6⟩, fun _ => rfl⟩
        · rw [if_neg h6]
          exact ⟨fun h => by simp at h, fun h => absurd h.2.2.2.2.2 h6⟩
      · rw [if_pos h5]
        exact ⟨fun h => absurd h h5, fun h => absurd h.2.2.2.2.1 h5⟩
    · rw [if_pos h4]
      exact ⟨fun h => absurd h h4, fun h => absurd h.2.2.2.1 h4⟩
  · rw [if_pos h3]
    exact ⟨fun h => absurd h h3, fun h => absurd h.2.2.1 h3⟩
/-- With other numbers. -/
theorem may_num {c d : Clu} (h : May c) (hn : num d = true) (h5 : d.f5 = 31) (h6 : d.f6 = c.f6) (h7 : d.f7 = c.f7) : May d where
  num := hn
  blk := by rw [h6]; exact h.blk
  len := by rw [h7]; exact h.len
  st := fun j hj => by
    have hj' : j < c.f7.length := by rw [← h7]; exact hj
    have e : d.f7[j] = c.f7[j] := by simp only [h7]
    obtain ⟨a1, a2, a3, a4, a5, a6⟩ := stE_0.1 (h.st j hj')
    have hc5 : c.f5 ≤ 31 := by
      have := h.num
      unfold num at this
      simp only [Bool.and_eq_true] at this
      exact ((inn_iff _ _ _).1 this.2.2.2.2.2).2
    rw [Bool.and_eq_true, inn_iff, inn_iff] at a1
    rw [e]
    refine stE_0.2 ⟨?_, by rw [h7]; exact a2, by rw [h6]; exact a3, a4, by rw [h6]; exact a5, by rw [ownF_eq c d h6]; exact a6⟩
    rw [Bool.and_eq_true, inn_iff, inn_iff, h5]
    exact ⟨⟨a1.1.1, by omega⟩, a1.2⟩
/-- Without one. -/
theorem may_less {c d : Clu} (h : May c) (k : Nat) (hk : k < c.f7.length) (h2 : 2 ≤ c.f7.length) (hn : num d = true) (h5 : d.f5 = c.f5) (h6 : d.f6 = c.f6) (h7 : d.f7 = c.f7.take k ++ c.f7.drop (k + 1)) : May d where
  num := hn
  blk := by rw [h6]; exact h.blk
  len := by
    have := (inn_iff _ _ _).1 h.len
    rw [h7, inn_iff]
    have hl : (c.f7.take k ++ c.f7.drop (k + 1)).length = c.f7.length - 1 := by rw [List.length_append, List.length_take, List.length_drop]; omega
    rw [hl]
    omega
  st := fun j hj => by
    have hl : (c.f7.take k ++ c.f7.drop (k + 1)).length = c.f7.length - 1 := by rw [List.length_append, List.length_take, List.length_drop]; omega
    have old : ∀ (q : Nat) (hq : q < d.f7.length), ∃ (p : Nat) (hp : p < c.f7.length), d.f7[q] = c.f7[p] ∧ (p = q ∨ p = q + 1) ∧ (q < k → p = q) ∧ (k ≤ q → p = q + 1) := fun q hq => by
      have hq' : q < (c.f7.take k ++ c.f7.drop (k + 1)).length := by rw [← h7]; exact hq
      have e : d.f7[q] = (c.f7.take k ++ c.f7.drop (k + 1))[q] := by simp only [h7]
      by_cases z : q < k
      · refine ⟨q, by omega, ?_, Or.inl rfl, fun _ => rfl, fun _ => by omega⟩
        rw [e, List.getElem_append_left (by rw [List.length_take]; omega), List.getElem_take]
      · refine ⟨q + 1, by omega, ?_, Or.inr rfl, fun _ => by omega, fun _ => rfl⟩
        rw [e, List.getElem_append_right (by rw [List.length_take]; omega), List.getElem_drop]
        congr 1
        rw [List.length_take]
        omega
    obtain ⟨p, hp, e, hpq, hp1, hp2⟩ := old j hj
    obtain ⟨a1, a2, a3, a4, a5, a6⟩ := stE_0.1 (h.st p hp)
    rw [e]
    refine stE_0.2 ⟨by rw [h5]; exact a1, ?_, by rw [h6]; exact a3, a4, by rw [h6]; exact a5, by rw [ownF_eq c d h6]; exact a6⟩
    cases hd : dupI (fun y : Sta => y.f0) c.f7[p].f0 d.f7 j 0
    · rfl
    · obtain ⟨q, hq, q1, q2, q3⟩ := (dupI_iff _ _ _ _ _).1 hd
      obtain ⟨r, hr, er, _, hr1, hr2⟩ := old q hq
      have hrp : r < p := by
        by_cases z1 : q < k
        · have := hr1 z1
          omega
        · have := hr2 (by omega)
          have := hp2 (by omega)
          omega
      have : dupI (fun y : Sta => y.f0) c.f7[p].f0 c.f7 p 0 = true := (dupI_iff _ _ _ _ _).2 ⟨r, hr, by omega, by omega, by rw [← er]; exact q3⟩
      rw [a2] at this
      cases this
theorem chunk_drop {α : Type} (f : α → List AV) (w : Nat) (hw : ∀ x, (f x).length = w) : ∀ (L : List α) (m : Nat), (L.flatMap f).drop (m * w) = (L.drop m).flatMap f
  | [], m => by simp
  | x :: L, 0 => by simp
  | x :: L, m + 1 => by
    rw [List.flatMap_cons, List.drop_succ_cons, List.drop_append, show (m + 1) * w - (f x).length = m * w by rw [hw, Nat.add_mul]; omega, chunk_drop f w hw L m, List.drop_of_length_le (show (f x).length ≤ (m + 1) * w by rw [hw, Nat.add_mul]; omega), List.nil_append]
theorem sta_atom (L : List Sta) : (L.flatMap S37.av).all atom = true := by
  induction L with
  | nil => rfl
  | cons x L ih => rw [List.flatMap_cons, List.all_append, ih]; rfl
theorem sta_flat (L : List Sta) : (L.flatMap S37.av).all flat0 = true := by
  induction L with
  | nil => rfl
  | cons x L ih => rw [List.flatMap_cons, List.all_append, ih]; rfl
end Go.Proofs.Ytcfokbhmchcgbaa.Cfg

/- Small. -/
namespace Go.Proofs.Ytcfokbhmchcgbaa.Cfg
open Go Go.Proofs.Ytcfokbhmchcgbaa.Sym Go.Proofs.Ytcfokbhmchcgbaa.Tab Go.Proofs.Ytcfokbhmchcgbaa.Args
set_option linter.unusedVariables false
set_option linter.unusedSimpArgs false
set_option maxHeartbeats 4000000
set_option maxRecDepth 20000
/-- No more than that of each. -/
def fits (y : Sta) : Prop := y.f3.length ≤ 210 ∧ y.f4.length ≤ 40 ∧ y.f5.length ≤ 40
instance (y : Sta) : Decidable (fits y) := by unfold fits; infer_instance
def smst (c : Clu) (i : Nat) : St := ⟨[(16, .shr c.f7.length false (c.f7.flatMap S37.av)), (17, .v (.int .i64 c.f7.length)), (18, .v (.int .i64 i))], [], 1, []⟩
noncomputable abbrev smfin (C : CT) (lf : Nat) (s : St) (N : Nat) : Option Res := FnR [.t 2] false false (Lh C lf (some s) [16, 17, 18] l_fuglemanlaw20_Small_0 N [.b 0, .c l_fuglemanlaw20_Small_1])
theorem small_one (C : CT) (lf : Nat) (c : Clu) (hL : c.f7.length ≤ 250) (i : Nat) (hi : i < c.f7.length) (N : Nat) : smfin C lf (smst c i) (N + 1) = if fits c.f7[i] then smfin C lf (smst c (i + 1)) N else some ⟨.v (.bool false), [], 1⟩ := by
  have c1 : (i : Int) < c.f7.length := by omega
  have c0 : (0 : Int) ≤ i := by omega
  have w1 : IntKind.i64.wrap ((i : Int) + 1) = i + 1 := w64 (by omega) (by omega)
  have h5 := chunk S37.av 6 sta_len c.f7 i hi
  have l5 : i * 6 + 6 ≤ c.f7.length * 6 := by omega
  have hl := chunk_len S37.av 6 sta_len c.f7
  unfold smfin smst
  rw [lh_as l_fuglemanlaw20_Small_0.eq_1]
  generalize c.f7[i] = y at *
  generalize c.f7.flatMap S37.av = cs at *
  generalize c.f7.length = n at *
  by_cases d1 : (210 : Int) < y.f3.length
  · rw [if_neg (fun h => by have := h.1; omega)]
    simp -implicitDefEqProofs only [eqs, eqd, eqe, ↓reduceIte, reduceCtorEq, Nat.reduceEqDiff, Nat.reduceAdd, Nat.reduceSub, Nat.reduceMul, Nat.reduceLT, Nat.reduceLeDiff, Nat.reduceBEq, Nat.reduceBNe, Nat.reduceGT, Int.reduceEq, Int.reduceLT, Int.reduceLE, Int.reduceToNat, Int.reduceAdd, Int.reduceSub, Int.reduceMul, Int.reduceNeg, Int.reduceBEq, Int.reduceBNe, nx_nil, S37.av, c0, c1, w1, h5, l5, hl, d1, Int.toNat_natCast, Int.natCast_add]
  by_cases d2 : (40 : Int) < y.f4.length
  · rw [if_neg (fun h => by have := h.2.1; omega)]
    simp -implicitDefEqProofs only [eqs, eqd, eqe, ↓reduceIte, reduceCtorEq, Nat.reduceEqDiff, Nat.reduceAdd, Nat.reduceSub, Nat.reduceMul, Nat.reduceLT, Nat.reduceLeDiff, Nat.reduceBEq, Nat.reduceBNe, Nat.reduceGT, Int.reduceEq, Int.reduceLT, Int.reduceLE, Int.reduceToNat, Int.reduceAdd, Int.reduceSub, Int.reduceMul, Int.reduceNeg, Int.reduceBEq, Int.reduceBNe, nx_nil, S37.av, c0, c1, w1, h5, l5, hl, d1, d2, Int.toNat_natCast, Int.natCast_add]
  by_cases d3 : (40 : Int) < y.f5.length
  · rw [if_neg (fun h => by have := h.2.2; omega)]
    simp -implicitDefEqProofs only [eqs, eqd, eqe, ↓reduceIte, reduceCtorEq, Nat.reduceEqDiff, Nat.reduceAdd, Nat.reduceSub, Nat.reduceMul, Nat.reduceLT, Nat.reduceLeDiff, Nat.reduceBEq, Nat.reduceBNe, Nat.reduceGT, Int.reduceEq, Int.reduceLT, Int.reduceLE, Int.reduceToNat, Int.reduceAdd, Int.reduceSub, Int.reduceMul, Int.reduceNeg, Int.reduceBEq, Int.reduceBNe, nx_nil, S37.av, c0, c1, w1, h5, l5, hl, d1, d2, d3, Int.toNat_natCast, Int.natCast_add]
  rw [if_pos ⟨by omega, by omega, by omega⟩]
  simp -implicitDefEqProofs only [eqs, eqd, eqe, ↓reduceIte, reduceCtorEq, Nat.reduceEqDiff, Nat.reduceAdd, Nat.reduceSub, Nat.reduceMul, Nat.reduceLT, Nat.reduceLeDiff, Nat.reduceBEq, Nat.reduceBNe, Nat.reduceGT, Int.reduceEq, Int.reduceLT, Int.reduceLE, Int.reduceToNat, Int.reduceAdd, Int.reduceSub, Int.reduceMul, Int.reduceNeg, Int.reduceBEq, Int.reduceBNe, nx_nil, S37.av, c0, c1, w1, h5, l5, hl, d1, d2, d3, Int.toNat_natCast, Int.natCast_add]
theorem small_end (C : CT) (lf : Nat) (c : Clu) (N : Nat) : smfin C lf (smst c c.f7.length) N = some ⟨.v (.bool true), [], 1⟩ := by
  have c1 : ¬ (c.f7.length : Int) < c.f7.length := by omega
  unfold smfin smst
  rw [lh_as l_fuglemanlaw20_Small_0.eq_1]
  generalize c.f7.flatMap S37.av = cs at *
  simp -implicitDefEqProofs only [eqs, eqd, eqe, ↓reduceIte, reduceCtorEq, Nat.reduceEqDiff, Nat.reduceAdd, Nat.reduceSub, Nat.reduceMul, Nat.reduceLT, Nat.reduceLeDiff, Nat.reduceBEq, Nat.reduceBNe, Nat.reduceGT, Int.reduceEq, Int.reduceLT, Int.reduceLE, Int.reduceToNat, Int.reduceAdd, Int.reduceSub, Int.reduceMul, Int.reduceNeg, Int.reduceBEq, Int.reduceBNe, nx_nil, l_fuglemanlaw20_Small_1, c1]
theorem small_run (C : CT) (lf : Nat) (c : Clu) (hL : c.f7.length ≤ 250) : ∀ (m i N : Nat), i + m = c.f7.length → m ≤ N → smfin C lf (smst c i) N = some ⟨.v (.bool false), [], 1⟩ ∨ (smfin C lf (smst c i) N = some ⟨.v (.bool true), [], 1⟩ ∧ ∀ (j : Nat) (h : j < c.f7.length), i ≤ j → fits c.f7[j])
  | 0, i, N, hi, hN => by
    obtain rfl : i = c.f7.length := by omega
    exact Or.inr ⟨small_end C lf c N, fun j h hj => by omega⟩
  | m + 1, i, N, hi, hN => by
    obtain ⟨N, rfl⟩ : ∃ M, N = M + 1 := ⟨N - 1, by omega⟩
    have h : i < c.f7.length := by omega
    rw [small_one C lf c hL i h N]
    by_cases e : fits c.f7[i]
    · rw [if_pos e]
      rcases small_run C lf c hL m (i + 1) N (by omega) (by omega) with q | ⟨q1, q2⟩
      · exact Or.inl q
      · refine Or.inr ⟨q1, fun j hj hij => ?_⟩
        by_cases z : j = i
        · subst z; exact e
        · exact q2 j hj (by omega)
    · rw [if_neg e]
      exact Or.inl rfl
theorem small_a (k : Nat) (hk : 250 ≤ k) (c : Clu) : acall T (k + 1) 7 0 [.agg c.av] [] = some ⟨.v (.bool false), [], 1⟩ ∨ (acall T (k + 1) 7 0 [.agg c.av] [] = some ⟨.v (.bool true), [], 1⟩ ∧ c.f7.length ≤ 40 ∧ c.f6.length ≤ 40 ∧ ∀ (j : Nat) (h : j < c.f7.length), fits c.f7[j]) := by
  by_cases d1 : (40 : Int) < c.f7.length
  · refine Or.inl ?_
    rw [acall_go (body := b_fuglemanlaw20_Small) rfl rfl (Nat.zero_le _)]
    simp -implicitDefEqProofs only [eqs, eqd, eqe, lh_some, ↓reduceIte, reduceCtorEq, Nat.reduceEqDiff, Nat.reduceAdd, Nat.reduceSub, Nat.reduceMul, Nat.reduceLT, Nat.reduceLeDiff, Nat.reduceBEq, Nat.reduceBNe, Nat.reduceGT, Int.reduceEq, Int.reduceLT, Int.reduceLE, Int.reduceToNat, Int.reduceAdd, Int.reduceSub, Int.reduceMul, Int.reduceNeg, Int.reduceBEq, Int.reduceBNe, b_fuglemanlaw20_Small, S25.av, d1]
  by_cases d2 : (40 : Int) < c.f6.length
  · refine Or.inl ?_
    rw [acall_go (body := b_fuglemanlaw20_Small) rfl rfl (Nat.zero_le _)]
    simp -implicitDefEqProofs only [eqs, eqd, eqe, lh_some, ↓reduceIte, reduceCtorEq, Nat.reduceEqDiff, Nat.reduceAdd, Nat.reduceSub, Nat.reduceMul, Nat.reduceLT, Nat.reduceLeDiff, Nat.reduceBEq, Nat.reduceBNe, Nat.reduceGT, Int.reduceEq, Int.reduceLT, Int.reduceLE, Int.reduceToNat, Int.reduceAdd, Int.reduceSub, Int.reduceMul, Int.reduceNeg, Int.reduceBEq, Int.reduceBNe, b_fuglemanlaw20_Small, S25.av, d1, d2]
  obtain ⟨m, rfl⟩ : ∃ m, k = m + 1 := ⟨k - 1, by omega⟩
  have lp : ∀ (ks : List It) (s : St), Lp (acall T (m + 1)) (m + 1) [16, 17, 18] l_fuglemanlaw20_Small_0 (m + 1) ks s = Lh (acall T (m + 1)) (m + 1) (canon [16, 17, 18] s) [16, 17, 18] l_fuglemanlaw20_Small_0 m ks := fun ks s => lp_succ (n := m)
  have e : acall T (m + 1 + 1) 7 0 [.agg c.av] [] = smfin (acall T (m + 1)) (m + 1) (smst c 0) m := by
    rw [acall_go (body := b_fuglemanlaw20_Small) rfl rfl (Nat.zero_le _)]
    unfold smfin smst
    simp -implicitDefEqProofs only [eqs, eqd, eqe, ↓reduceIte, reduceCtorEq, Nat.reduceEqDiff, Nat.reduceAdd, Nat.reduceSub, Nat.reduceMul, Nat.reduceLT, Nat.reduceLeDiff, Nat.reduceBEq, Nat.reduceBNe, Nat.reduceGT, Int.reduceEq, Int.reduceLT, Int.reduceLE, Int.reduceToNat, Int.reduceAdd, Int.reduceSub, Int.reduceMul, Int.reduceNeg, Int.reduceBEq, Int.reduceBNe, b_fuglemanlaw20_Small, S25.av, d1, d2, lp, Int.natCast_zero]
  rw [e]
  rcases small_run (acall T (m + 1)) (m + 1) c (by omega) c.f7.length 0 m (by omega) (by omega) with q | ⟨q1, q2⟩
  · exact Or.inl q
  · exact Or.inr ⟨q1, by omega, by omega, fun j hj => q2 j hj (Nat.zero_le _)⟩
end Go.Proofs.Ytcfokbhmchcgbaa.Cfg

/- awake answers true. -/
namespace Go.Proofs.Ytcfokbhmchcgbaa.CAwk
open Go Go.Proofs.Ytcfokbhmchcgbaa.Sym Go.Proofs.Ytcfokbhmchcgbaa.Tab
theorem awake_a : acall T 299 6 0 [] [] = some ⟨.v (.bool true), [], 1⟩ := by kernel_rfl
end Go.Proofs.Ytcfokbhmchcgbaa.CAwk

/- The law ConfigParts. -/
namespace Go.Proofs.Ytcfokbhmchcgbaa.Said
open Go Go.Proofs.Ytcfokbhmchcgbaa.Sym Go.Proofs.Ytcfokbhmchcgbaa.Tab Go.Proofs.Ytcfokbhmchcgbaa.Args Go.Proofs.Ytcfokbhmchcgbaa.Cfg Go.Proofs.Ytcfokbhmchcgbaa.CAwk
set_option linter.unusedVariables false
set_option linter.unusedSimpArgs false
set_option maxHeartbeats 4000000
set_option maxRecDepth 20000
/-- The end: without one of the stations. -/
theorem cp_end (c : Clu) (v0 v1 v2 v3 v4 a1 a2 : Int) (b1 : 0 ≤ a1 ∧ a1 ≤ 255) (b2 : 0 ≤ a2 ∧ a2 ≤ 255) (hn : 2 ≤ c.f7.length) (hn2 : c.f7.length ≤ 40)
    (e0 : 4 + a2.tmod 47 = v0) (e1 : 1 + a2 = v1) (e2 : 1 + a2.tmod 50 = v2) (e3 : a2.tmod 4 = v3)
    (K : Nat) (hK : a1.tmod c.f7.length = K) (hKn : K < c.f7.length)
    (h1 : acall T 299 7 0 [.agg c.av] [] = some ⟨.v (.bool true), [], 1⟩)
    (h2 : acall T 299 8 0 [.agg c.av] [] = some ⟨rE (0, 0), [], 1⟩)
    (h3 : acall T 299 8 0 [.agg (S25.av ⟨v0, v1, v2, v3, v1, 31, c.f6, c.f7⟩)] [] = some ⟨rE (0, 0), [], 1⟩)
    (h4 : acall T 299 8 0 [.agg (S25.av ⟨v0, v1, v2, v3, v1, 31, c.f6, c.f7.take K ++ c.f7.drop (K + 1)⟩)] [] = some ⟨rE (0, 0), [], 1⟩) :
    acall T 300 4 0 [.agg c.av, .v (.int .u8 a1), .v (.int .u8 a2)] [] = some ⟨.v (.bool true), [], 1⟩ := by
  have t1 := Int.tmod_nonneg 47 b2.1
  have t2 := Int.tmod_lt_of_pos a2 (show (0 : Int) < 47 by decide)
  have t3 := Int.tmod_nonneg 50 b2.1
  have t4 := Int.tmod_lt_of_pos a2 (show (0 : Int) < 50 by decide)
  have w0 : IntKind.i64.wrap a2 = a2 := w64 (by omega) (by omega)
  have w1 : IntKind.i64.wrap (4 + a2.tmod 47) = v0 := by rw [← e0]; exact w64 (by omega) (by omega)
  have w2 : IntKind.i64.wrap (1 + a2) = v1 := by rw [← e1]; exact w64 (by omega) (by omega)
  have w3 : IntKind.i64.wrap (1 + a2.tmod 50) = v2 := by rw [← e2]; exact w64 (by omega) (by omega)
  have w4 : IntKind.i64.wrap a1 = a1 := w64 (by omega) (by omega)
  have w5 : IntKind.i64.wrap ((K : Int) + 1) = ((K + 1 : Nat) : Int) := by rw [w64 (by omega) (by omega)]; omega
  have c1 : ¬ (c.f7.length : Int) < 2 := by omega
  have c2 : ¬ (c.f7.length : Int) = 0 := by omega
  have k0 : (0 : Int) ≤ (K : Int) := by omega
  have k1 : (0 : Int) ≤ ((K + 1 : Nat) : Int) := by omega
  have s1 : K ≤ c.f7.length := by omega
  have s2 : K + 1 ≤ c.f7.length := by omega
  have hA := chunk_take S37.av 6 sta_len c.f7 K
  have hB := chunk_drop S37.av 6 sta_len c.f7 (K + 1)
  have lA : (c.f7.take K).length = K := by rw [List.length_take]; omega
  have lB : (c.f7.drop (K + 1)).length = c.f7.length - (K + 1) := by rw [List.length_drop]
  have gA := chunk_len S37.av 6 sta_len (c.f7.take K)
  have gB := chunk_len S37.av 6 sta_len (c.f7.drop (K + 1))
  rw [lA] at gA
  rw [lB] at gB
  have aA := sta_atom (c.f7.take K)
  have aB := sta_atom (c.f7.drop (K + 1))
  have fA := sta_flat (c.f7.take K)
  have fB := sta_flat (c.f7.drop (K + 1))
  have hBt : ((c.f7.drop (K + 1)).flatMap S37.av).take ((c.f7.length - (K + 1)) * 6) = (c.f7.drop (K + 1)).flatMap S37.av := by rw [← gB, List.take_length]
  have hAt : ((c.f7.take K).flatMap S37.av).take (K * 6) = (c.f7.take K).flatMap S37.av := by rw [← gA, List.take_length]
  unfold rE at h2 h3 h4
  simp only [S25.av, List.flatMap_append, List.length_append, lA, lB] at h1 h2 h3 h4 ⊢
  clear lA lB e0 e1 e2 t1 t2 t3 t4 b1 b2
  have hM : K + (c.f7.length - (K + 1)) + 1 = c.f7.length := by omega
  generalize (c.f7.take K).flatMap S37.av = ca at *
  generalize (c.f7.drop (K + 1)).flatMap S37.av = cb at *
  generalize hMM : c.f7.length - (K + 1) = M at *
  generalize c.f7.flatMap S37.av = cs at *
  generalize c.f7.length = n at *
  generalize hK1 : K + 1 = K1 at *
  rw [acall_go (body := b_fuglemanlaw20_ConfigParts) rfl rfl (Nat.zero_le _)]
  have m1 : M * 96 ≤ 140737488355328 := by omega
  have m2 : M ≤ 9223372036854775807 := by omega
  have m3 : K * 96 ≤ 140737488355328 := by omega
  have m4 : K ≤ 9223372036854775807 := by omega
  have m5 : (K + M) * 96 ≤ 140737488355328 := by omega
  have m6 : K + M ≤ 9223372036854775807 := by omega
  by_cases zK : K = 0
  · subst zK
    have zM : ¬ M = 0 := by omega
    have zM2 : ¬ M ≤ 0 := by omega
    obtain rfl : ca = [] := List.length_eq_zero_iff.1 (by omega)
    obtain rfl : K1 = 1 := by omega
    simp only [Nat.one_mul] at hB
    simp only [Nat.zero_add, List.nil_append] at h4
    simp only [Nat.zero_mul, List.take_zero, Int.natCast_zero] at hK hA w5
    simp -implicitDefEqProofs only [eqs, eqd, eqe, lh_some, ↓reduceIte, reduceCtorEq, Nat.reduceEqDiff, Nat.reduceAdd, Nat.reduceSub, Nat.reduceMul, Nat.reduceLT, Nat.reduceLeDiff, Nat.reduceBEq, Nat.reduceBNe, Nat.reduceGT, Int.reduceEq, Int.reduceLT, Int.reduceLE, Int.reduceToNat, Int.reduceAdd, Int.reduceSub, Int.reduceMul, Int.reduceNeg, Int.reduceBEq, Int.reduceBNe, b_fuglemanlaw20_ConfigParts, awake_a, S25.av, h1, h2, h3, h4, w0, w1, w2, w3, w4, w5, e3, hK, c1, c2, k0, k1, s1, s2, hA, hB, gA, gB, aA, aB, fA, fB, hAt, hBt, hMM, Int.toNat_natCast, Nat.reduceMod, Nat.reduceDiv, zM, zM2, m1, m2]
  · have zK2 : ¬ K ≤ 0 := by omega
    by_cases zM : M = 0
    · subst zM
      obtain rfl : cb = [] := List.length_eq_zero_iff.1 (by omega)
      simp only [Nat.add_zero, List.append_nil] at h4
      simp -implicitDefEqProofs only [eqs, eqd, eqe, lh_some, ↓reduceIte, reduceCtorEq, Nat.reduceEqDiff, Nat.reduceAdd, Nat.reduceSub, Nat.reduceMul, Nat.reduceLT, Nat.reduceLeDiff, Nat.reduceBEq, Nat.reduceBNe, Nat.reduceGT, Int.reduceEq, Int.reduceLT, Int.reduceLE, Int.reduceToNat, Int.reduceAdd, Int.reduceSub, Int.reduceMul, Int.reduceNeg, Int.reduceBEq, Int.reduceBNe, b_fuglemanlaw20_ConfigParts, awake_a, S25.av, h1, h2, h3, h4, w0, w1, w2, w3, w4, w5, e3, hK, c1, c2, k0, k1, s1, s2, hA, hB, gA, gB, aA, aB, fA, fB, hAt, hBt, hMM, Int.toNat_natCast, Nat.reduceMod, Nat.reduceDiv, zK, zK2, m3, m4]
    · have zM2 : ¬ M ≤ 0 := by omega
      have m7 : ¬ (K + M) * 6 ≤ K * 6 := by omega
      have gAB : (ca ++ cb).length = (K + M) * 6 := by rw [List.length_append]; omega
      have hABt : (ca ++ cb).take ((K + M) * 6) = ca ++ cb := by rw [← gAB, List.take_length]
      simp -implicitDefEqProofs only [eqs, eqd, eqe, lh_some, ↓reduceIte, reduceCtorEq, Nat.reduceEqDiff, Nat.reduceAdd, Nat.reduceSub, Nat.reduceMul, Nat.reduceLT, Nat.reduceLeDiff, Nat.reduceBEq, Nat.reduceBNe, Nat.reduceGT, Int.reduceEq, Int.reduceLT, Int.reduceLE, Int.reduceToNat, Int.reduceAdd, Int.reduceSub, Int.reduceMul, Int.reduceNeg, Int.reduceBEq, Int.reduceBNe, b_fuglemanlaw20_ConfigParts, awake_a, S25.av, h1, h2, h3, h4, w0, w1, w2, w3, w4, w5, e3, hK, c1, c2, k0, k1, s1, s2, hA, hB, gA, gB, aA, aB, fA, fB, hAt, hBt, hMM, Int.toNat_natCast, Nat.reduceMod, Nat.reduceDiv, zK, zK2, zM, zM2, m3, m4, m5, m6, m7, gAB, hABt]
theorem ConfigParts : ∀ (a0 : S25) (a1 : Int) (a2 : Int), S25.In a0 → (0 ≤ a1 ∧ a1 ≤ 255) → (0 ≤ a2 ∧ a2 ≤ 255) → ∃ ob d, acall T 300 4 0 [.agg a0.av, .v (.int .u8 a1), .v (.int .u8 a2)] [] = some ⟨.v (.bool true), ob, d⟩ := fun c a1 a2 hc b1 b2 => by
  refine ⟨[], 1, ?_⟩
  rcases small_a 298 (by omega) c with h1 | ⟨h1, hL, hB, hf⟩
  · rw [acall_go (body := b_fuglemanlaw20_ConfigParts) rfl rfl (Nat.zero_le _)]
    simp only [S25.av] at h1
    simp -implicitDefEqProofs only [eqs, eqd, eqe, lh_some, ↓reduceIte, reduceCtorEq, Nat.reduceEqDiff, Nat.reduceAdd, Nat.reduceSub, Nat.reduceMul, Nat.reduceLT, Nat.reduceLeDiff, Nat.reduceBEq, Nat.reduceBNe, Nat.reduceGT, Int.reduceEq, Int.reduceLT, Int.reduceLE, Int.reduceToNat, Int.reduceAdd, Int.reduceSub, Int.reduceMul, Int.reduceNeg, Int.reduceBEq, Int.reduceBNe, b_fuglemanlaw20_ConfigParts, awake_a, S25.av, h1]
  have hs : Sml c := ⟨by omega, by omega, fun j h => by have := (hf j h).2.1; omega, fun j h => by have := (hf j h).2.2; omega, fun j h i0 x0 hx => (hc.f7.2 j _ (List.getElem?_eq_getElem h)).f3.2 i0 x0 hx⟩
  have h2 := Check_a 279 (by omega) c hs
  by_cases he : (ckF c).1 = 0
  · have hm := ckF_may he
    rw [may_ckF hm] at h2
    have t1 := Int.tmod_nonneg 47 b2.1
    have t2 := Int.tmod_lt_of_pos a2 (show (0 : Int) < 47 by decide)
    have t3 := Int.tmod_nonneg 50 b2.1
    have t4 := Int.tmod_lt_of_pos a2 (show (0 : Int) < 50 by decide)
    have t5 := Int.tmod_nonneg 4 b2.1
    have t6 := Int.tmod_lt_of_pos a2 (show (0 : Int) < 4 by decide)
    have hnum : ∀ S, num ⟨4 + a2.tmod 47, 1 + a2, 1 + a2.tmod 50, a2.tmod 4, 1 + a2, 31, c.f6, S⟩ = true := fun S => by
      unfold num
      simp only [Bool.and_eq_true, inn_iff]
      omega
    have hmd : May ⟨4 + a2.tmod 47, 1 + a2, 1 + a2.tmod 50, a2.tmod 4, 1 + a2, 31, c.f6, c.f7⟩ := may_num hm (hnum _) rfl rfl rfl
    have hsd : Sml ⟨4 + a2.tmod 47, 1 + a2, 1 + a2.tmod 50, a2.tmod 4, 1 + a2, 31, c.f6, c.f7⟩ := ⟨hs.st, hs.bl, hs.sub, hs.pub, hs.cod⟩
    have h3 := Check_a 279 (by omega) _ hsd
    rw [may_ckF hmd] at h3
    by_cases hn : 2 ≤ c.f7.length
    · have hkn := Int.tmod_lt_of_pos a1 (show (0 : Int) < c.f7.length by omega)
      have hk0 := Int.tmod_nonneg (c.f7.length : Int) b1.1
      obtain ⟨K, hK⟩ : ∃ K : Nat, a1.tmod c.f7.length = K := ⟨(a1.tmod c.f7.length).toNat, by omega⟩
      have hKn : K < c.f7.length := by omega
      have hme : May ⟨4 + a2.tmod 47, 1 + a2, 1 + a2.tmod 50, a2.tmod 4, 1 + a2, 31, c.f6, c.f7.take K ++ c.f7.drop (K + 1)⟩ := may_less hmd K hKn hn (hnum _) rfl rfl rfl
      have hmem : ∀ (j : Nat) (h : j < (c.f7.take K ++ c.f7.drop (K + 1)).length), ∃ (p : Nat) (hp : p < c.f7.length), (c.f7.take K ++ c.f7.drop (K + 1))[j] = c.f7[p] := fun j h => by
        have hx := List.getElem_mem h
        have : (c.f7.take K ++ c.f7.drop (K + 1))[j] ∈ c.f7 := by
          rcases List.mem_append.1 hx with q | q
          · exact List.mem_of_mem_take q
          · exact List.mem_of_mem_drop q
        obtain ⟨p, hp, e⟩ := List.getElem_of_mem this
        exact ⟨p, hp, e.symm⟩
      have hse : Sml ⟨4 + a2.tmod 47, 1 + a2, 1 + a2.tmod 50, a2.tmod 4, 1 + a2, 31, c.f6, c.f7.take K ++ c.f7.drop (K + 1)⟩ := ⟨by
          show (c.f7.take K ++ c.f7.drop (K + 1)).length ≤ 250
          rw [List.length_append, List.length_take, List.length_drop]; omega, hs.bl, fun j h => by
          obtain ⟨p, hp, e⟩ := hmem j h
          show ((c.f7.take K ++ c.f7.drop (K + 1))[j]).f4.length ≤ 250
          rw [e]; exact hs.sub p hp, fun j h => by
          obtain ⟨p, hp, e⟩ := hmem j h
          show ((c.f7.take K ++ c.f7.drop (K + 1))[j]).f5.length ≤ 250
          rw [e]; exact hs.pub p hp, fun j h i0 x0 hx => by
          obtain ⟨p, hp, e⟩ := hmem j h
          have hx' : ((c.f7.take K ++ c.f7.drop (K + 1))[j]).f3[i0]? = some x0 := hx
          rw [e] at hx'
          exact hs.cod p hp i0 x0 hx'⟩
      have h4 := Check_a 279 (by omega) _ hse
      rw [may_ckF hme] at h4
      exact cp_end c _ _ _ _ 0 a1 a2 b1 b2 hn (by omega) rfl rfl rfl rfl K hK hKn h1 h2 h3 h4
    · have c1 : (c.f7.length : Int) < 2 := by omega
      have w0 : IntKind.i64.wrap a2 = a2 := w64 (by omega) (by omega)
      have w1 : IntKind.i64.wrap (4 + a2.tmod 47) = 4 + a2.tmod 47 := w64 (by omega) (by omega)
      have w2 : IntKind.i64.wrap (1 + a2) = 1 + a2 := w64 (by omega) (by omega)
      have w3 : IntKind.i64.wrap (1 + a2.tmod 50) = 1 + a2.tmod 50 := w64 (by omega) (by omega)
      rw [acall_go (body := b_fuglemanlaw20_ConfigParts) rfl rfl (Nat.zero_le _)]
      unfold rE at h2 h3
      simp only [S25.av] at h1 h2 h3
      simp -implicitDefEqProofs only [eqs, eqd, eqe, lh_some, ↓reduceIte, reduceCtorEq, Nat.reduceEqDiff, Nat.reduceAdd, Nat.reduceSub, Nat.reduceMul, Nat.reduceLT, Nat.reduceLeDiff, Nat.reduceBEq, Nat.reduceBNe, Nat.reduceGT, Int.reduceEq, Int.reduceLT, Int.reduceLE, Int.reduceToNat, Int.reduceAdd, Int.reduceSub, Int.reduceMul, Int.reduceNeg, Int.reduceBEq, Int.reduceBNe, b_fuglemanlaw20_ConfigParts, awake_a, S25.av, h1, h2, h3, w0, w1, w2, w3, c1]
  · have he' : ((ckF c).1 != 0) = true := by simpa using he
    rw [acall_go (body := b_fuglemanlaw20_ConfigParts) rfl rfl (Nat.zero_le _)]
    unfold rE at h2
    generalize ckF c = r at *
    simp only [S25.av] at h1 h2
    simp -implicitDefEqProofs only [eqs, eqd, eqe, lh_some, ↓reduceIte, reduceCtorEq, Nat.reduceEqDiff, Nat.reduceAdd, Nat.reduceSub, Nat.reduceMul, Nat.reduceLT, Nat.reduceLeDiff, Nat.reduceBEq, Nat.reduceBNe, Nat.reduceGT, Int.reduceEq, Int.reduceLT, Int.reduceLE, Int.reduceToNat, Int.reduceAdd, Int.reduceSub, Int.reduceMul, Int.reduceNeg, Int.reduceBEq, Int.reduceBNe, b_fuglemanlaw20_ConfigParts, awake_a, S25.av, h1, h2, he']
end Go.Proofs.Ytcfokbhmchcgbaa.Said
