/- The document's Addrs and Readers. -/
import Derived.Test.YtcfokbhmchcgbaaMg798550ed
import Derived.Test.YtcfokbhmchcgbaaMg8f1a7b4c
namespace Go.Proofs.Ytcfokbhmchcgbaa.Cfg
open Go Go.Proofs.Ytcfokbhmchcgbaa.Sym Go.Proofs.Ytcfokbhmchcgbaa.Tab Go.Proofs.Ytcfokbhmchcgbaa.Args
set_option linter.unusedVariables false
set_option linter.unusedSimpArgs false
set_option maxHeartbeats 4000000
set_option maxRecDepth 20000
theorem rwith_i (k : Nat) (hk : 40 ≤ k) (o : Int) (h : 0 ≤ o ∧ o < 4294967296) (a : Int) : acall T (k + 3) 29 0 [.v (.int .u32 o), .v (.int .i64 a)] [] = some ⟨.v (.int .u32 (orS o a)), [], 0⟩ := by
  obtain ⟨s, rfl⟩ : ∃ s : Nat, o = s := ⟨o.toNat, by omega⟩
  exact rwith_a k hk s (by omega) a
def rast (c : Clu) (i : Nat) (o : Int) : St := ⟨[(1, .ptr 0 0), (3, .v (.int .u32 o)), (4, .v (.int .i64 i))], [⟨true, true, true, c.av⟩], 1, []⟩
noncomputable abbrev rafin (C : CT) (lf : Nat) (s : St) (N : Nat) : Option Res := FnR [.t 2] false false (Lh C lf (some s) [1, 3, 4] l_fuglemanref20_Addrs_0 N [.b 0, .c l_fuglemanref20_Addrs_1])
theorem ra_next (k : Nat) (hk : 40 ≤ k) (lf : Nat) (c : Clu) (hL : c.f7.length ≤ 250) (i : Nat) (hi : i < c.f7.length) (o : Int) (ho : 0 ≤ o ∧ o < 4294967296) (N : Nat) (ks : List It) : Lh (acall T (k + 3)) lf (some (rast c i o)) [1, 3, 4] l_fuglemanref20_Addrs_0 (N + 1) ks = Lh (acall T (k + 3)) lf (some (rast c (i + 1) (orS o c.f7[i].f0))) [1, 3, 4] l_fuglemanref20_Addrs_0 N ks := by
  have c1 : (i : Int) < c.f7.length := by omega
  have c0 : (0 : Int) ≤ i := by omega
  have w1 : IntKind.i64.wrap ((i : Int) + 1) = i + 1 := w64 (by omega) (by omega)
  have h0 : (c.f7.flatMap S37.av)[i * 6]? = (c.f7[i].av)[0]? := chunk_at S37.av 6 sta_len c.f7 i hi 0 (by decide)
  have hw := rwith_i k hk o ho c.f7[i].f0
  unfold rast
  rw [lh_as l_fuglemanref20_Addrs_0.eq_1]
  generalize c.f7[i] = y at *
  generalize hcs : c.f7.flatMap S37.av = cs at *
  simp only [S37.av, List.getElem?_cons_zero] at h0
  simp -implicitDefEqProofs only [eqs, eqd, aCall, Sym.reach, Sym.pos, Sym.sub, ↓reduceIte, reduceCtorEq, Nat.reduceEqDiff, Nat.reduceAdd, Nat.reduceSub, Nat.reduceMul, Nat.reduceLT, Nat.reduceLeDiff, Nat.reduceBEq, Nat.reduceBNe, Nat.reduceGT, Int.reduceEq, Int.reduceLT, Int.reduceLE, Int.reduceToNat, Int.reduceAdd, Int.reduceSub, Int.reduceMul, Int.reduceNeg, Int.reduceBEq, Int.reduceBNe, nx_nil, S25.av, hcs, c0, c1, w1, h0, hw, Int.toNat_natCast, Int.natCast_add]
theorem ra_end (C : CT) (lf : Nat) (c : Clu) (o : Int) (N : Nat) : rafin C lf (rast c c.f7.length o) N = some ⟨.v (.int .u32 o), [], 1⟩ := by
  have c1 : ¬ (c.f7.length : Int) < c.f7.length := by omega
  unfold rafin rast
  rw [lh_as l_fuglemanref20_Addrs_0.eq_1]
  simp -implicitDefEqProofs only [eqs, eqd, aCall, Sym.reach, Sym.pos, Sym.sub, ↓reduceIte, reduceCtorEq, Nat.reduceEqDiff, Nat.reduceAdd, Nat.reduceSub, Nat.reduceMul, Nat.reduceLT, Nat.reduceLeDiff, Nat.reduceBEq, Nat.reduceBNe, Nat.reduceGT, Int.reduceEq, Int.reduceLT, Int.reduceLE, Int.reduceToNat, Int.reduceAdd, Int.reduceSub, Int.reduceMul, Int.reduceNeg, Int.reduceBEq, Int.reduceBNe, nx_nil, l_fuglemanref20_Addrs_1, S25.av, c1]
theorem ra_run (k : Nat) (hk : 40 ≤ k) (lf : Nat) (c : Clu) (hL : c.f7.length ≤ 250) : ∀ (m i N : Nat) (o : Int), i + m = c.f7.length → m ≤ N → (0 ≤ o ∧ o < 4294967296) → rafin (acall T (k + 3)) lf (rast c i o) N = some ⟨.v (.int .u32 (setF (fun _ => true) c.f7 m i o)), [], 1⟩
  | 0, i, N, o, hi, hN, ho => by
    obtain rfl : i = c.f7.length := by omega
    exact ra_end _ lf c o N
  | m + 1, i, N, o, hi, hN, ho => by
    obtain ⟨N, rfl⟩ : ∃ M, N = M + 1 := ⟨N - 1, by omega⟩
    have h : i < c.f7.length := by omega
    have := ra_run k hk lf c hL m (i + 1) N (orS o c.f7[i].f0) (by omega) (by omega) (orS_in _ _)
    unfold rafin at this ⊢
    rw [ra_next k hk lf c hL i h o ho N, this, setF, dif_pos h, if_pos rfl]
theorem raddrs_a (k : Nat) (hk : 250 ≤ k) (c : Clu) (hL : c.f7.length ≤ 250) : acall T (k + 4) 14 0 [.agg c.av] [] = some ⟨.v (.int .u32 (setF (fun _ => true) c.f7 c.f7.length 0 0)), [], 1⟩ := by
  have key := ra_run k (by omega) (k + 3) c hL c.f7.length 0 (k + 2) 0 (by omega) (by omega) (by omega)
  rw [acall_go (body := b_fuglemanref20_Addrs) rfl rfl (Nat.zero_le _), ← key]
  clear key
  have lp : ∀ (ks : List It) (s : St), Lp (acall T (k + 3)) (k + 3) [1, 3, 4] l_fuglemanref20_Addrs_0 (k + 3) ks s = Lh (acall T (k + 3)) (k + 3) (canon [1, 3, 4] s) [1, 3, 4] l_fuglemanref20_Addrs_0 (k + 2) ks := fun ks s => lp_succ (n := k + 2)
  unfold rafin rast
  simp -implicitDefEqProofs only [eqs, eqd, aCall, Sym.reach, Sym.pos, Sym.sub, ↓reduceIte, reduceCtorEq, Nat.reduceEqDiff, Nat.reduceAdd, Nat.reduceSub, Nat.reduceMul, Nat.reduceLT, Nat.reduceLeDiff, Nat.reduceBEq, Nat.reduceBNe, Nat.reduceGT, Int.reduceEq, Int.reduceLT, Int.reduceLE, Int.reduceToNat, Int.reduceAdd, Int.reduceSub, Int.reduceMul, Int.reduceNeg, Int.reduceBEq, Int.reduceBNe, b_fuglemanref20_Addrs, S25.av, lp, Int.natCast_zero]
/-! Readers -/
def inF (y : Sta) (x : Int) : Nat → Nat → Int → Int
  | 0, _, o => o
  | m + 1, j, o => if h : j < y.f4.length then inF y x m (j + 1) (if y.f4[j].f0 = x then orS o y.f0 else o) else o
theorem inF_eq (y : Sta) (x : Int) : ∀ (m j : Nat) (o : Int), j + m = y.f4.length → inF y x m j o = if 0 ≤ idx (fun z : Spt => z.f0) x y.f4 m j then orS o y.f0 else o
  | 0, j, o, h => by
    rw [inF, idx, if_neg (by decide)]
  | m + 1, j, o, h => by
    rw [inF, idx, dif_pos (by omega), dif_pos (by omega)]
    by_cases c : y.f4[j].f0 = x
    · rw [if_pos c, if_pos c, if_pos (by omega), inF_eq y x m (j + 1) _ (by omega)]
      split
      · rw [orS_orS]
      · rfl
    · rw [if_neg c, if_neg c]
      exact inF_eq y x m (j + 1) o (by omega)
def rrst (c : Clu) (x : Int) (i : Nat) (o : Int) : St := ⟨[(1, .v (.int .i64 x)), (2, .ptr 0 0), (5, .v (.int .u32 o)), (6, .v (.int .i64 i))], [⟨true, true, true, c.av⟩], 1, []⟩
def rrin (c : Clu) (x : Int) (i : Nat) (o : Int) (j : Nat) : St := ⟨[(1, .v (.int .i64 x)), (2, .ptr 0 0), (5, .v (.int .u32 o)), (6, .v (.int .i64 i)), (7, .v (.int .i64 j))], [⟨true, true, true, c.av⟩], 1, []⟩
theorem rr_one (k : Nat) (hk : 40 ≤ k) (lf : Nat) (c : Clu) (hL : c.f7.length ≤ 250) (x : Int) (i : Nat) (hi : i < c.f7.length) (o : Int) (ho : 0 ≤ o ∧ o < 4294967296) (j : Nat) (hj : j < c.f7[i].f4.length) (hs : c.f7[i].f4.length ≤ 250) (N : Nat) (ks : List It) : Lh (acall T (k + 3)) lf (some (rrin c x i o j)) [1, 2, 5, 6, 7] l_fuglemanref20_Readers_1 (N + 1) ks = Lh (acall T (k + 3)) lf (some (rrin c x i (if c.f7[i].f4[j].f0 = x then orS o c.f7[i].f0 else o) (j + 1))) [1, 2, 5, 6, 7] l_fuglemanref20_Readers_1 N ks := by
  have c1 : (i : Int) < c.f7.length := by omega
  have c0 : (0 : Int) ≤ i := by omega
  have d1 : (j : Int) < c.f7[i].f4.length := by omega
  have d0 : (0 : Int) ≤ j := by omega
  have w1 : IntKind.i64.wrap ((j : Int) + 1) = j + 1 := w64 (by omega) (by omega)
  have h0 : (c.f7.flatMap S37.av)[i * 6]? = (c.f7[i].av)[0]? := chunk_at S37.av 6 sta_len c.f7 i hi 0 (by decide)
  have h4 : (c.f7.flatMap S37.av)[i * 6 + 4]? = (c.f7[i].av)[4]? := chunk_at S37.av 6 sta_len c.f7 i hi 4 (by decide)
  have g0 : (c.f7[i].f4.flatMap S56.av)[j * 2]? = (c.f7[i].f4[j].av)[0]? := chunk_at S56.av 2 spt_len c.f7[i].f4 j hj 0 (by decide)
  have hw := rwith_i k hk o ho c.f7[i].f0
  unfold rrin
  rw [lh_as l_fuglemanref20_Readers_1.eq_1]
  generalize c.f7[i].f4[j] = z at *
  generalize c.f7[i] = y at *
  generalize hcs : c.f7.flatMap S37.av = cs at *
  simp only [S37.av, List.getElem?_cons_zero, List.getElem?_cons_succ] at h0 h4
  generalize y.f4.flatMap S56.av = ss at *
  simp only [S56.av, List.getElem?_cons_zero] at g0
  by_cases e : z.f0 = x
  · have e' : (z.f0 == x) = true := by simpa using e
    rw [if_pos e]
    simp -implicitDefEqProofs only [eqs, eqd, aCall, Sym.reach, Sym.pos, Sym.sub, ↓reduceIte, reduceCtorEq, Nat.reduceEqDiff, Nat.reduceAdd, Nat.reduceSub, Nat.reduceMul, Nat.reduceLT, Nat.reduceLeDiff, Nat.reduceBEq, Nat.reduceBNe, Nat.reduceGT, Int.reduceEq, Int.reduceLT, Int.reduceLE, Int.reduceToNat, Int.reduceAdd, Int.reduceSub, Int.reduceMul, Int.reduceNeg, Int.reduceBEq, Int.reduceBNe, g_fuglemanref20_Readers_0, S25.av, hcs, c0, c1, d0, d1, w1, h0, h4, g0, hw, e', Int.toNat_natCast, Int.natCast_add]
  · have e' : (z.f0 == x) = false := by simpa using e
    rw [if_neg e]
    simp -implicitDefEqProofs only [eqs, eqd, aCall, Sym.reach, Sym.pos, Sym.sub, ↓reduceIte, reduceCtorEq, Nat.reduceEqDiff, Nat.reduceAdd, Nat.reduceSub, Nat.reduceMul, Nat.reduceLT, Nat.reduceLeDiff, Nat.reduceBEq, Nat.reduceBNe, Nat.reduceGT, Int.reduceEq, Int.reduceLT, Int.reduceLE, Int.reduceToNat, Int.reduceAdd, Int.reduceSub, Int.reduceMul, Int.reduceNeg, Int.reduceBEq, Int.reduceBNe, g_fuglemanref20_Readers_0, S25.av, hcs, c0, c1, d0, d1, w1, h0, h4, g0, hw, e', Int.toNat_natCast, Int.natCast_add]
theorem rr_end (C : CT) (lf : Nat) (c : Clu) (hL : c.f7.length ≤ 250) (x : Int) (i : Nat) (hi : i < c.f7.length) (o : Int) (N1 N : Nat) (ks : List It) : Lh C lf (some (rrin c x i o c.f7[i].f4.length)) [1, 2, 5, 6, 7] l_fuglemanref20_Readers_1 N1 (.b 2 :: .b 1 :: .c l_fuglemanref20_Readers_2 :: .l [1, 2, 5, 6] l_fuglemanref20_Readers_0 (N + 1) :: ks) = Lh C lf (some (rrst c x (i + 1) o)) [1, 2, 5, 6] l_fuglemanref20_Readers_0 N ks := by
  have c1 : (i : Int) < c.f7.length := by omega
  have c0 : (0 : Int) ≤ i := by omega
  have d1 : ¬ (c.f7[i].f4.length : Int) < c.f7[i].f4.length := by omega
  have w1 : IntKind.i64.wrap ((i : Int) + 1) = i + 1 := w64 (by omega) (by omega)
  have h4 : (c.f7.flatMap S37.av)[i * 6 + 4]? = (c.f7[i].av)[4]? := chunk_at S37.av 6 sta_len c.f7 i hi 4 (by decide)
  unfold rrin rrst
  rw [lh_as l_fuglemanref20_Readers_1.eq_1]
  generalize c.f7[i] = y at *
  generalize hcs : c.f7.flatMap S37.av = cs at *
  simp only [S37.av, List.getElem?_cons_zero, List.getElem?_cons_succ] at h4
  generalize y.f4.flatMap S56.av = ss at *
  simp -implicitDefEqProofs only [eqs, eqd, aCall, Sym.reach, Sym.pos, Sym.sub, ↓reduceIte, reduceCtorEq, Nat.reduceEqDiff, Nat.reduceAdd, Nat.reduceSub, Nat.reduceMul, Nat.reduceLT, Nat.reduceLeDiff, Nat.reduceBEq, Nat.reduceBNe, Nat.reduceGT, Int.reduceEq, Int.reduceLT, Int.reduceLE, Int.reduceToNat, Int.reduceAdd, Int.reduceSub, Int.reduceMul, Int.reduceNeg, Int.reduceBEq, Int.reduceBNe, g_fuglemanref20_Readers_0, l_fuglemanref20_Readers_2, S25.av, hcs, c0, c1, d1, w1, h4, Int.toNat_natCast, Int.natCast_add]
theorem rr_in (k : Nat) (hk : 40 ≤ k) (lf : Nat) (c : Clu) (hL : c.f7.length ≤ 250) (x : Int) (i : Nat) (hi : i < c.f7.length) (hs : c.f7[i].f4.length ≤ 250) (N : Nat) (ks : List It) : ∀ (m j N1 : Nat) (o : Int), j + m = c.f7[i].f4.length → m ≤ N1 → (0 ≤ o ∧ o < 4294967296) → Lh (acall T (k + 3)) lf (some (rrin c x i o j)) [1, 2, 5, 6, 7] l_fuglemanref20_Readers_1 N1 (.b 2 :: .b 1 :: .c l_fuglemanref20_Readers_2 :: .l [1, 2, 5, 6] l_fuglemanref20_Readers_0 (N + 1) :: ks) = Lh (acall T (k + 3)) lf (some (rrst c x (i + 1) (inF c.f7[i] x m j o))) [1, 2, 5, 6] l_fuglemanref20_Readers_0 N ks
  | 0, j, N1, o, hj, hN, ho => by
    obtain rfl : j = c.f7[i].f4.length := by omega
    exact rr_end _ lf c hL x i hi o N1 N ks
  | m + 1, j, N1, o, hj, hN, ho => by
    obtain ⟨N1, rfl⟩ : ∃ M, N1 = M + 1 := ⟨N1 - 1, by omega⟩
    rw [rr_one k hk lf c hL x i hi o ho j (by omega) hs N1, rr_in k hk lf c hL x i hi hs N ks m (j + 1) N1 _ (by omega) (by omega) (by
      split
      · exact orS_in _ _
      · exact ho), inF, dif_pos (by omega)]
theorem rr_out (C : CT) (m : Nat) (c : Clu) (x : Int) (i : Nat) (hi : i < c.f7.length) (o : Int) (N : Nat) (ks : List It) : Lh C (m + 1) (some (rrst c x i o)) [1, 2, 5, 6] l_fuglemanref20_Readers_0 (N + 1) ks = Lh C (m + 1) (some (rrin c x i o 0)) [1, 2, 5, 6, 7] l_fuglemanref20_Readers_1 m (.b 2 :: .b 1 :: .c l_fuglemanref20_Readers_2 :: .l [1, 2, 5, 6] l_fuglemanref20_Readers_0 (N + 1) :: ks) := by
  have c1 : (i : Int) < c.f7.length := by omega
  unfold rrin rrst
  rw [lh_as l_fuglemanref20_Readers_0.eq_1]
  simp -implicitDefEqProofs only [eqs, eqd, aCall, Sym.reach, Sym.pos, Sym.sub, ↓reduceIte, reduceCtorEq, Nat.reduceEqDiff, Nat.reduceAdd, Nat.reduceSub, Nat.reduceMul, Nat.reduceLT, Nat.reduceLeDiff, Nat.reduceBEq, Nat.reduceBNe, Nat.reduceGT, Int.reduceEq, Int.reduceLT, Int.reduceLE, Int.reduceToNat, Int.reduceAdd, Int.reduceSub, Int.reduceMul, Int.reduceNeg, Int.reduceBEq, Int.reduceBNe, g_fuglemanref20_Readers_0, S25.av, c1, Int.natCast_zero]
noncomputable abbrev rrfin (C : CT) (lf : Nat) (s : St) (N : Nat) : Option Res := FnR [.t 4] false false (Lh C lf (some s) [1, 2, 5, 6] l_fuglemanref20_Readers_0 N [.b 0, .c l_fuglemanref20_Readers_3])
theorem rr_fin (C : CT) (lf : Nat) (c : Clu) (x : Int) (o : Int) (N : Nat) : rrfin C lf (rrst c x c.f7.length o) N = some ⟨.v (.int .u32 o), [], 1⟩ := by
  have c1 : ¬ (c.f7.length : Int) < c.f7.length := by omega
  unfold rrfin rrst
  rw [lh_as l_fuglemanref20_Readers_0.eq_1]
  simp -implicitDefEqProofs only [eqs, eqd, aCall, Sym.reach, Sym.pos, Sym.sub, ↓reduceIte, reduceCtorEq, Nat.reduceEqDiff, Nat.reduceAdd, Nat.reduceSub, Nat.reduceMul, Nat.reduceLT, Nat.reduceLeDiff, Nat.reduceBEq, Nat.reduceBNe, Nat.reduceGT, Int.reduceEq, Int.reduceLT, Int.reduceLE, Int.reduceToNat, Int.reduceAdd, Int.reduceSub, Int.reduceMul, Int.reduceNeg, Int.reduceBEq, Int.reduceBNe, g_fuglemanref20_Readers_0, l_fuglemanref20_Readers_3, S25.av, c1]
theorem setF_in (ask : Sta → Bool) (o a : Int) (b : Bool) (ho : 0 ≤ o ∧ o < 4294967296) : 0 ≤ (if b = true then orS o a else o) ∧ (if b = true then orS o a else o) < 4294967296 := by
  split
  · exact orS_in _ _
  · exact ho
theorem rr_run (k : Nat) (hk : 40 ≤ k) (n : Nat) (hn : 250 ≤ n) (c : Clu) (hL : c.f7.length ≤ 250) (hsm : ∀ (j : Nat) (h : j < c.f7.length), c.f7[j].f4.length ≤ 250) (x : Int) : ∀ (m i N : Nat) (o : Int), i + m = c.f7.length → m ≤ N → (0 ≤ o ∧ o < 4294967296) → rrfin (acall T (k + 3)) (n + 1) (rrst c x i o) N = some ⟨.v (.int .u32 (setF (rdr x) c.f7 m i o)), [], 1⟩
  | 0, i, N, o, hi, hN, ho => by
    obtain rfl : i = c.f7.length := by omega
    exact rr_fin _ _ c x o N
  | m + 1, i, N, o, hi, hN, ho => by
    obtain ⟨N, rfl⟩ : ∃ M, N = M + 1 := ⟨N - 1, by omega⟩
    have h : i < c.f7.length := by omega
    have hy := hsm i h
    have e : inF c.f7[i] x c.f7[i].f4.length 0 o = if rdr x c.f7[i] = true then orS o c.f7[i].f0 else o := by
      rw [inF_eq c.f7[i] x _ 0 o (by omega)]
      unfold rdr
      by_cases q : 0 ≤ idx (fun z : Spt => z.f0) x c.f7[i].f4 c.f7[i].f4.length 0
      · rw [if_pos q, if_pos (by simpa using q)]
      · rw [if_neg q, if_neg (by simpa using q)]
    have := rr_run k hk n hn c hL hsm x m (i + 1) N (if rdr x c.f7[i] = true then orS o c.f7[i].f0 else o) (by omega) (by omega) (setF_in (rdr x) _ _ _ ho)
    unfold rrfin at this ⊢
    rw [rr_out _ n c x i h o N, rr_in k hk (n + 1) c hL x i h hy N _ c.f7[i].f4.length 0 n o (by omega) (by omega) ho, e, this, setF, dif_pos h]
theorem rreaders_a (k : Nat) (hk : 250 ≤ k) (c : Clu) (hL : c.f7.length ≤ 250) (hsm : ∀ (j : Nat) (h : j < c.f7.length), c.f7[j].f4.length ≤ 250) (x : Int) : acall T (k + 4) 16 0 [.agg c.av, .v (.int .i64 x)] [] = some ⟨.v (.int .u32 (setF (rdr x) c.f7 c.f7.length 0 0)), [], 1⟩ := by
  have key : rrfin (acall T (k + 3)) (k + 3) (rrst c x 0 0) (k + 2) = some ⟨.v (.int .u32 (setF (rdr x) c.f7 c.f7.length 0 0)), [], 1⟩ := rr_run k (by omega) (k + 2) (by omega) c hL hsm x c.f7.length 0 (k + 2) 0 (by omega) (by omega) (by omega)
  rw [acall_go (body := b_fuglemanref20_Readers) rfl rfl (Nat.zero_le _), ← key]
  clear key
  have lp : ∀ (ks : List It) (s : St), Lp (acall T (k + 3)) (k + 3) [1, 2, 5, 6] l_fuglemanref20_Readers_0 (k + 3) ks s = Lh (acall T (k + 3)) (k + 3) (canon [1, 2, 5, 6] s) [1, 2, 5, 6] l_fuglemanref20_Readers_0 (k + 2) ks := fun ks s => lp_succ (n := k + 2)
  unfold rrfin rrst
  simp -implicitDefEqProofs only [eqs, eqd, aCall, Sym.reach, Sym.pos, Sym.sub, ↓reduceIte, reduceCtorEq, Nat.reduceEqDiff, Nat.reduceAdd, Nat.reduceSub, Nat.reduceMul, Nat.reduceLT, Nat.reduceLeDiff, Nat.reduceBEq, Nat.reduceBNe, Nat.reduceGT, Int.reduceEq, Int.reduceLT, Int.reduceLE, Int.reduceToNat, Int.reduceAdd, Int.reduceSub, Int.reduceMul, Int.reduceNeg, Int.reduceBEq, Int.reduceBNe, b_fuglemanref20_Readers, g_fuglemanref20_Readers_0, S25.av, lp, Int.natCast_zero]
end Go.Proofs.Ytcfokbhmchcgbaa.Cfg

/- Values, of both. -/
namespace Go.Proofs.Ytcfokbhmchcgbaa.Cfg
open Go Go.Proofs.Ytcfokbhmchcgbaa.Sym Go.Proofs.Ytcfokbhmchcgbaa.Tab Go.Proofs.Ytcfokbhmchcgbaa.Args
set_option linter.unusedVariables false
set_option linter.unusedSimpArgs false
set_option maxHeartbeats 4000000
set_option maxRecDepth 20000
def szB : Option Blk → Int
  | none => 0
  | some b => b.f2
def szO (c : Clu) (z : Spt) : Int := szB (fnd (fun y => y.f0) z.f0 c.f6 c.f6.length 0)
def vl (c : Clu) (P : List Spt) : Nat → Nat → List AV
  | 0, _ => []
  | m + 1, i => if h : i < P.length then .v (.int .i64 (szO c P[i])) :: vl c P m (i + 1) else []
theorem vl_len (c : Clu) (P : List Spt) : ∀ m i, i + m = P.length → (vl c P m i).length = m
  | 0, i, _ => rfl
  | m + 1, i, h => by rw [vl, dif_pos (by omega), List.length_cons, vl_len c P m (i + 1) (by omega)]
theorem vl_at (c : Clu) (P : List Spt) : ∀ m i j, i + m = P.length → (hj : j < m) → ∃ x : Int, (vl c P m i)[j]? = some (.v (.int .i64 x))
  | 0, i, j, h, hj => by omega
  | m + 1, i, 0, h, hj => ⟨_, by rw [vl, dif_pos (by omega)]; rfl⟩
  | m + 1, i, j + 1, h, hj => by
    rw [vl, dif_pos (by omega), List.getElem?_cons_succ]
    exact vl_at c P m (i + 1) j (by omega) (by omega)
theorem szB_a (r : Option Blk) : ∃ a b d, blkO r = [.v (.int .i64 a), .v (.int .i64 b), .v (.int .i64 (szB r)), .v (.bool d)] := by
  cases r with
  | none => exact ⟨_, _, _, rfl⟩
  | some b => exact ⟨_, _, _, rfl⟩
/-! fugleman/config.Values -/
def v0P (c : Clu) (P : List Spt) (i : Nat) : St := ⟨[(2, .ptr 0 0), (5, .v (.slice none 0 0)), (11, .shr P.length false (P.flatMap S56.av)), (12, .v (.int .i64 P.length)), (13, .v (.int .i64 i))], [⟨true, true, true, c.av⟩], 1, []⟩
def v1P (c : Clu) (P : List Spt) (i : Nat) (l : List AV) : St := ⟨[(2, .ptr 0 0), (5, .view 1 0 i 1 none), (11, .shr P.length false (P.flatMap S56.av)), (12, .v (.int .i64 P.length)), (13, .v (.int .i64 i))], [⟨true, true, true, c.av⟩, ⟨true, true, true, l⟩], 1, []⟩
theorem v_oneP (k : Nat) (hk : 250 ≤ k) (lf : Nat) (c : Clu) (P : List Spt) (hB : c.f6.length ≤ 250) (hP : P.length ≤ 250) (i : Nat) (hi : i < P.length) (N : Nat) (ks : List It) :
    (i = 0 → Lh (acall T (k + 4)) lf (some (v0P c P i)) [2, 5, 11, 12, 13] l_config_Values_0 (N + 1) ks = Lh (acall T (k + 4)) lf (some (v1P c P (i + 1) [.v (.int .i64 (szO c P[i]))])) [2, 5, 11, 12, 13] l_config_Values_0 N ks) ∧
    (∀ l : List AV, l.length = i → Lh (acall T (k + 4)) lf (some (v1P c P i l)) [2, 5, 11, 12, 13] l_config_Values_0 (N + 1) ks = Lh (acall T (k + 4)) lf (some (v1P c P (i + 1) (l ++ [.v (.int .i64 (szO c P[i]))]))) [2, 5, 11, 12, 13] l_config_Values_0 N ks) := by
  have c1 : (i : Int) < P.length := by omega
  have c0 : (0 : Int) ≤ i := by omega
  have w1 : IntKind.i64.wrap ((i : Int) + 1) = i + 1 := w64 (by omega) (by omega)
  have h5 := chunk S56.av 2 spt_len P i hi
  have h0 : (P.flatMap S56.av)[i * 2]? = (P[i].av)[0]? := chunk_at S56.av 2 spt_len P i hi 0 (by decide)
  have l5 : i * 2 + 2 ≤ P.length * 2 := by omega
  have hl := chunk_len S56.av 2 spt_len P
  have hf := bfind_a k hk c.f6 hB P[i].f0
  have n2 : ¬ i + 1 ≤ i := by omega
  have n3' : (i + 1) * 8 ≤ 140737488355328 := by omega
  have n4 : i ≤ 9223372036854775806 := by omega
  unfold szO
  obtain ⟨ba, bb, bd, hb⟩ := szB_a (fnd (fun y => y.f0) P[i].f0 c.f6 c.f6.length 0)
  rw [hb] at hf
  generalize (fnd (fun y => y.f0) P[i].f0 c.f6 c.f6.length 0).isSome = bo at *
  generalize szB (fnd (fun y => y.f0) P[i].f0 c.f6 c.f6.length 0) = z at *
  clear hb
  generalize P[i] = y at *
  simp only [S56.av, List.getElem?_cons_zero] at h0
  refine ⟨fun e => ?_, fun l hl' => ?_⟩
  · subst e
    unfold v0P v1P
    rw [lh_as l_config_Values_0.eq_1]
    generalize P.flatMap S56.av = cs at *
    generalize P.length = n at *
    simp only [Nat.zero_mul, Nat.zero_add, Int.natCast_zero, List.drop_zero] at h0 h5 l5 c1 w1
    simp -implicitDefEqProofs only [eqs, eqd, aCall, Sym.reach, Sym.pos, Sym.sub, ↓reduceIte, reduceCtorEq, Nat.reduceEqDiff, Nat.reduceAdd, Nat.reduceSub, Nat.reduceMul, Nat.reduceLT, Nat.reduceLeDiff, Nat.reduceBEq, Nat.reduceBNe, Nat.reduceGT, Int.reduceEq, Int.reduceLT, Int.reduceLE, Int.reduceToNat, Int.reduceAdd, Int.reduceSub, Int.reduceMul, Int.reduceNeg, Int.reduceBEq, Int.reduceBNe, nx_nil, S25.av, S56.av, c1, w1, h5, h0, l5, hl, hf]
  · have lt : l.take i = l := by rw [← hl', List.take_length]
    unfold v1P
    rw [lh_as l_config_Values_0.eq_1]
    generalize P.flatMap S56.av = cs at *
    generalize P.length = n at *
    simp -implicitDefEqProofs only [eqs, eqd, aCall, Sym.reach, Sym.pos, Sym.sub, ↓reduceIte, reduceCtorEq, Nat.reduceEqDiff, Nat.reduceAdd, Nat.reduceSub, Nat.reduceMul, Nat.reduceLT, Nat.reduceLeDiff, Nat.reduceBEq, Nat.reduceBNe, Nat.reduceGT, Int.reduceEq, Int.reduceLT, Int.reduceLE, Int.reduceToNat, Int.reduceAdd, Int.reduceSub, Int.reduceMul, Int.reduceNeg, Int.reduceBEq, Int.reduceBNe, nx_nil, S25.av, S56.av, c0, c1, w1, h5, h0, l5, hl, hl', hf, n2, n3', n4, lt, Int.toNat_natCast, Int.natCast_add]
noncomputable abbrev vfP (C : CT) (lf : Nat) (s : St) (N : Nat) : Option Res := FnR [.t 4] true false (Lh C lf (some s) [2, 5, 11, 12, 13] l_config_Values_0 N [.b 0, .c l_config_Values_1])
theorem v_endP (C : CT) (lf : Nat) (c : Clu) (P : List Spt) (N : Nat) : (P.length = 0 → vfP C lf (v0P c P 0) N = some ⟨.v (.slice none 0 0), [], 1⟩) ∧ (∀ l : List AV, l.length = P.length → vfP C lf (v1P c P P.length l) N = some ⟨.shr P.length false l, [], 1⟩) := by
  have c1 : ¬ (P.length : Int) < P.length := by omega
  refine ⟨fun e => ?_, fun l hl => ?_⟩
  · obtain rfl : P = [] := List.length_eq_zero_iff.1 e
    unfold vfP v0P
    rw [lh_as l_config_Values_0.eq_1]
    simp -implicitDefEqProofs only [eqs, eqd, aCall, Sym.reach, Sym.pos, Sym.sub, ↓reduceIte, reduceCtorEq, Nat.reduceEqDiff, Nat.reduceAdd, Nat.reduceSub, Nat.reduceMul, Nat.reduceLT, Nat.reduceLeDiff, Nat.reduceBEq, Nat.reduceBNe, Nat.reduceGT, Int.reduceEq, Int.reduceLT, Int.reduceLE, Int.reduceToNat, Int.reduceAdd, Int.reduceSub, Int.reduceMul, Int.reduceNeg, Int.reduceBEq, Int.reduceBNe, nx_nil, l_config_Values_1, S25.av]
  · have lt : l.take P.length = l := by rw [← hl, List.take_length]
    unfold vfP v1P
    rw [lh_as l_config_Values_0.eq_1]
    generalize P.flatMap S56.av = cs at *
    generalize P.length = n at *
    simp -implicitDefEqProofs only [eqs, eqd, aCall, Sym.reach, Sym.pos, Sym.sub, ↓reduceIte, reduceCtorEq, Nat.reduceEqDiff, Nat.reduceAdd, Nat.reduceSub, Nat.reduceMul, Nat.reduceLT, Nat.reduceLeDiff, Nat.reduceBEq, Nat.reduceBNe, Nat.reduceGT, Int.reduceEq, Int.reduceLT, Int.reduceLE, Int.reduceToNat, Int.reduceAdd, Int.reduceSub, Int.reduceMul, Int.reduceNeg, Int.reduceBEq, Int.reduceBNe, nx_nil, l_config_Values_1, S25.av, c1, hl, lt]
theorem v_runP (k : Nat) (hk : 250 ≤ k) (lf : Nat) (c : Clu) (P : List Spt) (hB : c.f6.length ≤ 250) (hP : P.length ≤ 250) : ∀ (m i N : Nat) (l : List AV), i + m = P.length → m ≤ N → l.length = i → vfP (acall T (k + 4)) lf (v1P c P i l) N = some ⟨.shr P.length false (l ++ vl c P m i), [], 1⟩
  | 0, i, N, l, hi, hN, hl => by
    obtain rfl : i = P.length := by omega
    rw [vl, List.append_nil]
    exact (v_endP _ lf c P N).2 l hl
  | m + 1, i, N, l, hi, hN, hl => by
    obtain ⟨N, rfl⟩ : ∃ M, N = M + 1 := ⟨N - 1, by omega⟩
    have h : i < P.length := by omega
    have := v_runP k hk lf c P hB hP m (i + 1) N (l ++ [.v (.int .i64 (szO c P[i]))]) (by omega) (by omega) (by simp [hl])
    unfold vfP at this ⊢
    rw [(v_oneP k hk lf c P hB hP i h N _).2 l hl, this, vl, dif_pos h, List.append_assoc]
    rfl
theorem v_allP (k : Nat) (hk : 250 ≤ k) (lf : Nat) (c : Clu) (P : List Spt) (hB : c.f6.length ≤ 250) (hP : P.length ≤ 250) (N : Nat) (hN : P.length ≤ N) : vfP (acall T (k + 4)) lf (v0P c P 0) N = some ⟨if P.length = 0 then .v (.slice none 0 0) else .shr P.length false (vl c P P.length 0), [], 1⟩ := by
  by_cases e : P.length = 0
  · rw [if_pos e]
    exact (v_endP _ lf c P N).1 e
  · rw [if_neg e]
    obtain ⟨m, hm⟩ : ∃ m, P.length = m + 1 := ⟨P.length - 1, by omega⟩
    obtain ⟨N, rfl⟩ : ∃ M, N = M + 1 := ⟨N - 1, by omega⟩
    have h : 0 < P.length := by omega
    have := v_runP k hk lf c P hB hP m 1 N [.v (.int .i64 (szO c P[0]))] (by omega) (by omega) rfl
    unfold vfP at this ⊢
    rw [(v_oneP k hk lf c P hB hP 0 h N _).1 rfl, this, hm, vl, dif_pos h]
    rfl
/-! fugleman/fuglemanref20.Values -/
def v0R (c : Clu) (a1 a2 a3 : Int) (q3 q5 : List AV) (n3 n5 : Nat) (P : List Spt) (i : Nat) : St := ⟨[(2, .ptr 0 0), (3, .ptr 1 0), (5, .v (.slice none 0 0)), (6, .v (.int .i64 i))], [⟨true, true, true, c.av⟩, ⟨true, true, true, [.v (.int .i64 a1), .v (.int .i64 a2), .v (.int .i64 a3), .shr n3 false q3, .shr P.length false (P.flatMap S56.av), .shr n5 false q5]⟩], 1, []⟩
def v1R (c : Clu) (a1 a2 a3 : Int) (q3 q5 : List AV) (n3 n5 : Nat) (P : List Spt) (i : Nat) (l : List AV) : St := ⟨[(2, .ptr 0 0), (3, .ptr 1 0), (5, .view 2 0 i 1 none), (6, .v (.int .i64 i))], [⟨true, true, true, c.av⟩, ⟨true, true, true, [.v (.int .i64 a1), .v (.int .i64 a2), .v (.int .i64 a3), .shr n3 false q3, .shr P.length false (P.flatMap S56.av), .shr n5 false q5]⟩, ⟨true, true, true, l⟩], 1, []⟩
theorem v_oneR (k : Nat) (hk : 250 ≤ k) (lf : Nat) (c : Clu) (a1 a2 a3 : Int) (q3 q5 : List AV) (n3 n5 : Nat) (P : List Spt) (hB : c.f6.length ≤ 250) (hP : P.length ≤ 250) (i : Nat) (hi : i < P.length) (N : Nat) (ks : List It) :
    (i = 0 → Lh (acall T (k + 2)) lf (some (v0R c a1 a2 a3 q3 q5 n3 n5 P i)) [2, 3, 5, 6] l_fuglemanref20_Values_0 (N + 1) ks = Lh (acall T (k + 2)) lf (some (v1R c a1 a2 a3 q3 q5 n3 n5 P (i + 1) [.v (.int .i64 (szO c P[i]))])) [2, 3, 5, 6] l_fuglemanref20_Values_0 N ks) ∧
    (∀ l : List AV, l.length = i → Lh (acall T (k + 2)) lf (some (v1R c a1 a2 a3 q3 q5 n3 n5 P i l)) [2, 3, 5, 6] l_fuglemanref20_Values_0 (N + 1) ks = Lh (acall T (k + 2)) lf (some (v1R c a1 a2 a3 q3 q5 n3 n5 P (i + 1) (l ++ [.v (.int .i64 (szO c P[i]))]))) [2, 3, 5, 6] l_fuglemanref20_Values_0 N ks) := by
  have c1 : (i : Int) < P.length := by omega
  have c0 : (0 : Int) ≤ i := by omega
  have w1 : IntKind.i64.wrap ((i : Int) + 1) = i + 1 := w64 (by omega) (by omega)
  have h5 := chunk S56.av 2 spt_len P i hi
  have h0 : (P.flatMap S56.av)[i * 2]? = (P[i].av)[0]? := chunk_at S56.av 2 spt_len P i hi 0 (by decide)
  have l5 : i * 2 + 2 ≤ P.length * 2 := by omega
  have hl := chunk_len S56.av 2 spt_len P
  have hf := rbfind_a k hk c.f6 hB P[i].f0
  have n2 : ¬ i + 1 ≤ i := by omega
  have n3' : (i + 1) * 8 ≤ 140737488355328 := by omega
  have n4 : i ≤ 9223372036854775806 := by omega
  unfold szO
  obtain ⟨ba, bb, bd, hb⟩ := szB_a (fnd (fun y => y.f0) P[i].f0 c.f6 c.f6.length 0)
  rw [hb] at hf
  generalize (fnd (fun y => y.f0) P[i].f0 c.f6 c.f6.length 0).isSome = bo at *
  generalize szB (fnd (fun y => y.f0) P[i].f0 c.f6 c.f6.length 0) = z at *
  clear hb
  generalize P[i] = y at *
  simp only [S56.av, List.getElem?_cons_zero] at h0
  refine ⟨fun e => ?_, fun l hl' => ?_⟩
  · subst e
    unfold v0R v1R
    rw [lh_as l_fuglemanref20_Values_0.eq_1]
    generalize P.flatMap S56.av = cs at *
    generalize P.length = n at *
    simp only [Nat.zero_mul, Nat.zero_add, Int.natCast_zero, List.drop_zero] at h0 h5 l5 c1 w1
    simp -implicitDefEqProofs only [eqs, eqd, aCall, Sym.reach, Sym.pos, Sym.sub, ↓reduceIte, reduceCtorEq, Nat.reduceEqDiff, Nat.reduceAdd, Nat.reduceSub, Nat.reduceMul, Nat.reduceLT, Nat.reduceLeDiff, Nat.reduceBEq, Nat.reduceBNe, Nat.reduceGT, Int.reduceEq, Int.reduceLT, Int.reduceLE, Int.reduceToNat, Int.reduceAdd, Int.reduceSub, Int.reduceMul, Int.reduceNeg, Int.reduceBEq, Int.reduceBNe, nx_nil, S25.av, S56.av, c1, w1, h5, h0, l5, hl, hf]
  · have lt : l.take i = l := by rw [← hl', List.take_length]
    unfold v1R
    rw [lh_as l_fuglemanref20_Values_0.eq_1]
    generalize P.flatMap S56.av = cs at *
    generalize P.length = n at *
    simp -implicitDefEqProofs only [eqs, eqd, aCall, Sym.reach, Sym.pos, Sym.sub, ↓reduceIte, reduceCtorEq, Nat.reduceEqDiff, Nat.reduceAdd, Nat.reduceSub, Nat.reduceMul, Nat.reduceLT, Nat.reduceLeDiff, Nat.reduceBEq, Nat.reduceBNe, Nat.reduceGT, Int.reduceEq, Int.reduceLT, Int.reduceLE, Int.reduceToNat, Int.reduceAdd, Int.reduceSub, Int.reduceMul, Int.reduceNeg, Int.reduceBEq, Int.reduceBNe, nx_nil, S25.av, S56.av, c0, c1, w1, h5, h0, l5, hl, hl', hf, n2, n3', n4, lt, Int.toNat_natCast, Int.natCast_add]
noncomputable abbrev vfR (C : CT) (lf : Nat) (s : St) (N : Nat) : Option Res := FnR [.t 4] true false (Lh C lf (some s) [2, 3, 5, 6] l_fuglemanref20_Values_0 N [.b 0, .c l_fuglemanref20_Values_1])
theorem v_endR (C : CT) (lf : Nat) (c : Clu) (a1 a2 a3 : Int) (q3 q5 : List AV) (n3 n5 : Nat) (P : List Spt) (N : Nat) : (P.length = 0 → vfR C lf (v0R c a1 a2 a3 q3 q5 n3 n5 P 0) N = some ⟨.v (.slice none 0 0), [], 1⟩) ∧ (∀ l : List AV, l.length = P.length → vfR C lf (v1R c a1 a2 a3 q3 q5 n3 n5 P P.length l) N = some ⟨.shr P.length false l, [], 1⟩) := by
  have c1 : ¬ (P.length : Int) < P.length := by omega
  refine ⟨fun e => ?_, fun l hl => ?_⟩
  · obtain rfl : P = [] := List.length_eq_zero_iff.1 e
    unfold vfR v0R
    rw [lh_as l_fuglemanref20_Values_0.eq_1]
    simp -implicitDefEqProofs only [eqs, eqd, aCall, Sym.reach, Sym.pos, Sym.sub, ↓reduceIte, reduceCtorEq, Nat.reduceEqDiff, Nat.reduceAdd, Nat.reduceSub, Nat.reduceMul, Nat.reduceLT, Nat.reduceLeDiff, Nat.reduceBEq, Nat.reduceBNe, Nat.reduceGT, Int.reduceEq, Int.reduceLT, Int.reduceLE, Int.reduceToNat, Int.reduceAdd, Int.reduceSub, Int.reduceMul, Int.reduceNeg, Int.reduceBEq, Int.reduceBNe, nx_nil, l_fuglemanref20_Values_1, S25.av]
  · have lt : l.take P.length = l := by rw [← hl, List.take_length]
    unfold vfR v1R
    rw [lh_as l_fuglemanref20_Values_0.eq_1]
    generalize P.flatMap S56.av = cs at *
    generalize P.length = n at *
    simp -implicitDefEqProofs only [eqs, eqd, aCall, Sym.reach, Sym.pos, Sym.sub, ↓reduceIte, reduceCtorEq, Nat.reduceEqDiff, Nat.reduceAdd, Nat.reduceSub, Nat.reduceMul, Nat.reduceLT, Nat.reduceLeDiff, Nat.reduceBEq, Nat.reduceBNe, Nat.reduceGT, Int.reduceEq, Int.reduceLT, Int.reduceLE, Int.reduceToNat, Int.reduceAdd, Int.reduceSub, Int.reduceMul, Int.reduceNeg, Int.reduceBEq, Int.reduceBNe, nx_nil, l_fuglemanref20_Values_1, S25.av, c1, hl, lt]
theorem v_runR (k : Nat) (hk : 250 ≤ k) (lf : Nat) (c : Clu) (a1 a2 a3 : Int) (q3 q5 : List AV) (n3 n5 : Nat) (P : List Spt) (hB : c.f6.length ≤ 250) (hP : P.length ≤ 250) : ∀ (m i N : Nat) (l : List AV), i + m = P.length → m ≤ N → l.length = i → vfR (acall T (k + 2)) lf (v1R c a1 a2 a3 q3 q5 n3 n5 P i l) N = some ⟨.shr P.length false (l ++ vl c P m i), [], 1⟩
  | 0, i, N, l, hi, hN, hl => by
    obtain rfl : i = P.length := by omega
    rw [vl, List.append_nil]
    exact (v_endR _ lf c a1 a2 a3 q3 q5 n3 n5 P N).2 l hl
  | m + 1, i, N, l, hi, hN, hl => by
    obtain ⟨N, rfl⟩ : ∃ M, N = M + 1 := ⟨N - 1, by omega⟩
    have h : i < P.length := by omega
    have := v_runR k hk lf c a1 a2 a3 q3 q5 n3 n5 P hB hP m (i + 1) N (l ++ [.v (.int .i64 (szO c P[i]))]) (by omega) (by omega) (by simp [hl])
    unfold vfR at this ⊢
    rw [(v_oneR k hk lf c a1 a2 a3 q3 q5 n3 n5 P hB hP i h N _).2 l hl, this, vl, dif_pos h, List.append_assoc]
    rfl
theorem v_allR (k : Nat) (hk : 250 ≤ k) (lf : Nat) (c : Clu) (a1 a2 a3 : Int) (q3 q5 : List AV) (n3 n5 : Nat) (P : List Spt) (hB : c.f6.length ≤ 250) (hP : P.length ≤ 250) (N : Nat) (hN : P.length ≤ N) : vfR (acall T (k + 2)) lf (v0R c a1 a2 a3 q3 q5 n3 n5 P 0) N = some ⟨if P.length = 0 then .v (.slice none 0 0) else .shr P.length false (vl c P P.length 0), [], 1⟩ := by
  by_cases e : P.length = 0
  · rw [if_pos e]
    exact (v_endR _ lf c a1 a2 a3 q3 q5 n3 n5 P N).1 e
  · rw [if_neg e]
    obtain ⟨m, hm⟩ : ∃ m, P.length = m + 1 := ⟨P.length - 1, by omega⟩
    obtain ⟨N, rfl⟩ : ∃ M, N = M + 1 := ⟨N - 1, by omega⟩
    have h : 0 < P.length := by omega
    have := v_runR k hk lf c a1 a2 a3 q3 q5 n3 n5 P hB hP m 1 N [.v (.int .i64 (szO c P[0]))] (by omega) (by omega) rfl
    unfold vfR at this ⊢
    rw [(v_oneR k hk lf c a1 a2 a3 q3 q5 n3 n5 P hB hP 0 h N _).1 rfl, this, hm, vl, dif_pos h]
    rfl
def vres (c : Clu) (P : List Spt) : AV := if P.length = 0 then .v (.slice none 0 0) else .shr P.length false (vl c P P.length 0)
theorem values_a (k : Nat) (hk : 250 ≤ k) (c : Clu) (hB : c.f6.length ≤ 250) (s : Sta) (hP : s.f4.length ≤ 250) : acall T (k + 5) 17 0 [.agg c.av, .agg s.av] [] = some ⟨vres c s.f4, [], 1⟩ := by
  have key := v_allP k hk (k + 4) c s.f4 hB hP (k + 3) (by omega)
  rw [acall_go (body := b_config_Values) rfl rfl (Nat.zero_le _)]
  unfold vres
  rw [← key]
  clear key
  have lp : ∀ (ks : List It) (s : St), Lp (acall T (k + 4)) (k + 4) [2, 5, 11, 12, 13] l_config_Values_0 (k + 4) ks s = Lh (acall T (k + 4)) (k + 4) (canon [2, 5, 11, 12, 13] s) [2, 5, 11, 12, 13] l_config_Values_0 (k + 3) ks := fun ks s => lp_succ (n := k + 3)
  unfold vfP v0P
  simp -implicitDefEqProofs only [eqs, eqd, aCall, Sym.reach, Sym.pos, Sym.sub, ↓reduceIte, reduceCtorEq, Nat.reduceEqDiff, Nat.reduceAdd, Nat.reduceSub, Nat.reduceMul, Nat.reduceLT, Nat.reduceLeDiff, Nat.reduceBEq, Nat.reduceBNe, Nat.reduceGT, Int.reduceEq, Int.reduceLT, Int.reduceLE, Int.reduceToNat, Int.reduceAdd, Int.reduceSub, Int.reduceMul, Int.reduceNeg, Int.reduceBEq, Int.reduceBNe, b_config_Values, S25.av, S37.av, lp, Int.natCast_zero]
theorem rvalues_a (k : Nat) (hk : 250 ≤ k) (c : Clu) (hB : c.f6.length ≤ 250) (s : Sta) (hP : s.f4.length ≤ 250) : acall T (k + 3) 18 0 [.agg c.av, .agg s.av] [] = some ⟨vres c s.f4, [], 1⟩ := by
  have key := v_allR k hk (k + 2) c s.f0 s.f1 s.f2 (s.f3.flatMap S54.av) (s.f5.flatMap S56.av) s.f3.length s.f5.length s.f4 hB hP (k + 1) (by omega)
  rw [acall_go (body := b_fuglemanref20_Values) rfl rfl (Nat.zero_le _)]
  unfold vres
  rw [← key]
  clear key
  have lp : ∀ (ks : List It) (s : St), Lp (acall T (k + 2)) (k + 2) [2, 3, 5, 6] l_fuglemanref20_Values_0 (k + 2) ks s = Lh (acall T (k + 2)) (k + 2) (canon [2, 3, 5, 6] s) [2, 3, 5, 6] l_fuglemanref20_Values_0 (k + 1) ks := fun ks s => lp_succ (n := k + 1)
  unfold vfR v0R
  simp -implicitDefEqProofs only [eqs, eqd, aCall, Sym.reach, Sym.pos, Sym.sub, ↓reduceIte, reduceCtorEq, Nat.reduceEqDiff, Nat.reduceAdd, Nat.reduceSub, Nat.reduceMul, Nat.reduceLT, Nat.reduceLeDiff, Nat.reduceBEq, Nat.reduceBNe, Nat.reduceGT, Int.reduceEq, Int.reduceLT, Int.reduceLE, Int.reduceToNat, Int.reduceAdd, Int.reduceSub, Int.reduceMul, Int.reduceNeg, Int.reduceBEq, Int.reduceBNe, b_fuglemanref20_Values, S25.av, S37.av, lp, Int.natCast_zero]
theorem values_0 (k : Nat) (c : Clu) : acall T (k + 3) 17 0 [.agg c.av, .agg (staO none)] [] = some ⟨.v (.slice none 0 0), [], 1⟩ := by
  rw [acall_go (body := b_config_Values) rfl rfl (Nat.zero_le _)]
  have lp : ∀ (ks : List It) (s : St), Lp (acall T (k + 2)) (k + 2) [2, 5, 11, 12, 13] l_config_Values_0 (k + 2) ks s = Lh (acall T (k + 2)) (k + 2) (canon [2, 5, 11, 12, 13] s) [2, 5, 11, 12, 13] l_config_Values_0 (k + 1) ks := fun ks s => lp_succ (n := k + 1)
  have ly : ∀ (s : St) (ks : List It), Lh (acall T (k + 2)) (k + 2) (some s) [2, 5, 11, 12, 13] l_config_Values_0 (k + 1) ks = _ := fun s ks => lh_as l_config_Values_0.eq_1
  simp -implicitDefEqProofs only [eqs, eqd, aCall, Sym.reach, Sym.pos, Sym.sub, ↓reduceIte, reduceCtorEq, Nat.reduceEqDiff, Nat.reduceAdd, Nat.reduceSub, Nat.reduceMul, Nat.reduceLT, Nat.reduceLeDiff, Nat.reduceBEq, Nat.reduceBNe, Nat.reduceGT, Int.reduceEq, Int.reduceLT, Int.reduceLE, Int.reduceToNat, Int.reduceAdd, Int.reduceSub, Int.reduceMul, Int.reduceNeg, Int.reduceBEq, Int.reduceBNe, b_config_Values, nx_nil, l_config_Values_1, S25.av, staO, lp, ly]
theorem rvalues_0 (k : Nat) (c : Clu) : acall T (k + 3) 18 0 [.agg c.av, .agg (staO none)] [] = some ⟨.v (.slice none 0 0), [], 1⟩ := by
  rw [acall_go (body := b_fuglemanref20_Values) rfl rfl (Nat.zero_le _)]
  have lp : ∀ (ks : List It) (s : St), Lp (acall T (k + 2)) (k + 2) [2, 3, 5, 6] l_fuglemanref20_Values_0 (k + 2) ks s = Lh (acall T (k + 2)) (k + 2) (canon [2, 3, 5, 6] s) [2, 3, 5, 6] l_fuglemanref20_Values_0 (k + 1) ks := fun ks s => lp_succ (n := k + 1)
  have ly : ∀ (s : St) (ks : List It), Lh (acall T (k + 2)) (k + 2) (some s) [2, 3, 5, 6] l_fuglemanref20_Values_0 (k + 1) ks = _ := fun s ks => lh_as l_fuglemanref20_Values_0.eq_1
  simp -implicitDefEqProofs only [eqs, eqd, aCall, Sym.reach, Sym.pos, Sym.sub, ↓reduceIte, reduceCtorEq, Nat.reduceEqDiff, Nat.reduceAdd, Nat.reduceSub, Nat.reduceMul, Nat.reduceLT, Nat.reduceLeDiff, Nat.reduceBEq, Nat.reduceBNe, Nat.reduceGT, Int.reduceEq, Int.reduceLT, Int.reduceLE, Int.reduceToNat, Int.reduceAdd, Int.reduceSub, Int.reduceMul, Int.reduceNeg, Int.reduceBEq, Int.reduceBNe, b_fuglemanref20_Values, nx_nil, l_fuglemanref20_Values_1, S25.av, staO, lp, ly]
end Go.Proofs.Ytcfokbhmchcgbaa.Cfg

/- Small; the same station. -/
namespace Go.Proofs.Ytcfokbhmchcgbaa.Cfg
open Go Go.Proofs.Ytcfokbhmchcgbaa.Sym Go.Proofs.Ytcfokbhmchcgbaa.Tab Go.Proofs.Ytcfokbhmchcgbaa.Args
set_option linter.unusedVariables false
set_option linter.unusedSimpArgs false
set_option maxHeartbeats 4000000
set_option maxRecDepth 20000
/-- No more than that of each. -/
def fits (y : Sta) : Prop := y.f3.length ≤ 210 ∧ y.f4.length ≤ 40 ∧ y.f5.length ≤ 40
instance (y : Sta) : Decidable (fits y) := by unfold fits; infer_instance
def smst (c : Clu) (i : Nat) : St := ⟨[(16, .shr c.f7.length false (c.f7.flatMap S37.av)), (17, .v (.int .i64 c.f7.length)), (18, .v (.int .i64 i))], [], 1, []⟩
noncomputable abbrev smfin (C : CT) (lf : Nat) (s : St) (N : Nat) : Option Res := FnR [.t 2] false false (Lh C lf (some s) [16, 17, 18] l_fuglemanlaw20_Small_0 N [.b 0, .c l_fuglemanlaw20_Small_1])
theorem small_one (C : CT) (lf : Nat) (c : Clu) (hL : c.f7.length ≤ 250) (i : Nat) (hi : i < c.f7.length) (N : Nat) : smfin C lf (smst c i) (N + 1) = if fits c.f7[i] then smfin C lf (smst c (i + 1)) N else some ⟨.v (.bool false), [], 1⟩ := by
  have c1 : (i : Int) < c.f7.length := by omega
  have c0 : (0 : Int) ≤ i := by omega
  have w1 : IntKind.i64.wrap ((i : Int) + 1) = i + 1 := w64 (by omega) (by omega)
  have h5 := chunk S37.av 6 sta_len c.f7 i hi
  have l5 : i * 6 + 6 ≤ c.f7.length * 6 := by omega
  have hl := chunk_len S37.av 6 sta_len c.f7
  unfold smfin smst
  rw [lh_as l_fuglemanlaw20_Small_0.eq_1]
  generalize c.f7[i] = y at *
  generalize c.f7.flatMap S37.av = cs at *
  generalize c.f7.length = n at *
  by_cases d1 : (210 : Int) < y.f3.length
  · rw [if_neg (fun h => by have := h.1; omega)]
    simp -implicitDefEqProofs only [eqs, eqd, aCall, Sym.reach, Sym.pos, Sym.sub, ↓reduceIte, reduceCtorEq, Nat.reduceEqDiff, Nat.reduceAdd, Nat.reduceSub, Nat.reduceMul, Nat.reduceLT, Nat.reduceLeDiff, Nat.reduceBEq, Nat.reduceBNe, Nat.reduceGT, Int.reduceEq, Int.reduceLT, Int.reduceLE, Int.reduceToNat, Int.reduceAdd, Int.reduceSub, Int.reduceMul, Int.reduceNeg, Int.reduceBEq, Int.reduceBNe, nx_nil, S37.av, c0, c1, w1, h5, l5, hl, d1, Int.toNat_natCast, Int.natCast_add]
  by_cases d2 : (40 : Int) < y.f4.length
  · rw [if_neg (fun h => by have := h.2.1; omega)]
    simp -implicitDefEqProofs only [eqs, eqd, aCall, Sym.reach, Sym.pos, Sym.sub, ↓reduceIte, reduceCtorEq, Nat.reduceEqDiff, Nat.reduceAdd, Nat.reduceSub, Nat.reduceMul, Nat.reduceLT, Nat.reduceLeDiff, Nat.reduceBEq, Nat.reduceBNe, Nat.reduceGT, Int.reduceEq, Int.reduceLT, Int.reduceLE, Int.reduceToNat, Int.reduceAdd, Int.reduceSub, Int.reduceMul, Int.reduceNeg, Int.reduceBEq, Int.reduceBNe, nx_nil, S37.av, c0, c1, w1, h5, l5, hl, d1, d2, Int.toNat_natCast, Int.natCast_add]
  by_cases d3 : (40 : Int) < y.f5.length
  · rw [if_neg (fun h => by have := h.2.2; omega)]
    simp -implicitDefEqProofs only [eqs, eqd, aCall, Sym.reach, Sym.pos, Sym.sub, ↓reduceIte, reduceCtorEq, Nat.reduceEqDiff, Nat.reduceAdd, Nat.reduceSub, Nat.reduceMul, Nat.reduceLT, Nat.reduceLeDiff, Nat.reduceBEq, Nat.reduceBNe, Nat.reduceGT, Int.reduceEq, Int.reduceLT, Int.reduceLE, Int.reduceToNat, Int.reduceAdd, Int.reduceSub, Int.reduceMul, Int.reduceNeg, Int.reduceBEq, Int.reduceBNe, nx_nil, S37.av, c0, c1, w1, h5, l5, hl, d1, d2, d3, Int.toNat_natCast, Int.natCast_add]
  rw [if_pos ⟨by omega, by omega, by omega⟩]
  simp -implicitDefEqProofs only [eqs, eqd, aCall, Sym.reach, Sym.pos, Sym.sub, ↓reduceIte, reduceCtorEq, Nat.reduceEqDiff, Nat.reduceAdd, Nat.reduceSub, Nat.reduceMul, Nat.reduceLT, Nat.reduceLeDiff, Nat.reduceBEq, Nat.reduceBNe, Nat.reduceGT, Int.reduceEq, Int.reduceLT, Int.reduceLE, Int.reduceToNat, Int.reduceAdd, Int.reduceSub, Int.reduceMul, Int.reduceNeg, Int.reduceBEq, Int.reduceBNe, nx_nil, S37.av, c0, c1, w1, h5, l5, hl, d1, d2, d3, Int.toNat_natCast, Int.natCast_add]
theorem small_end (C : CT) (lf : Nat) (c : Clu) (N : Nat) : smfin C lf (smst c c.f7.length) N = some ⟨.v (.bool true), [], 1⟩ := by
  have c1 : ¬ (c.f7.length : Int) < c.f7.length := by omega
  unfold smfin smst
  rw [lh_as l_fuglemanlaw20_Small_0.eq_1]
  generalize c.f7.flatMap S37.av = cs at *
  simp -implicitDefEqProofs only [eqs, eqd, aCall, Sym.reach, Sym.pos, Sym.sub, ↓reduceIte, reduceCtorEq, Nat.reduceEqDiff, Nat.reduceAdd, Nat.reduceSub, Nat.reduceMul, Nat.reduceLT, Nat.reduceLeDiff, Nat.reduceBEq, Nat.reduceBNe, Nat.reduceGT, Int.reduceEq, Int.reduceLT, Int.reduceLE, Int.reduceToNat, Int.reduceAdd, Int.reduceSub, Int.reduceMul, Int.reduceNeg, Int.reduceBEq, Int.reduceBNe, nx_nil, l_fuglemanlaw20_Small_1, c1]
theorem small_run (C : CT) (lf : Nat) (c : Clu) (hL : c.f7.length ≤ 250) : ∀ (m i N : Nat), i + m = c.f7.length → m ≤ N → smfin C lf (smst c i) N = some ⟨.v (.bool false), [], 1⟩ ∨ (smfin C lf (smst c i) N = some ⟨.v (.bool true), [], 1⟩ ∧ ∀ (j : Nat) (h : j < c.f7.length), i ≤ j → fits c.f7[j])
  | 0, i, N, hi, hN => by
    obtain rfl : i = c.f7.length := by omega
    exact Or.inr ⟨small_end C lf c N, fun j h hj => by omega⟩
  | m + 1, i, N, hi, hN => by
    obtain ⟨N, rfl⟩ : ∃ M, N = M + 1 := ⟨N - 1, by omega⟩
    have h : i < c.f7.length := by omega
    rw [small_one C lf c hL i h N]
    by_cases e : fits c.f7[i]
    · rw [if_pos e]
      rcases small_run C lf c hL m (i + 1) N (by omega) (by omega) with q | ⟨q1, q2⟩
      · exact Or.inl q
      · refine Or.inr ⟨q1, fun j hj hij => ?_⟩
        by_cases z : j = i
        · subst z; exact e
        · exact q2 j hj (by omega)
    · rw [if_neg e]
      exact Or.inl rfl
theorem small_a (k : Nat) (hk : 250 ≤ k) (c : Clu) : acall T (k + 1) 7 0 [.agg c.av] [] = some ⟨.v (.bool false), [], 1⟩ ∨ (acall T (k + 1) 7 0 [.agg c.av] [] = some ⟨.v (.bool true), [], 1⟩ ∧ c.f7.length ≤ 40 ∧ c.f6.length ≤ 40 ∧ ∀ (j : Nat) (h : j < c.f7.length), fits c.f7[j]) := by
  by_cases d1 : (40 : Int) < c.f7.length
  · refine Or.inl ?_
    rw [acall_go (body := b_fuglemanlaw20_Small) rfl rfl (Nat.zero_le _)]
    simp -implicitDefEqProofs only [eqs, eqd, aCall, Sym.reach, Sym.pos, Sym.sub, lh_some, ↓reduceIte, reduceCtorEq, Nat.reduceEqDiff, Nat.reduceAdd, Nat.reduceSub, Nat.reduceMul, Nat.reduceLT, Nat.reduceLeDiff, Nat.reduceBEq, Nat.reduceBNe, Nat.reduceGT, Int.reduceEq, Int.reduceLT, Int.reduceLE, Int.reduceToNat, Int.reduceAdd, Int.reduceSub, Int.reduceMul, Int.reduceNeg, Int.reduceBEq, Int.reduceBNe, b_fuglemanlaw20_Small, S25.av, d1]
  by_cases d2 : (40 : Int) < c.f6.length
  · refine Or.inl ?_
    rw [acall_go (body := b_fuglemanlaw20_Small) rfl rfl (Nat.zero_le _)]
    simp -implicitDefEqProofs only [eqs, eqd, aCall, Sym.reach, Sym.pos, Sym.sub, lh_some, ↓reduceIte, reduceCtorEq, Nat.reduceEqDiff, Nat.reduceAdd, Nat.reduceSub, Nat.reduceMul, Nat.reduceLT, Nat.reduceLeDiff, Nat.reduceBEq, Nat.reduceBNe, Nat.reduceGT, Int.reduceEq, Int.reduceLT, Int.reduceLE, Int.reduceToNat, Int.reduceAdd, Int.reduceSub, Int.reduceMul, Int.reduceNeg, Int.reduceBEq, Int.reduceBNe, b_fuglemanlaw20_Small, S25.av, d1, d2]
  obtain ⟨m, rfl⟩ : ∃ m, k = m + 1 := ⟨k - 1, by omega⟩
  have lp : ∀ (ks : List It) (s : St), Lp (acall T (m + 1)) (m + 1) [16, 17, 18] l_fuglemanlaw20_Small_0 (m + 1) ks s = Lh (acall T (m + 1)) (m + 1) (canon [16, 17, 18] s) [16, 17, 18] l_fuglemanlaw20_Small_0 m ks := fun ks s => lp_succ (n := m)
  have e : acall T (m + 1 + 1) 7 0 [.agg c.av] [] = smfin (acall T (m + 1)) (m + 1) (smst c 0) m := by
    rw [acall_go (body := b_fuglemanlaw20_Small) rfl rfl (Nat.zero_le _)]
    unfold smfin smst
    simp -implicitDefEqProofs only [eqs, eqd, aCall, Sym.reach, Sym.pos, Sym.sub, ↓reduceIte, reduceCtorEq, Nat.reduceEqDiff, Nat.reduceAdd, Nat.reduceSub, Nat.reduceMul, Nat.reduceLT, Nat.reduceLeDiff, Nat.reduceBEq, Nat.reduceBNe, Nat.reduceGT, Int.reduceEq, Int.reduceLT, Int.reduceLE, Int.reduceToNat, Int.reduceAdd, Int.reduceSub, Int.reduceMul, Int.reduceNeg, Int.reduceBEq, Int.reduceBNe, b_fuglemanlaw20_Small, S25.av, d1, d2, lp, Int.natCast_zero]
  rw [e]
  rcases small_run (acall T (m + 1)) (m + 1) c (by omega) c.f7.length 0 m (by omega) (by omega) with q | ⟨q1, q2⟩
  · exact Or.inl q
  · exact Or.inr ⟨q1, by omega, by omega, fun j hj => q2 j hj (Nat.zero_le _)⟩
/-! the same -/
def eqst_0 (y : Sta) (i : Nat) : St := ⟨[(2, .ptr 0 0), (3, .ptr 1 0), (56, .v (.int .i64 y.f3.length)), (57, .v (.int .i64 i))], [⟨true, true, true, y.av⟩, ⟨true, true, true, y.av⟩], 1, []⟩
theorem same_next_0 (C : CT) (lf : Nat) (y : Sta) (hy : y.f3.length ≤ 250) (i : Nat) (hi : i < y.f3.length) (N : Nat) (ks : List It) : Lh C lf (some (eqst_0 y i)) [2, 3, 56, 57] l_fuglemanlaw20_same_0 (N + 1) ks = Lh C lf (some (eqst_0 y (i + 1))) [2, 3, 56, 57] l_fuglemanlaw20_same_0 N ks := by
  have c1 : (i : Int) < y.f3.length := by omega
  have c0 : (0 : Int) ≤ i := by omega
  have w1 : IntKind.i64.wrap ((i : Int) + 1) = i + 1 := w64 (by omega) (by omega)
  have h5 := chunk S54.av 5 ins_len y.f3 i hi
  have l5 : i * 5 + 5 ≤ y.f3.length * 5 := by omega
  have hl := chunk_len S54.av 5 ins_len y.f3
  unfold eqst_0
  rw [lh_as l_fuglemanlaw20_same_0.eq_1]
  generalize y.f3[i] = z at *
  simp only [S37.av]
  generalize hcs : y.f3.flatMap S54.av = cs at *
  simp -implicitDefEqProofs only [eqs, eqd, aCall, Sym.reach, Sym.pos, Sym.sub, ↓reduceIte, reduceCtorEq, Nat.reduceEqDiff, Nat.reduceAdd, Nat.reduceSub, Nat.reduceMul, Nat.reduceLT, Nat.reduceLeDiff, Nat.reduceBEq, Nat.reduceBNe, Nat.reduceGT, Int.reduceEq, Int.reduceLT, Int.reduceLE, Int.reduceToNat, Int.reduceAdd, Int.reduceSub, Int.reduceMul, Int.reduceNeg, Int.reduceBEq, Int.reduceBNe, nx_nil, S54.av, c0, c1, w1, h5, l5, hl, Int.toNat_natCast, Int.natCast_add]
theorem same_run_0 (C : CT) (lf : Nat) (y : Sta) (hy : y.f3.length ≤ 250) (ks : List It) : ∀ (m i N : Nat), i + m = y.f3.length → m ≤ N → ∃ N', Lh C lf (some (eqst_0 y i)) [2, 3, 56, 57] l_fuglemanlaw20_same_0 N ks = Lh C lf (some (eqst_0 y y.f3.length)) [2, 3, 56, 57] l_fuglemanlaw20_same_0 N' ks
  | 0, i, N, hi, hN => by
    obtain rfl : i = y.f3.length := by omega
    exact ⟨N, rfl⟩
  | m + 1, i, N, hi, hN => by
    obtain ⟨N, rfl⟩ : ∃ M, N = M + 1 := ⟨N - 1, by omega⟩
    rw [same_next_0 C lf y hy i (by omega) N]
    exact same_run_0 C lf y hy ks m (i + 1) N (by omega) (by omega)
def eqst_2 (y : Sta) (i : Nat) : St := ⟨[(2, .ptr 0 0), (3, .ptr 1 0), (74, .v (.int .i64 y.f4.length)), (75, .v (.int .i64 i))], [⟨true, true, true, y.av⟩, ⟨true, true, true, y.av⟩], 1, []⟩
theorem same_next_2 (C : CT) (lf : Nat) (y : Sta) (hy : y.f4.length ≤ 250) (i : Nat) (hi : i < y.f4.length) (N : Nat) (ks : List It) : Lh C lf (some (eqst_2 y i)) [2, 3, 74, 75] l_fuglemanlaw20_same_2 (N + 1) ks = Lh C lf (some (eqst_2 y (i + 1))) [2, 3, 74, 75] l_fuglemanlaw20_same_2 N ks := by
  have c1 : (i : Int) < y.f4.length := by omega
  have c0 : (0 : Int) ≤ i := by omega
  have w1 : IntKind.i64.wrap ((i : Int) + 1) = i + 1 := w64 (by omega) (by omega)
  have h5 := chunk S56.av 2 spt_len y.f4 i hi
  have l5 : i * 2 + 2 ≤ y.f4.length * 2 := by omega
  have hl := chunk_len S56.av 2 spt_len y.f4
  unfold eqst_2
  rw [lh_as l_fuglemanlaw20_same_2.eq_1]
  generalize y.f4[i] = z at *
  simp only [S37.av]
  generalize hcs : y.f4.flatMap S56.av = cs at *
  simp -implicitDefEqProofs only [eqs, eqd, aCall, Sym.reach, Sym.pos, Sym.sub, ↓reduceIte, reduceCtorEq, Nat.reduceEqDiff, Nat.reduceAdd, Nat.reduceSub, Nat.reduceMul, Nat.reduceLT, Nat.reduceLeDiff, Nat.reduceBEq, Nat.reduceBNe, Nat.reduceGT, Int.reduceEq, Int.reduceLT, Int.reduceLE, Int.reduceToNat, Int.reduceAdd, Int.reduceSub, Int.reduceMul, Int.reduceNeg, Int.reduceBEq, Int.reduceBNe, nx_nil, S56.av, c0, c1, w1, h5, l5, hl, Int.toNat_natCast, Int.natCast_add]
theorem same_run_2 (C : CT) (lf : Nat) (y : Sta) (hy : y.f4.length ≤ 250) (ks : List It) : ∀ (m i N : Nat), i + m = y.f4.length → m ≤ N → ∃ N', Lh C lf (some (eqst_2 y i)) [2, 3, 74, 75] l_fuglemanlaw20_same_2 N ks = Lh C lf (some (eqst_2 y y.f4.length)) [2, 3, 74, 75] l_fuglemanlaw20_same_2 N' ks
  | 0, i, N, hi, hN => by
    obtain rfl : i = y.f4.length := by omega
    exact ⟨N, rfl⟩
  | m + 1, i, N, hi, hN => by
    obtain ⟨N, rfl⟩ : ∃ M, N = M + 1 := ⟨N - 1, by omega⟩
    rw [same_next_2 C lf y hy i (by omega) N]
    exact same_run_2 C lf y hy ks m (i + 1) N (by omega) (by omega)
def eqst_4 (y : Sta) (i : Nat) : St := ⟨[(2, .ptr 0 0), (3, .ptr 1 0), (92, .v (.int .i64 y.f5.length)), (93, .v (.int .i64 i))], [⟨true, true, true, y.av⟩, ⟨true, true, true, y.av⟩], 1, []⟩
theorem same_next_4 (C : CT) (lf : Nat) (y : Sta) (hy : y.f5.length ≤ 250) (i : Nat) (hi : i < y.f5.length) (N : Nat) (ks : List It) : Lh C lf (some (eqst_4 y i)) [2, 3, 92, 93] l_fuglemanlaw20_same_4 (N + 1) ks = Lh C lf (some (eqst_4 y (i + 1))) [2, 3, 92, 93] l_fuglemanlaw20_same_4 N ks := by
  have c1 : (i : Int) < y.f5.length := by omega
  have c0 : (0 : Int) ≤ i := by omega
  have w1 : IntKind.i64.wrap ((i : Int) + 1) = i + 1 := w64 (by omega) (by omega)
  have h5 := chunk S56.av 2 spt_len y.f5 i hi
  have l5 : i * 2 + 2 ≤ y.f5.length * 2 := by omega
  have hl := chunk_len S56.av 2 spt_len y.f5
  unfold eqst_4
  rw [lh_as l_fuglemanlaw20_same_4.eq_1]
  generalize y.f5[i] = z at *
  simp only [S37.av]
  generalize hcs : y.f5.flatMap S56.av = cs at *
  simp -implicitDefEqProofs only [eqs, eqd, aCall, Sym.reach, Sym.pos, Sym.sub, ↓reduceIte, reduceCtorEq, Nat.reduceEqDiff, Nat.reduceAdd, Nat.reduceSub, Nat.reduceMul, Nat.reduceLT, Nat.reduceLeDiff, Nat.reduceBEq, Nat.reduceBNe, Nat.reduceGT, Int.reduceEq, Int.reduceLT, Int.reduceLE, Int.reduceToNat, Int.reduceAdd, Int.reduceSub, Int.reduceMul, Int.reduceNeg, Int.reduceBEq, Int.reduceBNe, nx_nil, S56.av, c0, c1, w1, h5, l5, hl, Int.toNat_natCast, Int.natCast_add]
theorem same_run_4 (C : CT) (lf : Nat) (y : Sta) (hy : y.f5.length ≤ 250) (ks : List It) : ∀ (m i N : Nat), i + m = y.f5.length → m ≤ N → ∃ N', Lh C lf (some (eqst_4 y i)) [2, 3, 92, 93] l_fuglemanlaw20_same_4 N ks = Lh C lf (some (eqst_4 y y.f5.length)) [2, 3, 92, 93] l_fuglemanlaw20_same_4 N' ks
  | 0, i, N, hi, hN => by
    obtain rfl : i = y.f5.length := by omega
    exact ⟨N, rfl⟩
  | m + 1, i, N, hi, hN => by
    obtain ⟨N, rfl⟩ : ∃ M, N = M + 1 := ⟨N - 1, by omega⟩
    rw [same_next_4 C lf y hy i (by omega) N]
    exact same_run_4 C lf y hy ks m (i + 1) N (by omega) (by omega)
theorem same_end_0 (C : CT) (m : Nat) (y : Sta) (N : Nat) : Lh C (m + 1) (some (eqst_0 y y.f3.length)) [2, 3, 56, 57] l_fuglemanlaw20_same_0 N [.b 0, .c l_fuglemanlaw20_same_1] = Lh C (m + 1) (some (eqst_2 y 0)) [2, 3, 74, 75] l_fuglemanlaw20_same_2 m [.b 2, .c l_fuglemanlaw20_same_3] := by
  have c1 : ¬ (y.f3.length : Int) < y.f3.length := by omega
  unfold eqst_0 eqst_2
  rw [lh_as l_fuglemanlaw20_same_0.eq_1]
  simp -implicitDefEqProofs only [eqs, eqd, aCall, Sym.reach, Sym.pos, Sym.sub, ↓reduceIte, reduceCtorEq, Nat.reduceEqDiff, Nat.reduceAdd, Nat.reduceSub, Nat.reduceMul, Nat.reduceLT, Nat.reduceLeDiff, Nat.reduceBEq, Nat.reduceBNe, Nat.reduceGT, Int.reduceEq, Int.reduceLT, Int.reduceLE, Int.reduceToNat, Int.reduceAdd, Int.reduceSub, Int.reduceMul, Int.reduceNeg, Int.reduceBEq, Int.reduceBNe, nx_nil, l_fuglemanlaw20_same_1, S37.av, c1, Int.natCast_zero]
theorem same_end_2 (C : CT) (m : Nat) (y : Sta) (N : Nat) : Lh C (m + 1) (some (eqst_2 y y.f4.length)) [2, 3, 74, 75] l_fuglemanlaw20_same_2 N [.b 2, .c l_fuglemanlaw20_same_3] = Lh C (m + 1) (some (eqst_4 y 0)) [2, 3, 92, 93] l_fuglemanlaw20_same_4 m [.b 4, .c l_fuglemanlaw20_same_5] := by
  have c1 : ¬ (y.f4.length : Int) < y.f4.length := by omega
  unfold eqst_2 eqst_4
  rw [lh_as l_fuglemanlaw20_same_2.eq_1]
  simp -implicitDefEqProofs only [eqs, eqd, aCall, Sym.reach, Sym.pos, Sym.sub, ↓reduceIte, reduceCtorEq, Nat.reduceEqDiff, Nat.reduceAdd, Nat.reduceSub, Nat.reduceMul, Nat.reduceLT, Nat.reduceLeDiff, Nat.reduceBEq, Nat.reduceBNe, Nat.reduceGT, Int.reduceEq, Int.reduceLT, Int.reduceLE, Int.reduceToNat, Int.reduceAdd, Int.reduceSub, Int.reduceMul, Int.reduceNeg, Int.reduceBEq, Int.reduceBNe, nx_nil, l_fuglemanlaw20_same_3, S37.av, c1, Int.natCast_zero]
theorem same_end_4 (C : CT) (lf : Nat) (y : Sta) (N : Nat) : FnR [.t 4] false false (Lh C lf (some (eqst_4 y y.f5.length)) [2, 3, 92, 93] l_fuglemanlaw20_same_4 N [.b 4, .c l_fuglemanlaw20_same_5]) = some ⟨.v (.bool true), [], 1⟩ := by
  have c1 : ¬ (y.f5.length : Int) < y.f5.length := by omega
  unfold eqst_4
  rw [lh_as l_fuglemanlaw20_same_4.eq_1]
  simp -implicitDefEqProofs only [eqs, eqd, aCall, Sym.reach, Sym.pos, Sym.sub, ↓reduceIte, reduceCtorEq, Nat.reduceEqDiff, Nat.reduceAdd, Nat.reduceSub, Nat.reduceMul, Nat.reduceLT, Nat.reduceLeDiff, Nat.reduceBEq, Nat.reduceBNe, Nat.reduceGT, Int.reduceEq, Int.reduceLT, Int.reduceLE, Int.reduceToNat, Int.reduceAdd, Int.reduceSub, Int.reduceMul, Int.reduceNeg, Int.reduceBEq, Int.reduceBNe, nx_nil, l_fuglemanlaw20_same_5, S37.av, c1]
theorem same_a (k : Nat) (hk : 250 ≤ k) (y : Sta) (hy : fits y) : acall T (k + 2) 12 0 [.agg y.av, .agg y.av] [] = some ⟨.v (.bool true), [], 1⟩ := by
  obtain ⟨y3, y4, y5⟩ := hy
  have lp : ∀ (ks : List It) (s : St), Lp (acall T (k + 1)) (k + 1) [2, 3, 56, 57] l_fuglemanlaw20_same_0 (k + 1) ks s = Lh (acall T (k + 1)) (k + 1) (canon [2, 3, 56, 57] s) [2, 3, 56, 57] l_fuglemanlaw20_same_0 k ks := fun ks s => lp_succ (n := k)
  have e : acall T (k + 2) 12 0 [.agg y.av, .agg y.av] [] = FnR [.t 4] false false (Lh (acall T (k + 1)) (k + 1) (some (eqst_0 y 0)) [2, 3, 56, 57] l_fuglemanlaw20_same_0 k [.b 0, .c l_fuglemanlaw20_same_1]) := by
    rw [acall_go (body := b_fuglemanlaw20_same) rfl rfl (Nat.zero_le _)]
    unfold eqst_0
    simp -implicitDefEqProofs only [eqs, eqd, aCall, Sym.reach, Sym.pos, Sym.sub, ↓reduceIte, reduceCtorEq, Nat.reduceEqDiff, Nat.reduceAdd, Nat.reduceSub, Nat.reduceMul, Nat.reduceLT, Nat.reduceLeDiff, Nat.reduceBEq, Nat.reduceBNe, Nat.reduceGT, Int.reduceEq, Int.reduceLT, Int.reduceLE, Int.reduceToNat, Int.reduceAdd, Int.reduceSub, Int.reduceMul, Int.reduceNeg, Int.reduceBEq, Int.reduceBNe, b_fuglemanlaw20_same, S37.av, lp, Int.natCast_zero]
  obtain ⟨N1, e1⟩ := same_run_0 (acall T (k + 1)) (k + 1) y (by omega) [.b 0, .c l_fuglemanlaw20_same_1] y.f3.length 0 k (by omega) (by omega)
  obtain ⟨N2, e2⟩ := same_run_2 (acall T (k + 1)) (k + 1) y (by omega) [.b 2, .c l_fuglemanlaw20_same_3] y.f4.length 0 k (by omega) (by omega)
  obtain ⟨N3, e3⟩ := same_run_4 (acall T (k + 1)) (k + 1) y (by omega) [.b 4, .c l_fuglemanlaw20_same_5] y.f5.length 0 k (by omega) (by omega)
  rw [e, e1, same_end_0, e2, same_end_2, e3]
  exact same_end_4 _ _ y N3
theorem same_0 (k : Nat) : acall T (k + 3) 12 0 [.agg (staO none), .agg (staO none)] [] = some ⟨.v (.bool true), [], 1⟩ := by
  rw [acall_go (body := b_fuglemanlaw20_same) rfl rfl (Nat.zero_le _)]
  have lp0 : ∀ (ks : List It) (s : St), Lp (acall T (k + 2)) (k + 2) [2, 3, 56, 57] l_fuglemanlaw20_same_0 (k + 2) ks s = Lh (acall T (k + 2)) (k + 2) (canon [2, 3, 56, 57] s) [2, 3, 56, 57] l_fuglemanlaw20_same_0 (k + 1) ks := fun ks s => lp_succ (n := k + 1)
  have lp2 : ∀ (ks : List It) (s : St), Lp (acall T (k + 2)) (k + 2) [2, 3, 74, 75] l_fuglemanlaw20_same_2 (k + 2) ks s = Lh (acall T (k + 2)) (k + 2) (canon [2, 3, 74, 75] s) [2, 3, 74, 75] l_fuglemanlaw20_same_2 (k + 1) ks := fun ks s => lp_succ (n := k + 1)
  have lp4 : ∀ (ks : List It) (s : St), Lp (acall T (k + 2)) (k + 2) [2, 3, 92, 93] l_fuglemanlaw20_same_4 (k + 2) ks s = Lh (acall T (k + 2)) (k + 2) (canon [2, 3, 92, 93] s) [2, 3, 92, 93] l_fuglemanlaw20_same_4 (k + 1) ks := fun ks s => lp_succ (n := k + 1)
  have ly0 : ∀ (s : St) (ks : List It), Lh (acall T (k + 2)) (k + 2) (some s) [2, 3, 56, 57] l_fuglemanlaw20_same_0 (k + 1) ks = _ := fun s ks => lh_as l_fuglemanlaw20_same_0.eq_1
  have ly2 : ∀ (s : St) (ks : List It), Lh (acall T (k + 2)) (k + 2) (some s) [2, 3, 74, 75] l_fuglemanlaw20_same_2 (k + 1) ks = _ := fun s ks => lh_as l_fuglemanlaw20_same_2.eq_1
  have ly4 : ∀ (s : St) (ks : List It), Lh (acall T (k + 2)) (k + 2) (some s) [2, 3, 92, 93] l_fuglemanlaw20_same_4 (k + 1) ks = _ := fun s ks => lh_as l_fuglemanlaw20_same_4.eq_1
  simp -implicitDefEqProofs only [eqs, eqd, aCall, Sym.reach, Sym.pos, Sym.sub, ↓reduceIte, reduceCtorEq, Nat.reduceEqDiff, Nat.reduceAdd, Nat.reduceSub, Nat.reduceMul, Nat.reduceLT, Nat.reduceLeDiff, Nat.reduceBEq, Nat.reduceBNe, Nat.reduceGT, Int.reduceEq, Int.reduceLT, Int.reduceLE, Int.reduceToNat, Int.reduceAdd, Int.reduceSub, Int.reduceMul, Int.reduceNeg, Int.reduceBEq, Int.reduceBNe, b_fuglemanlaw20_same, nx_nil, l_fuglemanlaw20_same_1, l_fuglemanlaw20_same_3, l_fuglemanlaw20_same_5, staO, lp0, lp2, lp4, ly0, ly2, ly4]
end Go.Proofs.Ytcfokbhmchcgbaa.Cfg

/- awake answers true. -/
namespace Go.Proofs.Ytcfokbhmchcgbaa.CAwk
open Go Go.Proofs.Ytcfokbhmchcgbaa.Sym Go.Proofs.Ytcfokbhmchcgbaa.Tab
theorem awake_a : acall T 299 6 0 [] [] = some ⟨.v (.bool true), [], 1⟩ := by kernel_rfl
end Go.Proofs.Ytcfokbhmchcgbaa.CAwk

/- The law ConfigFinds. -/
namespace Go.Proofs.Ytcfokbhmchcgbaa.Said
open Go Go.Proofs.Ytcfokbhmchcgbaa.Sym Go.Proofs.Ytcfokbhmchcgbaa.Tab Go.Proofs.Ytcfokbhmchcgbaa.Args Go.Proofs.Ytcfokbhmchcgbaa.Cfg Go.Proofs.Ytcfokbhmchcgbaa.CAwk
set_option linter.unusedVariables false
set_option linter.unusedSimpArgs false
set_option maxHeartbeats 4000000
set_option maxRecDepth 20000
def fst (n : Nat) (l : List AV) (i : Nat) : St := ⟨[(11, .shr n false l), (12, .shr n false l), (68, .v (.int .i64 n)), (69, .v (.int .i64 i))], [], 1, []⟩
noncomputable abbrev ffin (C : CT) (lf : Nat) (s : St) (N : Nat) : Option Res := FnR [.t 6] false false (Lh C lf (some s) [11, 12, 68, 69] l_fuglemanlaw20_ConfigFinds_0 N [.b 0, .c l_fuglemanlaw20_ConfigFinds_1])
theorem fl_next (C : CT) (lf n : Nat) (hn : n ≤ 250) (l : List AV) (i : Nat) (hi : i < n) (x : Int) (hx : l[i]? = some (.v (.int .i64 x))) (N : Nat) : ffin C lf (fst n l i) (N + 1) = ffin C lf (fst n l (i + 1)) N := by
  have c1 : (i : Int) < n := by omega
  have c0 : (0 : Int) ≤ i := by omega
  have w1 : IntKind.i64.wrap ((i : Int) + 1) = i + 1 := w64 (by omega) (by omega)
  unfold ffin fst
  rw [lh_as l_fuglemanlaw20_ConfigFinds_0.eq_1]
  simp -implicitDefEqProofs only [eqs, eqd, aCall, Sym.reach, Sym.pos, Sym.sub, ↓reduceIte, reduceCtorEq, Nat.reduceEqDiff, Nat.reduceAdd, Nat.reduceSub, Nat.reduceMul, Nat.reduceLT, Nat.reduceLeDiff, Nat.reduceBEq, Nat.reduceBNe, Nat.reduceGT, Int.reduceEq, Int.reduceLT, Int.reduceLE, Int.reduceToNat, Int.reduceAdd, Int.reduceSub, Int.reduceMul, Int.reduceNeg, Int.reduceBEq, Int.reduceBNe, nx_nil, c0, c1, w1, hx, Int.toNat_natCast, Int.natCast_add]
theorem fl_end (C : CT) (lf n : Nat) (l : List AV) (N : Nat) : ffin C lf (fst n l n) N = some ⟨.v (.bool true), [], 1⟩ := by
  have c1 : ¬ (n : Int) < n := by omega
  unfold ffin fst
  rw [lh_as l_fuglemanlaw20_ConfigFinds_0.eq_1]
  simp -implicitDefEqProofs only [eqs, eqd, aCall, Sym.reach, Sym.pos, Sym.sub, ↓reduceIte, reduceCtorEq, Nat.reduceEqDiff, Nat.reduceAdd, Nat.reduceSub, Nat.reduceMul, Nat.reduceLT, Nat.reduceLeDiff, Nat.reduceBEq, Nat.reduceBNe, Nat.reduceGT, Int.reduceEq, Int.reduceLT, Int.reduceLE, Int.reduceToNat, Int.reduceAdd, Int.reduceSub, Int.reduceMul, Int.reduceNeg, Int.reduceBEq, Int.reduceBNe, nx_nil, l_fuglemanlaw20_ConfigFinds_1, c1]
theorem fl_run (C : CT) (lf n : Nat) (hn : n ≤ 250) (l : List AV) (hl : ∀ j, j < n → ∃ x : Int, l[j]? = some (.v (.int .i64 x))) : ∀ (m i N : Nat), i + m = n → m ≤ N → ffin C lf (fst n l i) N = some ⟨.v (.bool true), [], 1⟩
  | 0, i, N, hi, hN => by
    obtain rfl : i = n := by omega
    exact fl_end C lf i l N
  | m + 1, i, N, hi, hN => by
    obtain ⟨N, rfl⟩ : ∃ M, N = M + 1 := ⟨N - 1, by omega⟩
    obtain ⟨x, hx⟩ := hl i (by omega)
    rw [fl_next C lf n hn l i (by omega) x hx N]
    exact fl_run C lf n hn l hl m (i + 1) N (by omega) (by omega)
theorem cf_all (c : Clu) (x b : Int) (st : List AV) (bo : Bool) (hst : (st = staO none ∧ bo = false) ∨ ((∃ y : Sta, st = y.av) ∧ bo = true)) (sa sb : Int) (n : Nat) (l : List AV) (hn : n ≤ 250) (hl : ∀ j, j < n → ∃ x : Int, l[j]? = some (.v (.int .i64 x)))
    (v : AV) (hv : v = .shr n false l ∨ (n = 0 ∧ v = .v (.slice none 0 0)))
    (h1 : acall T 299 7 0 [.agg c.av] [] = some ⟨.v (.bool true), [], 1⟩)
    (h2 : acall T 299 10 0 [.agg c.av, .v (.int .i64 x)] [] = some ⟨.tup [.agg st, .v (.bool bo)], [], 1⟩)
    (h3 : acall T 299 11 0 [.agg c.av, .v (.int .i64 x)] [] = some ⟨.tup [.agg st, .v (.bool bo)], [], 1⟩)
    (h4 : acall T 299 12 0 [.agg st, .agg st] [] = some ⟨.v (.bool true), [], 1⟩)
    (h5 : acall T 299 13 0 [.agg c.av] [] = some ⟨.v (.int .u32 sa), [], 1⟩)
    (h6 : acall T 299 14 0 [.agg c.av] [] = some ⟨.v (.int .u32 sa), [], 1⟩)
    (h7 : acall T 299 15 0 [.agg c.av, .v (.int .i64 b)] [] = some ⟨.v (.int .u32 sb), [], 1⟩)
    (h8 : acall T 299 16 0 [.agg c.av, .v (.int .i64 b)] [] = some ⟨.v (.int .u32 sb), [], 1⟩)
    (h9 : acall T 299 17 0 [.agg c.av, .agg st] [] = some ⟨v, [], 1⟩)
    (h10 : acall T 299 18 0 [.agg c.av, .agg st] [] = some ⟨v, [], 1⟩) :
    acall T 300 5 0 [.agg c.av, .v (.int .i64 x), .v (.int .i64 b)] [] = some ⟨.v (.bool true), [], 1⟩ := by
  have lp : ∀ (ks : List It) (s : St), Lp (acall T 299) 299 [11, 12, 68, 69] l_fuglemanlaw20_ConfigFinds_0 299 ks s = Lh (acall T 299) 299 (canon [11, 12, 68, 69] s) [11, 12, 68, 69] l_fuglemanlaw20_ConfigFinds_0 298 ks := fun ks s => lp_succ (n := 298)
  rw [acall_go (body := b_fuglemanlaw20_ConfigFinds) rfl rfl (Nat.zero_le _)]
  simp only [S25.av] at h1 h2 h3 h4 h5 h6 h7 h8 h9 h10
  rcases hst with ⟨rfl, rfl⟩ | ⟨⟨y, rfl⟩, rfl⟩
  · simp only [staO] at h2 h3 h4 h9 h10
    rcases hv with rfl | ⟨rfl, rfl⟩
    · have key := fl_run (acall T 299) 299 n hn l hl n 0 298 (by omega) (by omega)
      rw [← key]
      clear key hl
      unfold ffin fst
      simp -implicitDefEqProofs only [eqs, eqd, aCall, Sym.reach, Sym.pos, Sym.sub, ↓reduceIte, reduceCtorEq, Nat.reduceEqDiff, Nat.reduceAdd, Nat.reduceSub, Nat.reduceMul, Nat.reduceLT, Nat.reduceLeDiff, Nat.reduceBEq, Nat.reduceBNe, Nat.reduceGT, Int.reduceEq, Int.reduceLT, Int.reduceLE, Int.reduceToNat, Int.reduceAdd, Int.reduceSub, Int.reduceMul, Int.reduceNeg, Int.reduceBEq, Int.reduceBNe, b_fuglemanlaw20_ConfigFinds, awake_a, S25.av, h1, h2, h3, h4, h5, h6, h7, h8, h9, h10, lp, nx_nil, Int.natCast_zero]
    · have ly : ∀ (s : St) (ks : List It), Lh (acall T 299) 299 (some s) [11, 12, 68, 69] l_fuglemanlaw20_ConfigFinds_0 298 ks = _ := fun s ks => lh_as l_fuglemanlaw20_ConfigFinds_0.eq_1
      clear hl
      simp -implicitDefEqProofs only [eqs, eqd, aCall, Sym.reach, Sym.pos, Sym.sub, ↓reduceIte, reduceCtorEq, Nat.reduceEqDiff, Nat.reduceAdd, Nat.reduceSub, Nat.reduceMul, Nat.reduceLT, Nat.reduceLeDiff, Nat.reduceBEq, Nat.reduceBNe, Nat.reduceGT, Int.reduceEq, Int.reduceLT, Int.reduceLE, Int.reduceToNat, Int.reduceAdd, Int.reduceSub, Int.reduceMul, Int.reduceNeg, Int.reduceBEq, Int.reduceBNe, b_fuglemanlaw20_ConfigFinds, awake_a, S25.av, h1, h2, h3, h4, h5, h6, h7, h8, h9, h10, lp, nx_nil, l_fuglemanlaw20_ConfigFinds_1, ly]
  · simp only [S37.av] at h2 h3 h4 h9 h10
    rcases hv with rfl | ⟨rfl, rfl⟩
    · have key := fl_run (acall T 299) 299 n hn l hl n 0 298 (by omega) (by omega)
      rw [← key]
      clear key hl
      unfold ffin fst
      simp -implicitDefEqProofs only [eqs, eqd, aCall, Sym.reach, Sym.pos, Sym.sub, ↓reduceIte, reduceCtorEq, Nat.reduceEqDiff, Nat.reduceAdd, Nat.reduceSub, Nat.reduceMul, Nat.reduceLT, Nat.reduceLeDiff, Nat.reduceBEq, Nat.reduceBNe, Nat.reduceGT, Int.reduceEq, Int.reduceLT, Int.reduceLE, Int.reduceToNat, Int.reduceAdd, Int.reduceSub, Int.reduceMul, Int.reduceNeg, Int.reduceBEq, Int.reduceBNe, b_fuglemanlaw20_ConfigFinds, awake_a, S25.av, h1, h2, h3, h4, h5, h6, h7, h8, h9, h10, lp, nx_nil, Int.natCast_zero]
    · have ly : ∀ (s : St) (ks : List It), Lh (acall T 299) 299 (some s) [11, 12, 68, 69] l_fuglemanlaw20_ConfigFinds_0 298 ks = _ := fun s ks => lh_as l_fuglemanlaw20_ConfigFinds_0.eq_1
      clear hl
      simp -implicitDefEqProofs only [eqs, eqd, aCall, Sym.reach, Sym.pos, Sym.sub, ↓reduceIte, reduceCtorEq, Nat.reduceEqDiff, Nat.reduceAdd, Nat.reduceSub, Nat.reduceMul, Nat.reduceLT, Nat.reduceLeDiff, Nat.reduceBEq, Nat.reduceBNe, Nat.reduceGT, Int.reduceEq, Int.reduceLT, Int.reduceLE, Int.reduceToNat, Int.reduceAdd, Int.reduceSub, Int.reduceMul, Int.reduceNeg, Int.reduceBEq, Int.reduceBNe, b_fuglemanlaw20_ConfigFinds, awake_a, S25.av, h1, h2, h3, h4, h5, h6, h7, h8, h9, h10, lp, nx_nil, l_fuglemanlaw20_ConfigFinds_1, ly]
theorem fnd_mem {α : Type} (key : α → Int) (x : Int) (L : List α) (y : α) : ∀ m i, fnd key x L m i = some y → ∃ (j : Nat) (h : j < L.length), y = L[j]
  | 0, i, h => by cases h
  | m + 1, i, h => by
    rw [fnd] at h
    by_cases c : i < L.length
    · rw [dif_pos c] at h
      by_cases e : key L[i] = x
      · rw [if_pos e] at h
        exact ⟨i, c, (Option.some.inj h).symm⟩
      · rw [if_neg e] at h
        exact fnd_mem key x L y m (i + 1) h
    · rw [dif_neg c] at h
      cases h
theorem ConfigFinds : ∀ (a0 : S25) (a1 : Int) (a2 : Int), S25.In a0 → (-9223372036854775808 ≤ a1 ∧ a1 ≤ 9223372036854775807) → (-9223372036854775808 ≤ a2 ∧ a2 ≤ 9223372036854775807) → ∃ ob d, acall T 300 5 0 [.agg a0.av, .v (.int .i64 a1), .v (.int .i64 a2)] [] = some ⟨.v (.bool true), ob, d⟩ := fun c x b _ _ _ => by
  refine ⟨[], 1, ?_⟩
  rcases small_a 298 (by omega) c with h1 | ⟨h1, hL, hB, hf⟩
  · rw [acall_go (body := b_fuglemanlaw20_ConfigFinds) rfl rfl (Nat.zero_le _)]
    simp only [S25.av] at h1
    simp -implicitDefEqProofs only [eqs, eqd, aCall, Sym.reach, Sym.pos, Sym.sub, lh_some, ↓reduceIte, reduceCtorEq, Nat.reduceEqDiff, Nat.reduceAdd, Nat.reduceSub, Nat.reduceMul, Nat.reduceLT, Nat.reduceLeDiff, Nat.reduceBEq, Nat.reduceBNe, Nat.reduceGT, Int.reduceEq, Int.reduceLT, Int.reduceLE, Int.reduceToNat, Int.reduceAdd, Int.reduceSub, Int.reduceMul, Int.reduceNeg, Int.reduceBEq, Int.reduceBNe, b_fuglemanlaw20_ConfigFinds, awake_a, S25.av, h1]
  have hsm : ∀ (j : Nat) (h : j < c.f7.length), c.f7[j].f4.length ≤ 250 := fun j h => by have := (hf j h).2.1; omega
  have h2 := find_a 295 (by omega) c (by omega) x
  have h3 := rfind_a 297 (by omega) c (by omega) x
  have h5 := addrs_a 293 (by omega) c (by omega) hsm
  have h6 := raddrs_a 295 (by omega) c (by omega)
  have h7 := readers_a 293 (by omega) c (by omega) hsm b
  have h8 := rreaders_a 295 (by omega) c (by omega) hsm b
  cases hr : fnd (fun y : Sta => y.f0) x c.f7 c.f7.length 0 with
  | none =>
    rw [hr] at h2 h3
    exact cf_all c x b _ false (Or.inl ⟨rfl, rfl⟩) _ _ 0 [] (by omega) (fun j h => by omega) _ (Or.inr ⟨rfl, rfl⟩) h1 h2 h3 (same_0 296) h5 h6 h7 h8 (values_0 296 c) (rvalues_0 296 c)
  | some y =>
    rw [hr] at h2 h3
    obtain ⟨j, hj, hy⟩ := fnd_mem _ x c.f7 y _ _ hr
    have hfy : fits y := hy ▸ hf j hj
    have hy4 : y.f4.length ≤ 40 := hfy.2.1
    refine cf_all c x b y.av true (Or.inr ⟨⟨y, rfl⟩, rfl⟩) _ _ y.f4.length (vl c y.f4 y.f4.length 0) (by omega) (fun j h => vl_at c y.f4 y.f4.length 0 j (by omega) h) (vres c y.f4) ?_ h1 h2 h3 (same_a 297 (by omega) y hfy) h5 h6 h7 h8 (values_a 294 (by omega) c (by omega) y (by omega)) (rvalues_a 296 (by omega) c (by omega) y (by omega))
    unfold vres
    by_cases e : y.f4.length = 0
    · rw [if_pos e]
      exact Or.inr ⟨e, rfl⟩
    · rw [if_neg e]
      exact Or.inl rfl
end Go.Proofs.Ytcfokbhmchcgbaa.Said
