/- The law GdataComes. -/
import Derived.Test.YtkaigdfklihlcaaGCome2
import Derived.Test.YtkaigdfklihlcaaArgs
import Derived.Test.YtkaigdfklihlcaaGAwk
namespace Go.Proofs.Ytkaigdfklihlcaa.Said
open Go Go.Proofs.Ytkaigdfklihlcaa.Sym Go.Proofs.Ytkaigdfklihlcaa.Tab Go.Proofs.Ytkaigdfklihlcaa.Args Go.Proofs.Ytkaigdfklihlcaa.Blk Go.Proofs.Ytkaigdfklihlcaa.Glue Go.Proofs.Ytkaigdfklihlcaa.Refs Go.Proofs.Ytkaigdfklihlcaa.RefsT Go.Proofs.Ytkaigdfklihlcaa.GSub Go.Proofs.Ytkaigdfklihlcaa.GPub Go.Proofs.Ytkaigdfklihlcaa.GCome
set_option linter.unusedVariables false
set_option linter.unusedSimpArgs false
set_option maxHeartbeats 8000000
set_option maxRecDepth 20000
def padL (n : Nat) (s : ByteArray) : List Int := putI (List.replicate n 0) 0 ((numsOf s).take (Nat.min s.size n))
def pad (n : Nat) (s : ByteArray) : ByteArray := strOfNums (padL n s)
theorem padL_len (n : Nat) (s : ByteArray) : (padL n s).length = n := by rw [padL, putI_length, List.length_replicate]
theorem pad_size (n : Nat) (s : ByteArray) : (pad n s).size = n := by rw [pad, strOfNums_size, padL_len]
theorem strs_at : ∀ {L : List ByteArray} {j : Nat} (h : j < L.length), (L.flatMap (fun x : ByteArray => [AV.v (.string x)]))[j]? = some (.v (.string L[j]))
  | x :: L, 0, h => rfl
  | x :: L, j + 1, h => by
    have := strs_at (L := L) (j := j) (by simpa using h)
    rw [List.flatMap_cons, List.singleton_append, List.getElem?_cons_succ, this]
    rfl
theorem u8s_at : ∀ {L : List Int} {j : Nat} (h : j < L.length), (L.flatMap (fun x : Int => [AV.v (.int .u8 x)]))[j]? = some (.v (.int .u8 L[j]))
  | x :: L, 0, h => rfl
  | x :: L, j + 1, h => by
    have := u8s_at (L := L) (j := j) (by simpa using h)
    rw [List.flatMap_cons, List.singleton_append, List.getElem?_cons_succ, this]
    rfl
def lenv (n : Nat) (L : List ByteArray) (X : List Int) (last : ByteArray) (i : Nat) : Env := [(1, .shr L.length false (L.flatMap (fun x : ByteArray => [.v (.string x)]))), (2, .shr X.length false (X.flatMap (fun x : Int => [.v (.int .u8 x)]))), (7, .v (.int .i64 n)), (8, .ptr 0 0), (9, .ptr 1 0), (10, .v (.string last)), (11, .fn 10 [.ptr 0 0, .ptr 1 0]), (43, .shr L.length false (L.flatMap (fun x : ByteArray => [.v (.string x)]))), (44, .v (.int .i64 L.length)), (45, .v (.int .i64 i))]
theorem CInv.com {n : Nat} {p : Pb} {g : Gl} {tl : Tl} (h : CInv n p g tl) {s : ByteArray} (hs : s.size = n) (hb : p.seq < 900) : CInv n (p.com s) g tl ∧ (p.com s).seq = p.seq + 1 ∧ (p.com s).val = s ∧ comE p.n p.seq s = 0 := by
  have hsq := h.seq
  have c : comE p.n p.seq s = 0 := by
    unfold comE
    rw [if_neg (by rw [h.pn, hs]; simp), if_neg (by omega)]
  have e : p.com s = { p with val := s, seq := p.seq + 1 } := by unfold Pb.com; rw [if_pos c]
  rw [e]
  refine ⟨⟨h.hn, h.pn, h.inc, by show 0 ≤ p.seq + 1 ∧ p.seq + 1 ≤ 1000; omega, ⟨by show s.size ≤ 64; have := h.hn; omega, fun _ => hs⟩, h.gin, h.gl, ?_⟩, rfl, rfl, c⟩
  rcases h.way with h1 | ⟨a, b, ps, w, h2, h3, h4, h5, h6, h7, h8, h9, h10, h11, h12, h13⟩
  · exact .inl h1
  · exact .inr ⟨a, b, ps, w, h2, h3, h4, h5, h6, h7, h8, h9, by show p.wseq ≤ p.seq + 1; omega, fun e => by have e' : p.wseq = p.seq + 1 := e; omega, h12, h13⟩
theorem lstep (n : Nat) (L : List ByteArray) (hL : L.length ≤ 20) (X : List Int) (hX : L.length ≤ X.length) (hx : ∀ x ∈ X, 0 ≤ x ∧ x ≤ 255) (last : ByteArray) (i : Nat) (hi : i < L.length) (p : Pb) (g : Gl) (tl : Tl) (h : CInv n p g tl) (hs : p.seq = i) (N : Nat) (ks : List It) :
    ∃ p' g' tl', CInv n p' g' tl' ∧ p'.seq = (i + 1 : Nat) ∧ p'.val = pad n L[i] ∧
    Lh (acall T 199) 199 (some ⟨lenv n L X last i, cob p g tl true, 1, []⟩) [1, 2, 7, 8, 9, 10, 11, 43, 44, 45] l_fuglemanlaw18_GdataComes_0 (N + 1) ks = Lh (acall T 199) 199 (some ⟨lenv n L X (pad n L[i]) (i + 1), cob p' g' tl' true, 1, []⟩) [1, 2, 7, 8, 9, 10, 11, 43, 44, 45] l_fuglemanlaw18_GdataComes_0 N ks := by
  obtain ⟨h1, h2, h3, h4⟩ := CInv.com h (pad_size n L[i]) (by omega)
  have hn := h.hn
  have hXi : i < X.length := by omega
  have hxi := hx X[i] (List.getElem_mem hXi)
  obtain ⟨c, hc, hc9⟩ : ∃ c : Nat, X[i].tmod 10 = c ∧ c ≤ 9 := ⟨(X[i].tmod 10).toNat, by rw [Int.tmod_eq_emod_of_nonneg hxi.1]; omega, by rw [Int.tmod_eq_emod_of_nonneg hxi.1]; omega⟩
  obtain ⟨g', tl', h5, h6⟩ := comes_a n c (by omega) (p.com (pad n L[i])) g tl h1 (by omega)
  obtain ⟨q1, q2⟩ := advs_seq c (p.com (pad n L[i]))
  refine ⟨_, g', tl', h5, by rw [q1, h2, hs]; omega, by rw [q2, h3], ?_⟩
  have hcm := commit_a 198 p (pad n L[i]) (by have := h.seq; omega)
  rw [h4] at hcm
  generalize advs c (p.com (pad n L[i])) = p'' at *
  generalize p.com (pad n L[i]) = p' at *
  have c1 : (i : Int) < L.length := by omega
  have c2 : (i : Int) < X.length := by omega
  have c0 : (0 : Int) ≤ i := by omega
  have w5 : IntKind.i64.wrap ((i : Int) + 1) = i + 1 := w64 (by omega) (by omega)
  have w6 : IntKind.i64.wrap (c : Int) = c := w64 (by omega) (by omega)
  have hat := strs_at hi
  have hax := u8s_at hXi
  have n1 : (0 : Int) ≤ n := by omega
  have n2 : n ≤ 140737488355328 := by omega
  have n3 : n ≤ 9223372036854775807 := by omega
  have n4 : (n : Int) ≤ n := Int.le_refl _
  have p1 : (padL n L[i]).take n = padL n L[i] := List.take_of_length_le (by rw [padL_len]; exact Nat.le_refl _)
  have p2 := padL_len n L[i]
  generalize X[i] = x at *
  simp only [pad] at hcm ⊢
  simp only [padL] at hcm p1 p2 ⊢
  generalize L[i] = s at *
  unfold Pb.o at hcm
  simp only [cob, Pb.o, sO, gK, Gl.b] at h6
  rw [lh_as l_fuglemanlaw18_GdataComes_0.eq_1]
  simp -implicitDefEqProofs only [eqs, Sym.wants, Sym.get, Sym.ev, Sym.evs, Sym.evO, Sym.evP, Sym.put, Sym.lev, Sym.aq, Sym.ae, aBin, aInt, isShift, aEqB, aEqP, aEqS, leavesEq, leafEq, aUn, Sym.rd, aLoad, aField, aFad, aNilck, asI, aIxS, aIxA, aIxV, aExt, aPick, aCvi, aCvs, aLen, aLenS, aMin2, aMax2, aFold, aFoldL, bnd, aSlStr, aSlS, fillL, newO, kill, aStore, putL, getO, cellsOf, Sym.elems, Sym.elemsS, aApp, aCpy, aClr, Sym.reps, aCall, aCallQ, finishCall, Sym.refs, Sym.refs1, Sym.refs0, okv, ok1, Sym.atom, flat0, dedup, Sym.reach, Sym.pos, Sym.sub, renO, Sym.ren, Sym.ren1, Sym.ren0, gmap, mergeOld, mergeNew, mergeO, allFresh, Sym.det, Sym.det0, Sym.canon, keepEnv, aRes, Sym.one, frzM, frz1, frz0, frzL, args0, dead0, aCallM, aopM_s, if_true, if_false, ite_true, ite_false, reduceIte, reduceCtorEq, Nat.reduceEqDiff, ne_eq, Nat.reduceAdd, Nat.reduceSub, Nat.reduceMul, Nat.reduceLT, Nat.reduceLeDiff, Nat.reduceBEq, Nat.reduceBNe, Nat.reduceGT, Int.reduceEq, Int.reduceLT, Int.reduceLE, Int.reduceToNat, Int.reduceAdd, Int.reduceSub, Int.reduceMul, Int.reduceNeg, Int.reduceBEq, Int.reduceBNe, lenv, cob, Pb.o, sO, gK, Gl.b, c0, c1, c2, w5, w6, hat, hax, hc, hcm, h6, n1, n2, n3, n4, p1, p2, reps_bytes, List.length_replicate, Int.toNat_natCast, Int.natCast_add]
theorem lloop (n : Nat) (L : List ByteArray) (hL : L.length ≤ 20) (X : List Int) (hX : L.length ≤ X.length) (hx : ∀ x ∈ X, 0 ≤ x ∧ x ≤ 255) (fin : ∀ (p : Pb) (g : Gl) (tl : Tl) (last : ByteArray), CInv n p g tl → p.seq = L.length → (0 < L.length → p.val = last) →
    FnR [.t 6] false false (Go (acall T 199) 199 l_fuglemanlaw18_GdataComes_1 [] ⟨(46, .v (.bool false)) :: lenv n L X last L.length, cob p g tl true, 1, []⟩) = some ⟨.v (.bool true), [], 1⟩) :
    ∀ (m N i : Nat) (last : ByteArray) (p : Pb) (g : Gl) (tl : Tl), i + m = L.length → m ≤ N → CInv n p g tl → p.seq = i → (0 < i → p.val = last) →
    FnR [.t 6] false false (Lh (acall T 199) 199 (some ⟨lenv n L X last i, cob p g tl true, 1, []⟩) [1, 2, 7, 8, 9, 10, 11, 43, 44, 45] l_fuglemanlaw18_GdataComes_0 N [.b 0, .c l_fuglemanlaw18_GdataComes_1]) = some ⟨.v (.bool true), [], 1⟩
  | 0, N, i, last, p, g, tl, hi, hN, h, hs, hv => by
    obtain rfl : i = L.length := by omega
    have hf := fin p g tl last h hs hv
    have c : ¬ (L.length : Int) < L.length := by omega
    rw [lh_as l_fuglemanlaw18_GdataComes_0.eq_1]
    rw [← hf]
    simp -implicitDefEqProofs only [eqs, Sym.wants, Sym.get, Sym.ev, Sym.evs, Sym.evO, Sym.evP, Sym.put, Sym.lev, Sym.aq, Sym.ae, aBin, aInt, isShift, aEqB, aEqP, aEqS, leavesEq, leafEq, aUn, Sym.rd, aLoad, aField, aFad, aNilck, asI, aIxS, aIxA, aIxV, aExt, aPick, aCvi, aCvs, aLen, aLenS, aMin2, aMax2, aFold, aFoldL, bnd, aSlStr, aSlS, fillL, newO, kill, aStore, putL, getO, cellsOf, Sym.elems, Sym.elemsS, aApp, aCpy, aClr, Sym.reps, aCall, aCallQ, finishCall, Sym.refs, Sym.refs1, Sym.refs0, okv, ok1, Sym.atom, flat0, dedup, Sym.reach, Sym.pos, Sym.sub, renO, Sym.ren, Sym.ren1, Sym.ren0, gmap, mergeOld, mergeNew, mergeO, allFresh, Sym.det, Sym.det0, Sym.canon, keepEnv, aRes, Sym.one, frzM, frz1, frz0, frzL, args0, dead0, aCallM, aopM_s, if_true, if_false, ite_true, ite_false, reduceIte, reduceCtorEq, Nat.reduceEqDiff, ne_eq, Nat.reduceAdd, Nat.reduceSub, Nat.reduceMul, Nat.reduceLT, Nat.reduceLeDiff, Nat.reduceBEq, Nat.reduceBNe, Nat.reduceGT, Int.reduceEq, Int.reduceLT, Int.reduceLE, Int.reduceToNat, Int.reduceAdd, Int.reduceSub, Int.reduceMul, Int.reduceNeg, Int.reduceBEq, Int.reduceBNe, lenv, cob, Pb.o, sO, gK, Gl.b, c]
  | m + 1, N, i, last, p, g, tl, hi, hN, h, hs, hv => by
    obtain ⟨N, rfl⟩ : ∃ n', N = n' + 1 := ⟨N - 1, by omega⟩
    obtain ⟨p', g', tl', h', hs', hv', e⟩ := lstep n L hL X hX hx last i (by omega) p g tl h hs N [.b 0, .c l_fuglemanlaw18_GdataComes_1]
    rw [e]
    exact lloop n L hL X hX hx fin m N (i + 1) _ p' g' tl' (by omega) (by omega) h' hs' (fun _ => hv')
theorem fin_a (n : Nat) (hn : 1 ≤ n ∧ n ≤ 64) (L : List ByteArray) (hL : 1 ≤ L.length ∧ L.length ≤ 20) (X : List Int) (p : Pb) (g : Gl) (tl : Tl) (last : ByteArray) (h : CInv n p g tl) (hs : p.seq = L.length) (hv : 0 < L.length → p.val = last) :
    FnR [.t 6] false false (Go (acall T 199) 199 l_fuglemanlaw18_GdataComes_1 [] ⟨(46, .v (.bool false)) :: lenv n L X last L.length, cob p g tl true, 1, []⟩) = some ⟨.v (.bool true), [], 1⟩ := by
  have hv := hv (by omega)
  obtain ⟨b, hb, hb4⟩ : ∃ b : Nat, p.left = b ∧ b ≤ 4 := by
    have hpl := parts_le n
    rcases h.way with ⟨h1, h2, h3, h4, h5⟩ | ⟨a, b, ps, w, h2, h3, h4, _⟩
    · exact ⟨0, h3, by omega⟩
    · exact ⟨b, h3, by omega⟩
  have hpn : parts n = ((n : Int) + 15) / 16 := by unfold parts; rw [if_neg (by omega)]
  obtain ⟨m, hm, hm4⟩ : ∃ m : Nat, parts n = (m + 1 : Nat) ∧ m + 1 ≤ 4 := ⟨(parts n).toNat - 1, by omega, by omega⟩
  have hle := left_a 198 p
  obtain ⟨g1, tl1, i1, c1⟩ := comes_a n b (by omega) p g tl h (by omega)
  obtain ⟨l1, l2⟩ := advs_left b p hb
  obtain ⟨s1, s2⟩ := advs_seq b p
  generalize advs b p = p1 at *
  obtain ⟨g2, tl2, i2, c2⟩ := comes_a n (m + 1) (by omega) p1 g1 tl1 i1 (by omega)
  obtain ⟨l3, l4⟩ := advs_new p1 l1 m (by rw [i1.pn]; exact hm)
  obtain ⟨s3, s4⟩ := advs_seq (m + 1) p1
  generalize advs (m + 1) p1 = p2 at *
  have ht : tl2.is = true ∧ tl2.behind = last ∧ tl2.tinc = 1 ∧ tl2.tseq = L.length := by
    rcases i2.way with ⟨_, _, _, w4, _⟩ | ⟨a, b', ps, w, _, hb', _, _, _, _, _, _, _, w10, hps, hps2⟩
    · omega
    · have : b' = 0 := by omega
      subst this
      have hpe : ps = [] := by rcases hps with e | e; exact e; exact e
      obtain ⟨t1, t2, t3, t4⟩ := hps2 hpe
      have e1 := w10 (by omega)
      exact ⟨t1, by rw [t2, e1, s4, s2, hv], t3, by rw [t4, l4, s1, hs]⟩
  obtain ⟨t1, t2, t3, t4⟩ := ht
  have hlt := latch_a 198 tl2 g2
  have hfr := front_a 198 (Tl.latch tl2) g2
  have elt : Tl.latch tl2 = { front := last, behind := ByteArray.empty, ainc := 1, aseq := L.length, tinc := 0, tseq := 0, is := false, fault := tl2.fault } := by unfold Tl.latch; rw [if_pos t1, t2, t3, t4]
  rw [elt] at hlt hfr
  rw [t1] at hlt
  have w3 : IntKind.i64.wrap ((n : Int) + 15) = n + 15 := w64 (by omega) (by omega)
  have w4 : ((n : Int) + 15).tdiv 16 = (m + 1 : Nat) := by rw [Int.tdiv_eq_ediv_of_nonneg (by omega)]; omega
  have w5 : IntKind.i64.wrap ((m + 1 : Nat) : Int) = (m + 1 : Nat) := w64 (by omega) (by omega)
  have w6 : IntKind.u32.wrap (L.length : Int) = L.length := wu32 (by omega) (by omega)
  generalize hM : m + 1 = M at *
  simp only [sob, sO, gK, Gl.b, t1, t2, t3, t4] at hlt hfr
  simp only [cob, Pb.o, sO, gK, Gl.b] at c1 c2
  simp only [Pb.o, hb] at hle
  simp only [hb] at c1
  simp -implicitDefEqProofs only [eqs, Sym.wants, Sym.get, Sym.ev, Sym.evs, Sym.evO, Sym.evP, Sym.put, Sym.lev, Sym.aq, Sym.ae, aBin, aInt, isShift, aEqB, aEqP, aEqS, leavesEq, leafEq, aUn, Sym.rd, aLoad, aField, aFad, aNilck, asI, aIxS, aIxA, aIxV, aExt, aPick, aCvi, aCvs, aLen, aLenS, aMin2, aMax2, aFold, aFoldL, bnd, aSlStr, aSlS, fillL, newO, kill, aStore, putL, getO, cellsOf, Sym.elems, Sym.elemsS, aApp, aCpy, aClr, Sym.reps, aCall, aCallQ, finishCall, Sym.refs, Sym.refs1, Sym.refs0, okv, ok1, Sym.atom, flat0, dedup, Sym.reach, Sym.pos, Sym.sub, renO, Sym.ren, Sym.ren1, Sym.ren0, gmap, mergeOld, mergeNew, mergeO, allFresh, Sym.det, Sym.det0, Sym.canon, keepEnv, aRes, Sym.one, frzM, frz1, frz0, frzL, args0, dead0, aCallM, aopM_s, if_true, if_false, ite_true, ite_false, reduceIte, reduceCtorEq, Nat.reduceEqDiff, ne_eq, Nat.reduceAdd, Nat.reduceSub, Nat.reduceMul, Nat.reduceLT, Nat.reduceLeDiff, Nat.reduceBEq, Nat.reduceBNe, Nat.reduceGT, Int.reduceEq, Int.reduceLT, Int.reduceLE, Int.reduceToNat, Int.reduceAdd, Int.reduceSub, Int.reduceMul, Int.reduceNeg, Int.reduceBEq, Int.reduceBNe, l_fuglemanlaw18_GdataComes_1, lenv, cob, Pb.o, sO, gK, Gl.b, hb, hle, c1, c2, hlt, hfr, t1, t2, t3, t4, w3, w4, w5, w6]
theorem GdataComes : ∀ (a0 : Int) (a1 : List (ByteArray)) (a2 : List (Int)), (0 ≤ a0 ∧ a0 ≤ 255) → (a1.length ≤ 140737488351232 ∧ ∀ (i0 : Nat) x0, a1[i0]? = some x0 → x0.size ≤ 140737488351232) → (a2.length ≤ 140737488351232 ∧ ∀ (i0 : Nat) x0, a2[i0]? = some x0 → (0 ≤ x0 ∧ x0 ≤ 255)) → ∃ ob d, acall T 200 3 0 [.v (.int .u8 a0), .shr a1.length false (a1.flatMap (fun x : ByteArray => [.v (.string x)])), .shr a2.length false (a2.flatMap (fun x : Int => [.v (.int .u8 x)]))] [] = some ⟨.v (.bool true), ob, d⟩ := by
  intro a0 L X h0 h1 h2
  refine ⟨[], 1, ?_⟩
  have hx : ∀ x ∈ X, 0 ≤ x ∧ x ≤ 255 := fun x hx => by
    obtain ⟨i, hi⟩ := List.mem_iff_getElem?.1 hx
    exact h2.2 i x hi
  rw [acall_go (k := 199) (body := b_fuglemanlaw18_GdataComes) rfl rfl (Nat.zero_le _)]
  have hw := GAwk.awake_a
  have w1 : IntKind.i64.wrap a0 = a0 := w64 (by omega) (by omega)
  obtain ⟨n, hn, hn1⟩ : ∃ n : Nat, IntKind.i64.wrap (1 + a0.tmod 64) = n ∧ (1 ≤ n ∧ n ≤ 64) := by
    have e : a0.tmod 64 = a0 % 64 := Int.tmod_eq_emod_of_nonneg h0.1
    refine ⟨(1 + a0 % 64).toNat, ?_, by omega⟩
    rw [e, w64 (by omega) (by omega)]
    omega
  by_cases c1 : L.length < 1
  · have c1' : (L.length : Int) < 1 := by omega
    simp -implicitDefEqProofs only [eqs, Sym.wants, Sym.get, Sym.ev, Sym.evs, Sym.evO, Sym.evP, Sym.put, Sym.lev, Sym.aq, Sym.ae, aBin, aInt, isShift, aEqB, aEqP, aEqS, leavesEq, leafEq, aUn, Sym.rd, aLoad, aField, aFad, aNilck, asI, aIxS, aIxA, aIxV, aExt, aPick, aCvi, aCvs, aLen, aLenS, aMin2, aMax2, aFold, aFoldL, bnd, aSlStr, aSlS, fillL, newO, kill, aStore, putL, getO, cellsOf, Sym.elems, Sym.elemsS, aApp, aCpy, aClr, Sym.reps, aCall, aCallQ, finishCall, Sym.refs, Sym.refs1, Sym.refs0, okv, ok1, Sym.atom, flat0, dedup, Sym.reach, Sym.pos, Sym.sub, renO, Sym.ren, Sym.ren1, Sym.ren0, gmap, mergeOld, mergeNew, mergeO, allFresh, Sym.det, Sym.det0, Sym.canon, keepEnv, aRes, Sym.one, frzM, frz1, frz0, frzL, args0, dead0, aCallM, aopM_s, if_true, if_false, ite_true, ite_false, reduceIte, reduceCtorEq, Nat.reduceEqDiff, ne_eq, Nat.reduceAdd, Nat.reduceSub, Nat.reduceMul, Nat.reduceLT, Nat.reduceLeDiff, Nat.reduceBEq, Nat.reduceBNe, Nat.reduceGT, Int.reduceEq, Int.reduceLT, Int.reduceLE, Int.reduceToNat, Int.reduceAdd, Int.reduceSub, Int.reduceMul, Int.reduceNeg, Int.reduceBEq, Int.reduceBNe, b_fuglemanlaw18_GdataComes, hw, w1, hn, c1']
  have c1' : ¬ (L.length : Int) < 1 := by omega
  by_cases c2 : 20 < L.length
  · have c2' : (20 : Int) < L.length := by omega
    simp -implicitDefEqProofs only [eqs, Sym.wants, Sym.get, Sym.ev, Sym.evs, Sym.evO, Sym.evP, Sym.put, Sym.lev, Sym.aq, Sym.ae, aBin, aInt, isShift, aEqB, aEqP, aEqS, leavesEq, leafEq, aUn, Sym.rd, aLoad, aField, aFad, aNilck, asI, aIxS, aIxA, aIxV, aExt, aPick, aCvi, aCvs, aLen, aLenS, aMin2, aMax2, aFold, aFoldL, bnd, aSlStr, aSlS, fillL, newO, kill, aStore, putL, getO, cellsOf, Sym.elems, Sym.elemsS, aApp, aCpy, aClr, Sym.reps, aCall, aCallQ, finishCall, Sym.refs, Sym.refs1, Sym.refs0, okv, ok1, Sym.atom, flat0, dedup, Sym.reach, Sym.pos, Sym.sub, renO, Sym.ren, Sym.ren1, Sym.ren0, gmap, mergeOld, mergeNew, mergeO, allFresh, Sym.det, Sym.det0, Sym.canon, keepEnv, aRes, Sym.one, frzM, frz1, frz0, frzL, args0, dead0, aCallM, aopM_s, if_true, if_false, ite_true, ite_false, reduceIte, reduceCtorEq, Nat.reduceEqDiff, ne_eq, Nat.reduceAdd, Nat.reduceSub, Nat.reduceMul, Nat.reduceLT, Nat.reduceLeDiff, Nat.reduceBEq, Nat.reduceBNe, Nat.reduceGT, Int.reduceEq, Int.reduceLT, Int.reduceLE, Int.reduceToNat, Int.reduceAdd, Int.reduceSub, Int.reduceMul, Int.reduceNeg, Int.reduceBEq, Int.reduceBNe, b_fuglemanlaw18_GdataComes, hw, w1, hn, c1', c2']
  have c2' : ¬ (20 : Int) < L.length := by omega
  by_cases c3 : X.length < L.length
  · have c3' : (X.length : Int) < L.length := by omega
    simp -implicitDefEqProofs only [eqs, Sym.wants, Sym.get, Sym.ev, Sym.evs, Sym.evO, Sym.evP, Sym.put, Sym.lev, Sym.aq, Sym.ae, aBin, aInt, isShift, aEqB, aEqP, aEqS, leavesEq, leafEq, aUn, Sym.rd, aLoad, aField, aFad, aNilck, asI, aIxS, aIxA, aIxV, aExt, aPick, aCvi, aCvs, aLen, aLenS, aMin2, aMax2, aFold, aFoldL, bnd, aSlStr, aSlS, fillL, newO, kill, aStore, putL, getO, cellsOf, Sym.elems, Sym.elemsS, aApp, aCpy, aClr, Sym.reps, aCall, aCallQ, finishCall, Sym.refs, Sym.refs1, Sym.refs0, okv, ok1, Sym.atom, flat0, dedup, Sym.reach, Sym.pos, Sym.sub, renO, Sym.ren, Sym.ren1, Sym.ren0, gmap, mergeOld, mergeNew, mergeO, allFresh, Sym.det, Sym.det0, Sym.canon, keepEnv, aRes, Sym.one, frzM, frz1, frz0, frzL, args0, dead0, aCallM, aopM_s, if_true, if_false, ite_true, ite_false, reduceIte, reduceCtorEq, Nat.reduceEqDiff, ne_eq, Nat.reduceAdd, Nat.reduceSub, Nat.reduceMul, Nat.reduceLT, Nat.reduceLeDiff, Nat.reduceBEq, Nat.reduceBNe, Nat.reduceGT, Int.reduceEq, Int.reduceLT, Int.reduceLE, Int.reduceToNat, Int.reduceAdd, Int.reduceSub, Int.reduceMul, Int.reduceNeg, Int.reduceBEq, Int.reduceBNe, b_fuglemanlaw18_GdataComes, hw, w1, hn, c1', c2', c3']
  have c3' : ¬ (X.length : Int) < L.length := by omega
  have hnew := newsub_a 196 n ByteArray.empty (by omega) (Nat.zero_le _)
  have hpub := newpub_a 197 n 1 (by omega)
  have h00 : CInv n (Pb.new n 1) (gl0 n) (tl0 n ByteArray.empty) := ⟨hn1, rfl, rfl, ⟨Int.le_refl 0, by show (0 : Int) ≤ 1000; decide⟩, ⟨Nat.zero_le _, fun h => absurd h (by show ¬ (0 : Int) < 0; decide)⟩, ⟨⟨Int.le_refl 0, by show (0 : Int) ≤ 1000; decide⟩, by show (List.replicate ((n : Int).toNat) (0 : Int)).length ≤ 64; rw [List.length_replicate]; omega⟩, by show (List.replicate ((n : Int).toNat) (0 : Int)).length = n; rw [List.length_replicate]; omega, .inl ⟨rfl, rfl, rfl, rfl, rfl⟩⟩
  have ho := lloop n L (by omega) X (by omega) hx (fun p g tl last => fin_a n hn1 L (by omega) X p g tl last) L.length 198 0 ByteArray.empty (Pb.new n 1) (gl0 n) (tl0 n ByteArray.empty) (by omega) (by omega) h00 rfl (fun h => absurd h (by decide))
  have lp : ∀ (ks : List It) (s : St), Lp (acall T 199) 199 [1, 2, 7, 8, 9, 10, 11, 43, 44, 45] l_fuglemanlaw18_GdataComes_0 199 ks s = Lh (acall T 199) 199 (canon [1, 2, 7, 8, 9, 10, 11, 43, 44, 45] s) [1, 2, 7, 8, 9, 10, 11, 43, 44, 45] l_fuglemanlaw18_GdataComes_0 198 ks := fun ks s => lp_succ (n := 198)
  generalize tl0 n ByteArray.empty = tl at *
  generalize gl0 n = g at *
  simp only [lenv, cob, sO, gK, Gl.b, Pb.o, Pb.new, Int.natCast_zero] at ho hnew hpub
  simp -implicitDefEqProofs only [eqs, Sym.wants, Sym.get, Sym.ev, Sym.evs, Sym.evO, Sym.evP, Sym.put, Sym.lev, Sym.aq, Sym.ae, aBin, aInt, isShift, aEqB, aEqP, aEqS, leavesEq, leafEq, aUn, Sym.rd, aLoad, aField, aFad, aNilck, asI, aIxS, aIxA, aIxV, aExt, aPick, aCvi, aCvs, aLen, aLenS, aMin2, aMax2, aFold, aFoldL, bnd, aSlStr, aSlS, fillL, newO, kill, aStore, putL, getO, cellsOf, Sym.elems, Sym.elemsS, aApp, aCpy, aClr, Sym.reps, aCall, aCallQ, finishCall, Sym.refs, Sym.refs1, Sym.refs0, okv, ok1, Sym.atom, flat0, dedup, Sym.reach, Sym.pos, Sym.sub, renO, Sym.ren, Sym.ren1, Sym.ren0, gmap, mergeOld, mergeNew, mergeO, allFresh, Sym.det, Sym.det0, Sym.canon, keepEnv, aRes, Sym.one, frzM, frz1, frz0, frzL, args0, dead0, aCallM, aopM_s, if_true, if_false, ite_true, ite_false, reduceIte, reduceCtorEq, Nat.reduceEqDiff, ne_eq, Nat.reduceAdd, Nat.reduceSub, Nat.reduceMul, Nat.reduceLT, Nat.reduceLeDiff, Nat.reduceBEq, Nat.reduceBNe, Nat.reduceGT, Int.reduceEq, Int.reduceLT, Int.reduceLE, Int.reduceToNat, Int.reduceAdd, Int.reduceSub, Int.reduceMul, Int.reduceNeg, Int.reduceBEq, Int.reduceBNe, b_fuglemanlaw18_GdataComes, hw, w1, hn, c1', c2', c3', hnew, hpub, lp, ho, Refs.emp]
end Go.Proofs.Ytkaigdfklihlcaa.Said
