/- The law GdataPublishes. -/
import Derived.Test.YtkaigdfklihlcaaGRef
import Derived.Test.YtkaigdfklihlcaaArgs
import Derived.Test.YtkaigdfklihlcaaGAwk
namespace Go.Proofs.Ytkaigdfklihlcaa.Said
open Go Go.Proofs.Ytkaigdfklihlcaa.Sym Go.Proofs.Ytkaigdfklihlcaa.Tab Go.Proofs.Ytkaigdfklihlcaa.Args Go.Proofs.Ytkaigdfklihlcaa.Blk Go.Proofs.Ytkaigdfklihlcaa.Glue Go.Proofs.Ytkaigdfklihlcaa.Spl Go.Proofs.Ytkaigdfklihlcaa.GPub
set_option linter.unusedVariables false
set_option linter.unusedSimpArgs false
set_option maxHeartbeats 8000000
set_option maxRecDepth 20000
/-- The two go side by side. -/
structure PInv (p : Pb) (w : Rp) (nil : Bool) (l : List Fr) : Prop where
  hn : 1 ≤ p.n ∧ p.n ≤ 64
  wn : w.n = p.n
  wi : w.inc = p.inc
  ws : w.seq = p.seq
  wl : w.last = p.val
  seq : 0 ≤ p.seq ∧ p.seq ≤ 4294967295
  vs : (0 < p.seq → (p.val.size : Int) = p.n) ∧ p.val.size ≤ 64
  way : ∃ a b : Nat, p.nx = a ∧ p.left = b ∧ a + b ≤ 4 ∧ (b ≠ 0 → (p.wval.size : Int) = p.n) ∧ l = tail (verF p.winc p.wseq) p.wval b a ∧ p.wval.size ≤ 64
  nil : nil = true → l = []
theorem tail_len (g : Fr) (s : ByteArray) : ∀ n i, (tail g s n i).length = n
  | 0, i => rfl
  | n + 1, i => by rw [tail, List.length_cons, tail_len g s n]
theorem PInv.left {p : Pb} {w : Rp} {nil : Bool} {l : List Fr} (h : PInv p w nil l) : p.left = l.length := by
  obtain ⟨a, b, h1, h2, h3, h4, h5, h6⟩ := h.way
  rw [h5, tail_len, h2]
theorem PInv.pin {p : Pb} {w : Rp} {nil : Bool} {l : List Fr} (h : PInv p w nil l) : p.In := by
  obtain ⟨a, b, h1, h2, h3, h4, h5, h6⟩ := h.way
  exact ⟨h.hn, by omega, by omega, h.vs.2, h6⟩
theorem PInv.new (n inc : Int) (hn : 1 ≤ n ∧ n ≤ 64) : PInv (Pb.new n inc) ⟨n, inc, 0, ByteArray.empty⟩ true [] where
  hn := hn
  wn := rfl
  wi := rfl
  ws := rfl
  wl := rfl
  seq := ⟨Int.le_refl 0, by show (0 : Int) ≤ 4294967295; decide⟩
  vs := ⟨fun h => absurd h (by show ¬ (0 : Int) < 0; decide), Nat.zero_le _⟩
  way := ⟨0, 0, rfl, rfl, by decide, fun h => absurd rfl h, rfl, Nat.zero_le _⟩
  nil := fun _ => rfl
theorem PInv.com {p : Pb} {w : Rp} {nil : Bool} {l : List Fr} (h : PInv p w nil l) (s : ByteArray) : PInv (p.com s) (w.com s) nil l ∧ comE w.n w.seq s = comE p.n p.seq s := by
  refine ⟨?_, by rw [h.wn, h.ws]⟩
  unfold Pb.com Rp.com
  rw [h.wn, h.ws]
  by_cases c : comE p.n p.seq s = 0
  · rw [if_pos c, if_pos c]
    have hn := h.hn
    have hs := h.seq
    have c1 : (s.size : Int) = p.n ∧ p.seq ≠ 4294967295 := by
      unfold comE at c
      split at c
      · omega
      · split at c
        · omega
        · omega
    exact { hn := h.hn, wn := rfl, wi := h.wi, ws := rfl, wl := rfl, seq := by show 0 ≤ p.seq + 1 ∧ p.seq + 1 ≤ 4294967295; omega, vs := ⟨fun _ => c1.1, by show s.size ≤ 64; omega⟩, way := h.way, nil := h.nil }
  · rw [if_neg c, if_neg c]
    exact h
theorem PInv.next {p : Pb} {w : Rp} {nil : Bool} {l : List Fr} (h : PInv p w nil l) (hs : 0 < p.seq) (k : Nat) : ∃ l', acall T (k + 40) 25 1 [.ptr 0 0] [w.o (wayA nil l) false] = some ⟨.tup [.agg (frP p.beg).c, .v (.bool true)], [w.o (wayA false l') false], 2⟩ ∧ PInv p.adv w false l' := by
  obtain ⟨a, b, h1, h2, h3, h4, h5, h6⟩ := h.way
  have hws : w.seq ≠ 0 := by rw [h.ws]; omega
  have hvs := h.vs.1 hs
  have hp : 1 ≤ parts p.n ∧ parts p.n ≤ 4 := by have := h.hn; unfold parts; split <;> omega
  cases b with
  | zero =>
    subst h5
    have hpb : p.beg = { p with wval := p.val, winc := p.inc, wseq := p.seq, nx := 0, left := parts p.n } := by unfold Pb.beg; rw [if_pos (by omega)]
    have hsp : split (verF w.inc w.seq) w.last = fr (verF p.inc p.seq) p.val 0 :: tail (verF p.inc p.seq) p.val ((parts p.n).toNat - 1) 1 := by
      rw [h.wi, h.ws, h.wl]
      have : (parts p.val.size).toNat = ((parts p.n).toNat - 1) + 1 := by rw [hvs]; omega
      unfold split
      rw [this]
      rfl
    have hr := rnext_new k w nil _ _ hws (by rw [h.wl]; have := h.vs.2; omega) hsp
    have hf : frP p.beg = fr (verF p.inc p.seq) p.val 0 := by
      rw [hpb]
      show ({ verF p.inc p.seq with kind := 4, part := 0, np := parts p.n, b := cut p.val 0 } : Fr) = _
      rw [← hvs]
      rfl
    refine ⟨_, by rw [hf]; exact hr, ?_⟩
    unfold Pb.adv
    rw [hpb]
    exact { hn := h.hn, wn := h.wn, wi := h.wi, ws := h.ws, wl := h.wl, seq := h.seq, vs := h.vs, way := ⟨1, (parts p.n).toNat - 1, rfl, by show parts p.n - 1 = _; omega, by omega, fun _ => hvs, rfl, h.vs.2⟩, nil := fun h => by cases h }
  | succ b =>
    have hpb : p.beg = p := by unfold Pb.beg; rw [if_neg (by omega)]
    have hwv := h4 (by omega)
    have hl : l = fr (verF p.winc p.wseq) p.wval a :: tail (verF p.winc p.wseq) p.wval b (a + 1) := h5
    have hnil : nil = false := by
      cases hn : nil with
      | false => rfl
      | true => have := h.nil hn; rw [hl] at this; cases this
    subst hnil
    have hf : frP p.beg = fr (verF p.winc p.wseq) p.wval a := by
      rw [hpb]
      show ({ verF p.winc p.wseq with kind := 4, part := p.nx, np := parts p.n, b := cut p.wval p.nx } : Fr) = _
      rw [← hwv, h1]
      rfl
    have hr := rnext_more k w (fr (verF p.winc p.wseq) p.wval a) (tail (verF p.winc p.wseq) p.wval b (a + 1)) hws
    rw [← hl] at hr
    refine ⟨_, by rw [hf]; exact hr, ?_⟩
    unfold Pb.adv
    rw [hpb]
    exact { hn := h.hn, wn := h.wn, wi := h.wi, ws := h.ws, wl := h.wl, seq := h.seq, vs := h.vs, way := ⟨a + 1, b, by show p.nx + 1 = _; omega, by show p.left - 1 = _; omega, by omega, fun _ => hwv, rfl, h6⟩, nil := fun h => by cases h }
def penv (inc : Int) (L : List ByteArray) (i : Nat) : Env := [(1, .v (.int .u16 inc)), (7, .ptr 0 0), (10, .ptr 1 0), (60, .shr L.length false (L.flatMap (fun x : ByteArray => [.v (.string x)]))), (61, .v (.int .i64 L.length)), (62, .v (.int .i64 i))]
theorem strs_at : ∀ {L : List ByteArray} {j : Nat} (h : j < L.length), (L.flatMap (fun x : ByteArray => [AV.v (.string x)]))[j]? = some (.v (.string L[j]))
  | x :: L, 0, h => rfl
  | x :: L, j + 1, h => by
    have := strs_at (L := L) (j := j) (by simpa using h)
    rw [List.flatMap_cons, List.singleton_append, List.getElem?_cons_succ, this]
    rfl
theorem frP_c (q : Pb) : (frP q).c = [.v (.int .i64 4), .v (.int .u8 0), .v (.int .u8 0), .v (.int .u16 0), .v (.int .u16 0), .v (.int .u16 0), .v (.int .u8 0), .v (.int .u16 0), .v (.int .u16 0), .v (.int .u16 0), .v (.int .u8 0), .v (.int .u16 0), .v (.bool false), .v (.int .u8 0), .v (.int .u16 q.winc), .v (.int .u32 q.wseq), .v (.int .u8 q.nx), .v (.int .u8 (parts q.n)), .v (.string (cut q.wval q.nx))] := rfl
theorem zeroF_c : zeroF.c = [.v (.int .i64 0), .v (.int .u8 0), .v (.int .u8 0), .v (.int .u16 0), .v (.int .u16 0), .v (.int .u16 0), .v (.int .u8 0), .v (.int .u16 0), .v (.int .u16 0), .v (.int .u16 0), .v (.int .u8 0), .v (.int .u16 0), .v (.bool false), .v (.int .u8 0), .v (.int .u16 0), .v (.int .u32 0), .v (.int .u8 0), .v (.int .u8 0), .v (.string ByteArray.empty)] := rfl
/-- A commit. -/
theorem pstepC (inc : Int) (L : List ByteArray) (hL : L.length ≤ 80) (i : Nat) (hi : i < L.length) (hb : L[i].size ≤ 100) (hne : L[i] ≠ ByteArray.empty) {p p' : Pb} {w w' : Rp} {nil : Bool} {l : List Fr} (e : Int)
    (h1 : acall T 199 13 1 [.ptr 0 0, .v (.string L[i])] [p.o false] = some ⟨.v (.int .i64 e), [p'.o false], 2⟩)
    (h2 : acall T 199 24 1 [.ptr 0 0, .v (.string L[i])] [w.o (wayA nil l) false] = some ⟨.v (.int .i64 e), [w'.o (wayA nil l) false], 2⟩) (hv : PInv p' w' nil l) (hinc : p'.inc = inc) (N : Nat) (ks : List It) (hk : 0 < p'.seq ∨ p'.seq = 0 ∧ p'.val = ByteArray.empty) :
    Lh (acall T 199) 199 (some ⟨penv inc L i, [p.o true, w.o (wayA nil l) true], 1, []⟩) [1, 7, 10, 60, 61, 62] l_fuglemanlaw18_GdataPublishes_0 (N + 1) ks = Lh (acall T 199) 199 (some ⟨penv inc L (i + 1), [p'.o true, w'.o (wayA nil l) true], 1, []⟩) [1, 7, 10, 60, 61, 62] l_fuglemanlaw18_GdataPublishes_0 N ks := by
  have c : (i : Int) < L.length := by omega
  have c0 : (0 : Int) ≤ i := by omega
  have w5 : IntKind.i64.wrap ((i : Int) + 1) = i + 1 := w64 (by omega) (by omega)
  have hat := strs_at hi
  have big : ¬ (100 : Int) < L[i].size := by omega
  have hla := last_a 197 p'
  have hle := left_a 198 p'
  have hws := hv.ws
  have hwl := hv.wl
  have hwi := hv.wi
  have hl := hv.left
  have hsq := hv.seq.1
  have hnl := hv.nil
  generalize L[i] = s at *
  obtain ⟨n', val', inc', seq', wval', winc', wseq', nx', left'⟩ := p'
  obtain ⟨wn, winc, wseq, wlast⟩ := w'
  simp only at hws hwl hwi hl hinc hk hsq
  subst hws hwl hwi hinc hl
  rw [lh_as l_fuglemanlaw18_GdataPublishes_0.eq_1]
  rcases hk with hk | ⟨hk, hk'⟩
  · have k1 : (wseq == 0) = false := by rw [beq_eq_false_iff_ne]; omega
    unfold lastV at hla
    cases nil <;> (try (have hnl := hnl rfl; subst hnl)) <;>
    simp only [Pb.o, Rp.o, wayA, hk, List.length_nil, Int.natCast_zero, Bool.false_eq_true, if_true, if_false] at h1 h2 hla hle ⊢ <;>
    simp -implicitDefEqProofs only [eqs, Sym.wants, Sym.get, Sym.ev, Sym.evs, Sym.evO, Sym.evP, Sym.put, Sym.lev, Sym.aq, Sym.ae, aBin, aInt, isShift, aEqB, aEqP, aEqS, leavesEq, leafEq, aUn, Sym.rd, aLoad, aField, aFad, aNilck, asI, aIxS, aIxA, aIxV, aExt, aPick, aCvi, aCvs, aLen, aLenS, aMin2, aMax2, aFold, aFoldL, bnd, aSlStr, aSlS, fillL, newO, kill, aStore, putL, getO, cellsOf, Sym.elems, Sym.elemsS, aApp, aCpy, aClr, Sym.reps, aCall, aCallQ, finishCall, Sym.refs, Sym.refs1, Sym.refs0, okv, ok1, Sym.atom, flat0, dedup, Sym.reach, Sym.pos, Sym.sub, renO, Sym.ren, Sym.ren1, Sym.ren0, gmap, mergeOld, mergeNew, mergeO, allFresh, Sym.det, Sym.det0, Sym.canon, keepEnv, aRes, Sym.one, frzM, frz1, frz0, frzL, args0, dead0, aCallM, aopM_s, if_true, if_false, ite_true, ite_false, reduceIte, reduceCtorEq, Nat.reduceEqDiff, ne_eq, Nat.reduceAdd, Nat.reduceSub, Nat.reduceMul, Nat.reduceLT, Nat.reduceLeDiff, Nat.reduceBEq, Nat.reduceBNe, Nat.reduceGT, Int.reduceEq, Int.reduceLT, Int.reduceLE, Int.reduceToNat, Int.reduceAdd, Int.reduceSub, Int.reduceMul, Int.reduceNeg, Int.reduceBEq, Int.reduceBNe, penv, Pb.o, Rp.o, c, c0, w5, hat, big, hne, h1, h2, hla, hle, hk, k1, List.length_nil, Int.toNat_natCast, Int.natCast_add, Refs.emp]
  · subst hk hk'
    unfold lastV at hla
    cases nil <;> (try (have hnl := hnl rfl; subst hnl)) <;>
    simp only [Pb.o, Rp.o, wayA, List.length_nil, Int.natCast_zero, Int.lt_irrefl, Bool.false_eq_true, if_true, if_false] at h1 h2 hla hle ⊢ <;>
    simp -implicitDefEqProofs only [eqs, Sym.wants, Sym.get, Sym.ev, Sym.evs, Sym.evO, Sym.evP, Sym.put, Sym.lev, Sym.aq, Sym.ae, aBin, aInt, isShift, aEqB, aEqP, aEqS, leavesEq, leafEq, aUn, Sym.rd, aLoad, aField, aFad, aNilck, asI, aIxS, aIxA, aIxV, aExt, aPick, aCvi, aCvs, aLen, aLenS, aMin2, aMax2, aFold, aFoldL, bnd, aSlStr, aSlS, fillL, newO, kill, aStore, putL, getO, cellsOf, Sym.elems, Sym.elemsS, aApp, aCpy, aClr, Sym.reps, aCall, aCallQ, finishCall, Sym.refs, Sym.refs1, Sym.refs0, okv, ok1, Sym.atom, flat0, dedup, Sym.reach, Sym.pos, Sym.sub, renO, Sym.ren, Sym.ren1, Sym.ren0, gmap, mergeOld, mergeNew, mergeO, allFresh, Sym.det, Sym.det0, Sym.canon, keepEnv, aRes, Sym.one, frzM, frz1, frz0, frzL, args0, dead0, aCallM, aopM_s, if_true, if_false, ite_true, ite_false, reduceIte, reduceCtorEq, Nat.reduceEqDiff, ne_eq, Nat.reduceAdd, Nat.reduceSub, Nat.reduceMul, Nat.reduceLT, Nat.reduceLeDiff, Nat.reduceBEq, Nat.reduceBNe, Nat.reduceGT, Int.reduceEq, Int.reduceLT, Int.reduceLE, Int.reduceToNat, Int.reduceAdd, Int.reduceSub, Int.reduceMul, Int.reduceNeg, Int.reduceBEq, Int.reduceBNe, penv, Pb.o, Rp.o, c, c0, w5, hat, big, hne, h1, h2, hla, hle, Int.lt_irrefl, List.length_nil, Int.toNat_natCast, Int.natCast_add, Refs.emp]
/-- The next part; there is none. -/
theorem pstepZ (inc : Int) (L : List ByteArray) (hL : L.length ≤ 80) (i : Nat) (hi : i < L.length) (hne : L[i] = ByteArray.empty) {p : Pb} {w : Rp} {nil : Bool} {l : List Fr} (hv : PInv p w nil l) (hinc : p.inc = inc) (N : Nat) (ks : List It) (hk : p.seq = 0 ∧ p.val = ByteArray.empty) :
    Lh (acall T 199) 199 (some ⟨penv inc L i, [p.o true, w.o (wayA nil l) true], 1, []⟩) [1, 7, 10, 60, 61, 62] l_fuglemanlaw18_GdataPublishes_0 (N + 1) ks = Lh (acall T 199) 199 (some ⟨penv inc L (i + 1), [p.o true, w.o (wayA nil l) true], 1, []⟩) [1, 7, 10, 60, 61, 62] l_fuglemanlaw18_GdataPublishes_0 N ks := by
  have c : (i : Int) < L.length := by omega
  have c0 : (0 : Int) ≤ i := by omega
  have w5 : IntKind.i64.wrap ((i : Int) + 1) = i + 1 := w64 (by omega) (by omega)
  have hat := strs_at hi
  rw [hne] at hat
  obtain ⟨hk, hk'⟩ := hk
  have h1 := next_none 193 p (by omega)
  have h2 := rnext_none 159 w nil l (by rw [hv.ws, hk])
  have hla := last_a 197 p
  have hle := left_a 198 p
  have hws := hv.ws
  have hwl := hv.wl
  have hwi := hv.wi
  have hl := hv.left
  have hnl := hv.nil
  obtain ⟨n', val', inc', seq', wval', winc', wseq', nx', left'⟩ := p
  obtain ⟨wn, winc, wseq, wlast⟩ := w
  simp only at hws hwl hwi hl hinc hk hk'
  subst hws hwl hwi hinc hl hk hk'
  rw [lh_as l_fuglemanlaw18_GdataPublishes_0.eq_1]
  unfold lastV at hla
  rw [zeroF_c] at h1 h2
  cases nil <;> (try (have hnl := hnl rfl; subst hnl)) <;>
  simp only [Pb.o, Rp.o, wayA, List.length_nil, Int.natCast_zero, Int.lt_irrefl, Bool.false_eq_true, if_true, if_false] at h1 h2 hla hle ⊢ <;>
  simp -implicitDefEqProofs only [eqs, Sym.wants, Sym.get, Sym.ev, Sym.evs, Sym.evO, Sym.evP, Sym.put, Sym.lev, Sym.aq, Sym.ae, aBin, aInt, isShift, aEqB, aEqP, aEqS, leavesEq, leafEq, aUn, Sym.rd, aLoad, aField, aFad, aNilck, asI, aIxS, aIxA, aIxV, aExt, aPick, aCvi, aCvs, aLen, aLenS, aMin2, aMax2, aFold, aFoldL, bnd, aSlStr, aSlS, fillL, newO, kill, aStore, putL, getO, cellsOf, Sym.elems, Sym.elemsS, aApp, aCpy, aClr, Sym.reps, aCall, aCallQ, finishCall, Sym.refs, Sym.refs1, Sym.refs0, okv, ok1, Sym.atom, flat0, dedup, Sym.reach, Sym.pos, Sym.sub, renO, Sym.ren, Sym.ren1, Sym.ren0, gmap, mergeOld, mergeNew, mergeO, allFresh, Sym.det, Sym.det0, Sym.canon, keepEnv, aRes, Sym.one, frzM, frz1, frz0, frzL, args0, dead0, aCallM, aopM_s, if_true, if_false, ite_true, ite_false, reduceIte, reduceCtorEq, Nat.reduceEqDiff, ne_eq, Nat.reduceAdd, Nat.reduceSub, Nat.reduceMul, Nat.reduceLT, Nat.reduceLeDiff, Nat.reduceBEq, Nat.reduceBNe, Nat.reduceGT, Int.reduceEq, Int.reduceLT, Int.reduceLE, Int.reduceToNat, Int.reduceAdd, Int.reduceSub, Int.reduceMul, Int.reduceNeg, Int.reduceBEq, Int.reduceBNe, penv, Pb.o, Rp.o, c, c0, w5, hat, h1, h2, hla, hle, Int.lt_irrefl, List.length_nil, Int.toNat_natCast, Int.natCast_add, Refs.emp, ByteArray.size_empty]
/-- The next part. -/
theorem pstepN (inc : Int) (L : List ByteArray) (hL : L.length ≤ 80) (i : Nat) (hi : i < L.length) (hne : L[i] = ByteArray.empty) {p q p' : Pb} {w : Rp} {nil : Bool} {l l' : List Fr}
    (h1 : acall T 199 11 1 [.ptr 0 0] [p.o false] = some ⟨.tup [.agg (frP q).c, .v (.bool true)], [p'.o false], 2⟩)
    (h2 : acall T 199 25 1 [.ptr 0 0] [w.o (wayA nil l) false] = some ⟨.tup [.agg (frP q).c, .v (.bool true)], [w.o (wayA false l') false], 2⟩) (hv : PInv p' w false l') (hinc : p'.inc = inc) (N : Nat) (ks : List It) (hk : 0 < p'.seq) :
    Lh (acall T 199) 199 (some ⟨penv inc L i, [p.o true, w.o (wayA nil l) true], 1, []⟩) [1, 7, 10, 60, 61, 62] l_fuglemanlaw18_GdataPublishes_0 (N + 1) ks = Lh (acall T 199) 199 (some ⟨penv inc L (i + 1), [p'.o true, w.o (wayA false l') true], 1, []⟩) [1, 7, 10, 60, 61, 62] l_fuglemanlaw18_GdataPublishes_0 N ks := by
  have c : (i : Int) < L.length := by omega
  have c0 : (0 : Int) ≤ i := by omega
  have w5 : IntKind.i64.wrap ((i : Int) + 1) = i + 1 := w64 (by omega) (by omega)
  have hat := strs_at hi
  rw [hne] at hat
  have hla := last_a 197 p'
  have hle := left_a 198 p'
  have hws := hv.ws
  have hwl := hv.wl
  have hwi := hv.wi
  have hl := hv.left
  obtain ⟨n', val', inc', seq', wval', winc', wseq', nx', left'⟩ := p'
  obtain ⟨wn, winc, wseq, wlast⟩ := w
  simp only at hws hwl hwi hl hinc hk
  subst hws hwl hwi hinc hl
  rw [lh_as l_fuglemanlaw18_GdataPublishes_0.eq_1]
  have k1 : (wseq == 0) = false := by rw [beq_eq_false_iff_ne]; omega
  unfold lastV at hla
  rw [frP_c] at h1 h2
  generalize cut q.wval q.nx = cc at *
  cases nil <;>
  simp only [Pb.o, Rp.o, wayA, hk, Int.natCast_zero, Bool.false_eq_true, if_true, if_false] at h1 h2 hla hle ⊢ <;>
  simp -implicitDefEqProofs only [eqs, Sym.wants, Sym.get, Sym.ev, Sym.evs, Sym.evO, Sym.evP, Sym.put, Sym.lev, Sym.aq, Sym.ae, aBin, aInt, isShift, aEqB, aEqP, aEqS, leavesEq, leafEq, aUn, Sym.rd, aLoad, aField, aFad, aNilck, asI, aIxS, aIxA, aIxV, aExt, aPick, aCvi, aCvs, aLen, aLenS, aMin2, aMax2, aFold, aFoldL, bnd, aSlStr, aSlS, fillL, newO, kill, aStore, putL, getO, cellsOf, Sym.elems, Sym.elemsS, aApp, aCpy, aClr, Sym.reps, aCall, aCallQ, finishCall, Sym.refs, Sym.refs1, Sym.refs0, okv, ok1, Sym.atom, flat0, dedup, Sym.reach, Sym.pos, Sym.sub, renO, Sym.ren, Sym.ren1, Sym.ren0, gmap, mergeOld, mergeNew, mergeO, allFresh, Sym.det, Sym.det0, Sym.canon, keepEnv, aRes, Sym.one, frzM, frz1, frz0, frzL, args0, dead0, aCallM, aopM_s, if_true, if_false, ite_true, ite_false, reduceIte, reduceCtorEq, Nat.reduceEqDiff, ne_eq, Nat.reduceAdd, Nat.reduceSub, Nat.reduceMul, Nat.reduceLT, Nat.reduceLeDiff, Nat.reduceBEq, Nat.reduceBNe, Nat.reduceGT, Int.reduceEq, Int.reduceLT, Int.reduceLE, Int.reduceToNat, Int.reduceAdd, Int.reduceSub, Int.reduceMul, Int.reduceNeg, Int.reduceBEq, Int.reduceBNe, penv, Pb.o, Rp.o, c, c0, w5, hat, h1, h2, hla, hle, hk, k1, Int.toNat_natCast, Int.natCast_add, Refs.emp, ByteArray.size_empty]
theorem ploop (inc : Int) (L : List ByteArray) (hL : L.length ≤ 80) : ∀ (N i : Nat) (p : Pb) (w : Rp) (nil : Bool) (l : List Fr), PInv p w nil l → p.inc = inc → (0 < p.seq ∨ p.seq = 0 ∧ p.val = ByteArray.empty) → i ≤ L.length → L.length - i ≤ N →
    FnR [.t 6] false false (Lh (acall T 199) 199 (some ⟨penv inc L i, [p.o true, w.o (wayA nil l) true], 1, []⟩) [1, 7, 10, 60, 61, 62] l_fuglemanlaw18_GdataPublishes_0 N [.b 0, .c l_fuglemanlaw18_GdataPublishes_1]) = some ⟨.v (.bool true), [], 1⟩
  | N, i, p, w, nil, l, hv, hinc, hk, hi, hN => by
    by_cases d : i < L.length
    · obtain ⟨N, rfl⟩ : ∃ n', N = n' + 1 := ⟨N - 1, by omega⟩
      by_cases big : 100 < L[i].size
      · have c : (i : Int) < L.length := by omega
        have c0 : (0 : Int) ≤ i := by omega
        have hat := strs_at d
        have big' : (100 : Int) < L[i].size := by omega
        rw [lh_as l_fuglemanlaw18_GdataPublishes_0.eq_1]
        unfold wayA
        cases nil <;> simp -implicitDefEqProofs only [eqs, Sym.wants, Sym.get, Sym.ev, Sym.evs, Sym.evO, Sym.evP, Sym.put, Sym.lev, Sym.aq, Sym.ae, aBin, aInt, isShift, aEqB, aEqP, aEqS, leavesEq, leafEq, aUn, Sym.rd, aLoad, aField, aFad, aNilck, asI, aIxS, aIxA, aIxV, aExt, aPick, aCvi, aCvs, aLen, aLenS, aMin2, aMax2, aFold, aFoldL, bnd, aSlStr, aSlS, fillL, newO, kill, aStore, putL, getO, cellsOf, Sym.elems, Sym.elemsS, aApp, aCpy, aClr, Sym.reps, aCall, aCallQ, finishCall, Sym.refs, Sym.refs1, Sym.refs0, okv, ok1, Sym.atom, flat0, dedup, Sym.reach, Sym.pos, Sym.sub, renO, Sym.ren, Sym.ren1, Sym.ren0, gmap, mergeOld, mergeNew, mergeO, allFresh, Sym.det, Sym.det0, Sym.canon, keepEnv, aRes, Sym.one, frzM, frz1, frz0, frzL, args0, dead0, aCallM, aopM_s, if_true, if_false, ite_true, ite_false, reduceIte, reduceCtorEq, Nat.reduceEqDiff, ne_eq, Nat.reduceAdd, Nat.reduceSub, Nat.reduceMul, Nat.reduceLT, Nat.reduceLeDiff, Nat.reduceBEq, Nat.reduceBNe, Nat.reduceGT, Int.reduceEq, Int.reduceLT, Int.reduceLE, Int.reduceToNat, Int.reduceAdd, Int.reduceSub, Int.reduceMul, Int.reduceNeg, Int.reduceBEq, Int.reduceBNe, penv, Pb.o, Rp.o, c, c0, hat, big', Int.toNat_natCast]
      · by_cases hne : L[i] = ByteArray.empty
        · rcases hk with hk | hk
          · have h1 := next_a 193 p hk hv.pin
            obtain ⟨l', h2, hv'⟩ := hv.next hk 159
            have hadv : p.adv.seq = p.seq ∧ p.adv.inc = p.inc := by unfold Pb.adv Pb.beg; split <;> exact ⟨rfl, rfl⟩
            rw [pstepN inc L hL i d hne h1 h2 hv' (by rw [hadv.2, hinc]) N _ (by rw [hadv.1]; exact hk)]
            exact ploop inc L hL N (i + 1) _ w false l' hv' (by rw [hadv.2, hinc]) (.inl (by rw [hadv.1]; exact hk)) d (by omega)
          · rw [pstepZ inc L hL i d hne hv hinc N _ hk]
            exact ploop inc L hL N (i + 1) _ w nil l hv hinc (.inr hk) d (by omega)
        · obtain ⟨hv', he⟩ := hv.com L[i]
          have h1 := commit_a 198 p L[i] hv.seq
          have h2 := rcommit_a 198 w nil l L[i] (by rw [hv.ws]; exact hv.seq)
          rw [he] at h2
          have hk' : 0 < (p.com L[i]).seq ∨ (p.com L[i]).seq = 0 ∧ (p.com L[i]).val = ByteArray.empty := by
            unfold Pb.com
            split
            · have := hv.seq.1; exact .inl (by show 0 < p.seq + 1; omega)
            · exact hk
          have hi' : (p.com L[i]).inc = inc := by unfold Pb.com; split <;> exact hinc
          rw [pstepC inc L hL i d (by omega) hne _ h1 h2 hv' hi' N _ hk']
          exact ploop inc L hL N (i + 1) _ _ nil l hv' hi' hk' d (by omega)
    · have c : ¬ (i : Int) < L.length := by omega
      rw [lh_as l_fuglemanlaw18_GdataPublishes_0.eq_1]
      unfold wayA
      cases nil <;> simp -implicitDefEqProofs only [eqs, Sym.wants, Sym.get, Sym.ev, Sym.evs, Sym.evO, Sym.evP, Sym.put, Sym.lev, Sym.aq, Sym.ae, aBin, aInt, isShift, aEqB, aEqP, aEqS, leavesEq, leafEq, aUn, Sym.rd, aLoad, aField, aFad, aNilck, asI, aIxS, aIxA, aIxV, aExt, aPick, aCvi, aCvs, aLen, aLenS, aMin2, aMax2, aFold, aFoldL, bnd, aSlStr, aSlS, fillL, newO, kill, aStore, putL, getO, cellsOf, Sym.elems, Sym.elemsS, aApp, aCpy, aClr, Sym.reps, aCall, aCallQ, finishCall, Sym.refs, Sym.refs1, Sym.refs0, okv, ok1, Sym.atom, flat0, dedup, Sym.reach, Sym.pos, Sym.sub, renO, Sym.ren, Sym.ren1, Sym.ren0, gmap, mergeOld, mergeNew, mergeO, allFresh, Sym.det, Sym.det0, Sym.canon, keepEnv, aRes, Sym.one, frzM, frz1, frz0, frzL, args0, dead0, aCallM, aopM_s, if_true, if_false, ite_true, ite_false, reduceIte, reduceCtorEq, Nat.reduceEqDiff, ne_eq, Nat.reduceAdd, Nat.reduceSub, Nat.reduceMul, Nat.reduceLT, Nat.reduceLeDiff, Nat.reduceBEq, Nat.reduceBNe, Nat.reduceGT, Int.reduceEq, Int.reduceLT, Int.reduceLE, Int.reduceToNat, Int.reduceAdd, Int.reduceSub, Int.reduceMul, Int.reduceNeg, Int.reduceBEq, Int.reduceBNe, l_fuglemanlaw18_GdataPublishes_1, penv, Pb.o, Rp.o, c]
theorem GdataPublishes : ∀ (a0 : Int) (a1 : Int) (a2 : List (ByteArray)), (-9223372036854775808 ≤ a0 ∧ a0 ≤ 9223372036854775807) → (0 ≤ a1 ∧ a1 ≤ 65535) → (a2.length ≤ 140737488351232 ∧ ∀ (i0 : Nat) x0, a2[i0]? = some x0 → x0.size ≤ 140737488351232) → ∃ ob d, acall T 200 6 0 [.v (.int .i64 a0), .v (.int .u16 a1), .shr a2.length false (a2.flatMap (fun x : ByteArray => [.v (.string x)]))] [] = some ⟨.v (.bool true), ob, d⟩ := by
  intro n inc L h0 h1 h2
  refine ⟨[], 1, ?_⟩
  rw [acall_go (k := 199) (body := b_fuglemanlaw18_GdataPublishes) rfl rfl (Nat.zero_le _)]
  have hw := GAwk.awake_a
  by_cases c1 : 80 < L.length
  · have c1' : (80 : Int) < L.length := by omega
    simp -implicitDefEqProofs only [eqs, Sym.wants, Sym.get, Sym.ev, Sym.evs, Sym.evO, Sym.evP, Sym.put, Sym.lev, Sym.aq, Sym.ae, aBin, aInt, isShift, aEqB, aEqP, aEqS, leavesEq, leafEq, aUn, Sym.rd, aLoad, aField, aFad, aNilck, asI, aIxS, aIxA, aIxV, aExt, aPick, aCvi, aCvs, aLen, aLenS, aMin2, aMax2, aFold, aFoldL, bnd, aSlStr, aSlS, fillL, newO, kill, aStore, putL, getO, cellsOf, Sym.elems, Sym.elemsS, aApp, aCpy, aClr, Sym.reps, aCall, aCallQ, finishCall, Sym.refs, Sym.refs1, Sym.refs0, okv, ok1, Sym.atom, flat0, dedup, Sym.reach, Sym.pos, Sym.sub, renO, Sym.ren, Sym.ren1, Sym.ren0, gmap, mergeOld, mergeNew, mergeO, allFresh, Sym.det, Sym.det0, Sym.canon, keepEnv, aRes, Sym.one, frzM, frz1, frz0, frzL, args0, dead0, aCallM, aopM_s, if_true, if_false, ite_true, ite_false, reduceIte, reduceCtorEq, Nat.reduceEqDiff, ne_eq, Nat.reduceAdd, Nat.reduceSub, Nat.reduceMul, Nat.reduceLT, Nat.reduceLeDiff, Nat.reduceBEq, Nat.reduceBNe, Nat.reduceGT, Int.reduceEq, Int.reduceLT, Int.reduceLE, Int.reduceToNat, Int.reduceAdd, Int.reduceSub, Int.reduceMul, Int.reduceNeg, Int.reduceBEq, Int.reduceBNe, b_fuglemanlaw18_GdataPublishes, hw, c1']
  · have c1' : ¬ (80 : Int) < L.length := by omega
    by_cases hn : 1 ≤ n ∧ n ≤ 64
    · have d1 : ¬ n < 1 := by omega
      have d2 : ¬ 64 < n := by omega
      have hnew := newpub_a 197 n inc hn
      have ho := ploop inc L (by omega) 198 0 (Pb.new n inc) ⟨n, inc, 0, ByteArray.empty⟩ true [] (PInv.new n inc hn) rfl (.inr ⟨rfl, rfl⟩) (Nat.zero_le _) (by omega)
      have lp : ∀ (ks : List It) (s : St), Lp (acall T 199) 199 [1, 7, 10, 60, 61, 62] l_fuglemanlaw18_GdataPublishes_0 199 ks s = Lh (acall T 199) 199 (canon [1, 7, 10, 60, 61, 62] s) [1, 7, 10, 60, 61, 62] l_fuglemanlaw18_GdataPublishes_0 198 ks := fun ks s => lp_succ (n := 198)
      simp only [Pb.o, Pb.new, Rp.o, wayA, penv, if_true, Int.natCast_zero] at ho hnew
      simp -implicitDefEqProofs only [eqs, Sym.wants, Sym.get, Sym.ev, Sym.evs, Sym.evO, Sym.evP, Sym.put, Sym.lev, Sym.aq, Sym.ae, aBin, aInt, isShift, aEqB, aEqP, aEqS, leavesEq, leafEq, aUn, Sym.rd, aLoad, aField, aFad, aNilck, asI, aIxS, aIxA, aIxV, aExt, aPick, aCvi, aCvs, aLen, aLenS, aMin2, aMax2, aFold, aFoldL, bnd, aSlStr, aSlS, fillL, newO, kill, aStore, putL, getO, cellsOf, Sym.elems, Sym.elemsS, aApp, aCpy, aClr, Sym.reps, aCall, aCallQ, finishCall, Sym.refs, Sym.refs1, Sym.refs0, okv, ok1, Sym.atom, flat0, dedup, Sym.reach, Sym.pos, Sym.sub, renO, Sym.ren, Sym.ren1, Sym.ren0, gmap, mergeOld, mergeNew, mergeO, allFresh, Sym.det, Sym.det0, Sym.canon, keepEnv, aRes, Sym.one, frzM, frz1, frz0, frzL, args0, dead0, aCallM, aopM_s, if_true, if_false, ite_true, ite_false, reduceIte, reduceCtorEq, Nat.reduceEqDiff, ne_eq, Nat.reduceAdd, Nat.reduceSub, Nat.reduceMul, Nat.reduceLT, Nat.reduceLeDiff, Nat.reduceBEq, Nat.reduceBNe, Nat.reduceGT, Int.reduceEq, Int.reduceLT, Int.reduceLE, Int.reduceToNat, Int.reduceAdd, Int.reduceSub, Int.reduceMul, Int.reduceNeg, Int.reduceBEq, Int.reduceBNe, b_fuglemanlaw18_GdataPublishes, hw, c1', d1, d2, hnew, lp, ho, Refs.emp]
    · have hnew := newpub_nil 197 n inc hn
      have q1 := next_nil 193
      rw [zeroF_c] at q1
      have q2 := commit_nil 198 ByteArray.empty
      have q3 := left_nil 198
      by_cases d1 : n < 1
      · simp -implicitDefEqProofs only [eqs, Sym.wants, Sym.get, Sym.ev, Sym.evs, Sym.evO, Sym.evP, Sym.put, Sym.lev, Sym.aq, Sym.ae, aBin, aInt, isShift, aEqB, aEqP, aEqS, leavesEq, leafEq, aUn, Sym.rd, aLoad, aField, aFad, aNilck, asI, aIxS, aIxA, aIxV, aExt, aPick, aCvi, aCvs, aLen, aLenS, aMin2, aMax2, aFold, aFoldL, bnd, aSlStr, aSlS, fillL, newO, kill, aStore, putL, getO, cellsOf, Sym.elems, Sym.elemsS, aApp, aCpy, aClr, Sym.reps, aCall, aCallQ, finishCall, Sym.refs, Sym.refs1, Sym.refs0, okv, ok1, Sym.atom, flat0, dedup, Sym.reach, Sym.pos, Sym.sub, renO, Sym.ren, Sym.ren1, Sym.ren0, gmap, mergeOld, mergeNew, mergeO, allFresh, Sym.det, Sym.det0, Sym.canon, keepEnv, aRes, Sym.one, frzM, frz1, frz0, frzL, args0, dead0, aCallM, aopM_s, if_true, if_false, ite_true, ite_false, reduceIte, reduceCtorEq, Nat.reduceEqDiff, ne_eq, Nat.reduceAdd, Nat.reduceSub, Nat.reduceMul, Nat.reduceLT, Nat.reduceLeDiff, Nat.reduceBEq, Nat.reduceBNe, Nat.reduceGT, Int.reduceEq, Int.reduceLT, Int.reduceLE, Int.reduceToNat, Int.reduceAdd, Int.reduceSub, Int.reduceMul, Int.reduceNeg, Int.reduceBEq, Int.reduceBNe, b_fuglemanlaw18_GdataPublishes, hw, c1', d1, hnew, q1, q2, q3, Refs.emp]
      · have d2 : 64 < n := by omega
        simp -implicitDefEqProofs only [eqs, Sym.wants, Sym.get, Sym.ev, Sym.evs, Sym.evO, Sym.evP, Sym.put, Sym.lev, Sym.aq, Sym.ae, aBin, aInt, isShift, aEqB, aEqP, aEqS, leavesEq, leafEq, aUn, Sym.rd, aLoad, aField, aFad, aNilck, asI, aIxS, aIxA, aIxV, aExt, aPick, aCvi, aCvs, aLen, aLenS, aMin2, aMax2, aFold, aFoldL, bnd, aSlStr, aSlS, fillL, newO, kill, aStore, putL, getO, cellsOf, Sym.elems, Sym.elemsS, aApp, aCpy, aClr, Sym.reps, aCall, aCallQ, finishCall, Sym.refs, Sym.refs1, Sym.refs0, okv, ok1, Sym.atom, flat0, dedup, Sym.reach, Sym.pos, Sym.sub, renO, Sym.ren, Sym.ren1, Sym.ren0, gmap, mergeOld, mergeNew, mergeO, allFresh, Sym.det, Sym.det0, Sym.canon, keepEnv, aRes, Sym.one, frzM, frz1, frz0, frzL, args0, dead0, aCallM, aopM_s, if_true, if_false, ite_true, ite_false, reduceIte, reduceCtorEq, Nat.reduceEqDiff, ne_eq, Nat.reduceAdd, Nat.reduceSub, Nat.reduceMul, Nat.reduceLT, Nat.reduceLeDiff, Nat.reduceBEq, Nat.reduceBNe, Nat.reduceGT, Int.reduceEq, Int.reduceLT, Int.reduceLE, Int.reduceToNat, Int.reduceAdd, Int.reduceSub, Int.reduceMul, Int.reduceNeg, Int.reduceBEq, Int.reduceBNe, b_fuglemanlaw18_GdataPublishes, hw, c1', d1, d2, hnew, q1, q2, q3, Refs.emp]
end Go.Proofs.Ytkaigdfklihlcaa.Said
