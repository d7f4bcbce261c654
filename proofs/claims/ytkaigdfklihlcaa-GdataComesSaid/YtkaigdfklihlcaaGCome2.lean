/- So many parts, each of which comes. -/
import Derived.Test.YtkaigdfklihlcaaGCome
namespace Go.Proofs.Ytkaigdfklihlcaa.GCome
open Go Go.Proofs.Ytkaigdfklihlcaa.Sym Go.Proofs.Ytkaigdfklihlcaa.Tab Go.Proofs.Ytkaigdfklihlcaa.Blk Go.Proofs.Ytkaigdfklihlcaa.Glue Go.Proofs.Ytkaigdfklihlcaa.Refs Go.Proofs.Ytkaigdfklihlcaa.RefsT Go.Proofs.Ytkaigdfklihlcaa.PR Go.Proofs.Ytkaigdfklihlcaa.Spl Go.Proofs.Ytkaigdfklihlcaa.GSub Go.Proofs.Ytkaigdfklihlcaa.GPub
set_option linter.unusedVariables false
set_option linter.unusedSimpArgs false
set_option maxHeartbeats 8000000
set_option maxRecDepth 20000
def cob (p : Pb) (g : Gl) (tl : Tl) (fr : Bool) : List Sym.Obj := [⟨true, fr, false, [.ptr 2 0]⟩, ⟨true, fr, false, [.ptr 3 0]⟩, p.o fr, sO tl 4 fr, gK g 5 fr, g.b fr]
def advs : Nat → Pb → Pb
  | 0, p => p
  | n + 1, p => advs n p.adv
theorem adv_seq (p : Pb) : p.adv.seq = p.seq ∧ p.adv.val = p.val := by unfold Pb.adv Pb.beg; split <;> exact ⟨rfl, rfl⟩
theorem advs_seq : ∀ (n : Nat) (p : Pb), (advs n p).seq = p.seq ∧ (advs n p).val = p.val
  | 0, p => ⟨rfl, rfl⟩
  | n + 1, p => by
    obtain ⟨h1, h2⟩ := advs_seq n p.adv
    obtain ⟨h3, h4⟩ := adv_seq p
    exact ⟨h1.trans h3, h2.trans h4⟩
theorem adv_left {p : Pb} (h : p.left ≠ 0) : p.adv.left = p.left - 1 ∧ p.adv.wseq = p.wseq := by
  have : p.beg = p := by unfold Pb.beg; rw [if_neg h]
  unfold Pb.adv
  rw [this]
  exact ⟨rfl, rfl⟩
theorem advs_left : ∀ (n : Nat) (p : Pb), p.left = n → (advs n p).left = 0 ∧ (advs n p).wseq = p.wseq
  | 0, p, h => ⟨h, rfl⟩
  | n + 1, p, h => by
    obtain ⟨h1, h2⟩ := adv_left (p := p) (by omega)
    obtain ⟨h3, h4⟩ := advs_left n p.adv (by omega)
    exact ⟨h3, h4.trans h2⟩
theorem advs_new (p : Pb) (h : p.left = 0) (m : Nat) (hm : parts p.n = (m + 1 : Nat)) : (advs (m + 1) p).left = 0 ∧ (advs (m + 1) p).wseq = p.seq := by
  have e : p.beg = { p with wval := p.val, winc := p.inc, wseq := p.seq, nx := 0, left := parts p.n } := by unfold Pb.beg; rw [if_pos h]
  have e1 : p.adv.left = m ∧ p.adv.wseq = p.seq := by
    unfold Pb.adv
    rw [e]
    exact ⟨by show parts p.n - 1 = _; omega, rfl⟩
  obtain ⟨h3, h4⟩ := advs_left m p.adv e1.1
  exact ⟨h3, h4.trans e1.2⟩
def cenv (c i : Int) : Env := [(1, .ptr 0 0), (2, .ptr 1 0), (9, .v (.int .i64 c)), (10, .v (.int .i64 i))]
theorem cstep (n : Nat) (p : Pb) (g : Gl) (tl : Tl) (h : CInv n p g tl) (hs : 0 < p.seq) (s : ByteArray) (b : Bool) (e : Int) (h1 : (g.put (frP p.beg)).1 = out s b e) (h2 : e = 0 ∨ e = 14) (c i : Nat) (hi : i < c) (hc : c ≤ 1000) (d : Nat) (hd : d = 0 ∨ d = 2) (N : Nat) (ks : List It) :
    Lh (acall T 198) 198 (some ⟨cenv c i, cob p g tl false, d, [0, 1]⟩) [1, 2, 9, 10] l_fuglemanlaw18_GdataComes_1_0 (N + 1) ks = Lh (acall T 198) 198 (some ⟨cenv c (i + 1), cob p.adv (g.put (frP p.beg)).2 (Tl.put tl (frP p.beg) s b e) false, 2, [0, 1]⟩) [1, 2, 9, 10] l_fuglemanlaw18_GdataComes_1_0 N ks := by
  have c1 : (i : Int) < c := by omega
  have w5 : IntKind.i64.wrap ((i : Int) + 1) = i + 1 := w64 (by omega) (by omega)
  have hn := next_a 192 p hs h.pin
  have hfi : (frP p.beg).In := by
    have hp := h.pin
    have hpl := parts_le p.n
    have hsq := h.seq
    have hinc := h.inc
    unfold Pb.beg
    split
    · exact ⟨by show (0 : Int) ≤ 0 ∧ (0 : Int) ≤ 255; decide, by show 0 ≤ parts p.n ∧ parts p.n ≤ 255; omega, by show 0 ≤ p.inc ∧ p.inc ≤ 65535; omega, by show 0 ≤ p.seq ∧ p.seq ≤ 4294967295; omega⟩
    · have hnx := hp.nx
      rcases h.way with ⟨_, _, _, _, _⟩ | ⟨_, _, _, _, _, _, _, _, _, _, _, _, _, _⟩
      · omega
      · exact ⟨by show 0 ≤ p.nx ∧ p.nx ≤ 255; omega, by show 0 ≤ parts p.n ∧ parts p.n ≤ 255; omega, by show 0 ≤ p.winc ∧ p.winc ≤ 65535; omega, by show 0 ≤ p.wseq ∧ p.wseq ≤ 4294967295; omega⟩
  have hgp := put_a 190 g (frP p.beg) hfi h.gin
  rw [h1] at hgp
  have hsp := sput_a 189 tl g _ (frP p.beg) s b e hgp
  have fc : (frP p.beg).c = [.v (.int .i64 4), .v (.int .u8 0), .v (.int .u8 0), .v (.int .u16 0), .v (.int .u16 0), .v (.int .u16 0), .v (.int .u8 0), .v (.int .u16 0), .v (.int .u16 0), .v (.int .u16 0), .v (.int .u8 0), .v (.int .u16 0), .v (.bool false), .v (.int .u8 0), .v (.int .u16 p.beg.winc), .v (.int .u32 p.beg.wseq), .v (.int .u8 p.beg.nx), .v (.int .u8 (parts p.beg.n)), .v (.string (cut p.beg.wval p.beg.nx))] := rfl
  rw [fc] at hn hsp
  generalize cut p.beg.wval p.beg.nx = cc at *
  generalize Tl.put tl (frP p.beg) s b e = tl' at *
  generalize (g.put (frP p.beg)).2 = g' at *
  generalize p.adv = p' at *
  generalize p.beg = q at *
  unfold sob sO gK Gl.b at hsp
  unfold Pb.o at hn
  rw [lh_as l_fuglemanlaw18_GdataComes_1_0.eq_1]
  have m02 : max 0 2 = 2 := rfl
  rcases hd with rfl | rfl <;> rcases h2 with rfl | rfl <;>
  simp -implicitDefEqProofs only [eqs, Sym.wants, Sym.get, Sym.ev, Sym.evs, Sym.evO, Sym.evP, Sym.put, Sym.lev, Sym.aq, Sym.ae, aBin, aInt, isShift, aEqB, aEqP, aEqS, leavesEq, leafEq, aUn, Sym.rd, aLoad, aField, aFad, aNilck, asI, aIxS, aIxA, aIxV, aExt, aPick, aCvi, aCvs, aLen, aLenS, aMin2, aMax2, aFold, aFoldL, bnd, aSlStr, aSlS, fillL, newO, kill, aStore, putL, getO, cellsOf, Sym.elems, Sym.elemsS, aApp, aCpy, aClr, Sym.reps, aCall, aCallQ, finishCall, Sym.refs, Sym.refs1, Sym.refs0, okv, ok1, Sym.atom, flat0, dedup, Sym.reach, Sym.pos, Sym.sub, renO, Sym.ren, Sym.ren1, Sym.ren0, gmap, mergeOld, mergeNew, mergeO, allFresh, Sym.det, Sym.det0, Sym.canon, keepEnv, aRes, Sym.one, frzM, frz1, frz0, frzL, args0, dead0, aCallM, aopM_s, if_true, if_false, ite_true, ite_false, reduceIte, reduceCtorEq, Nat.reduceEqDiff, ne_eq, Nat.reduceAdd, Nat.reduceSub, Nat.reduceMul, Nat.reduceLT, Nat.reduceLeDiff, Nat.reduceBEq, Nat.reduceBNe, Nat.reduceGT, Int.reduceEq, Int.reduceLT, Int.reduceLE, Int.reduceToNat, Int.reduceAdd, Int.reduceSub, Int.reduceMul, Int.reduceNeg, Int.reduceBEq, Int.reduceBNe, cenv, cob, Pb.o, sO, gK, Gl.b, c1, w5, hn, hsp, m02]
theorem cloop (n : Nat) (c : Nat) (hc : c ≤ 1000) : ∀ (m N i : Nat) (p : Pb) (g : Gl) (tl : Tl) (d : Nat), CInv n p g tl → 0 < p.seq → i + m = c → m ≤ N → (d = 0 ∨ d = 2) → ∃ g' tl', CInv n (advs m p) g' tl' ∧
    FnR [.t 4] false true (Lh (acall T 198) 198 (some ⟨cenv c i, cob p g tl false, d, [0, 1]⟩) [1, 2, 9, 10] l_fuglemanlaw18_GdataComes_1_0 N [.b 0, .c l_fuglemanlaw18_GdataComes_1_1]) = some ⟨.v (.bool true), cob (advs m p) g' tl' false, 2⟩
  | 0, N, i, p, g, tl, d, h, hs, hi, hN, hd => by
    refine ⟨g, tl, h, ?_⟩
    have c1 : ¬ (i : Int) < c := by omega
    have e : advs 0 p = p := rfl
    rw [lh_as l_fuglemanlaw18_GdataComes_1_0.eq_1, e]
    simp -implicitDefEqProofs only [eqs, Sym.wants, Sym.get, Sym.ev, Sym.evs, Sym.evO, Sym.evP, Sym.put, Sym.lev, Sym.aq, Sym.ae, aBin, aInt, isShift, aEqB, aEqP, aEqS, leavesEq, leafEq, aUn, Sym.rd, aLoad, aField, aFad, aNilck, asI, aIxS, aIxA, aIxV, aExt, aPick, aCvi, aCvs, aLen, aLenS, aMin2, aMax2, aFold, aFoldL, bnd, aSlStr, aSlS, fillL, newO, kill, aStore, putL, getO, cellsOf, Sym.elems, Sym.elemsS, aApp, aCpy, aClr, Sym.reps, aCall, aCallQ, finishCall, Sym.refs, Sym.refs1, Sym.refs0, okv, ok1, Sym.atom, flat0, dedup, Sym.reach, Sym.pos, Sym.sub, renO, Sym.ren, Sym.ren1, Sym.ren0, gmap, mergeOld, mergeNew, mergeO, allFresh, Sym.det, Sym.det0, Sym.canon, keepEnv, aRes, Sym.one, frzM, frz1, frz0, frzL, args0, dead0, aCallM, aopM_s, if_true, if_false, ite_true, ite_false, reduceIte, reduceCtorEq, Nat.reduceEqDiff, ne_eq, Nat.reduceAdd, Nat.reduceSub, Nat.reduceMul, Nat.reduceLT, Nat.reduceLeDiff, Nat.reduceBEq, Nat.reduceBNe, Nat.reduceGT, Int.reduceEq, Int.reduceLT, Int.reduceLE, Int.reduceToNat, Int.reduceAdd, Int.reduceSub, Int.reduceMul, Int.reduceNeg, Int.reduceBEq, Int.reduceBNe, l_fuglemanlaw18_GdataComes_1_1, cenv, cob, Pb.o, sO, gK, Gl.b, c1]
  | m + 1, N, i, p, g, tl, d, h, hs, hi, hN, hd => by
    obtain ⟨N, rfl⟩ : ∃ n', N = n' + 1 := ⟨N - 1, by omega⟩
    obtain ⟨s, b, e, h1, h2, h3⟩ := h.next hs
    rw [cstep n p g tl h hs s b e h1 h2 c i (by omega) hc d hd N _]
    have := cloop n c hc m N (i + 1) p.adv _ _ 2 h3 (by rw [(adv_seq p).1]; exact hs) (by omega) (by omega) (.inr rfl)
    rw [Int.natCast_add, Int.natCast_one] at this
    exact this
theorem comes_a (n : Nat) (c : Nat) (hc : c ≤ 190) (p : Pb) (g : Gl) (tl : Tl) (h : CInv n p g tl) (hs : 0 < p.seq) : ∃ g' tl', CInv n (advs c p) g' tl' ∧
    acall T 199 10 2 [.v (.int .i64 c), .ptr 0 0, .ptr 1 0] (cob p g tl false) = some ⟨.v (.bool true), cob (advs c p) g' tl' false, 2⟩ := by
  obtain ⟨g', tl', h1, h2⟩ := cloop n c (by omega) c 197 0 p g tl 0 h hs (by omega) (by omega) (.inl rfl)
  refine ⟨g', tl', h1, ?_⟩
  rw [acall_go (k := 198) (body := b_fuglemanlaw18_GdataComes_1) rfl rfl (by show 2 ≤ 6; decide)]
  have lp : ∀ (ks : List It) (s : St), Lp (acall T 198) 198 [1, 2, 9, 10] l_fuglemanlaw18_GdataComes_1_0 198 ks s = Lh (acall T 198) 198 (canon [1, 2, 9, 10] s) [1, 2, 9, 10] l_fuglemanlaw18_GdataComes_1_0 197 ks := fun ks s => lp_succ (n := 197)
  rw [← h2]
  simp -implicitDefEqProofs only [eqs, Sym.wants, Sym.get, Sym.ev, Sym.evs, Sym.evO, Sym.evP, Sym.put, Sym.lev, Sym.aq, Sym.ae, aBin, aInt, isShift, aEqB, aEqP, aEqS, leavesEq, leafEq, aUn, Sym.rd, aLoad, aField, aFad, aNilck, asI, aIxS, aIxA, aIxV, aExt, aPick, aCvi, aCvs, aLen, aLenS, aMin2, aMax2, aFold, aFoldL, bnd, aSlStr, aSlS, fillL, newO, kill, aStore, putL, getO, cellsOf, Sym.elems, Sym.elemsS, aApp, aCpy, aClr, Sym.reps, aCall, aCallQ, finishCall, Sym.refs, Sym.refs1, Sym.refs0, okv, ok1, Sym.atom, flat0, dedup, Sym.reach, Sym.pos, Sym.sub, renO, Sym.ren, Sym.ren1, Sym.ren0, gmap, mergeOld, mergeNew, mergeO, allFresh, Sym.det, Sym.det0, Sym.canon, keepEnv, aRes, Sym.one, frzM, frz1, frz0, frzL, args0, dead0, aCallM, aopM_s, if_true, if_false, ite_true, ite_false, reduceIte, reduceCtorEq, Nat.reduceEqDiff, ne_eq, Nat.reduceAdd, Nat.reduceSub, Nat.reduceMul, Nat.reduceLT, Nat.reduceLeDiff, Nat.reduceBEq, Nat.reduceBNe, Nat.reduceGT, Int.reduceEq, Int.reduceLT, Int.reduceLE, Int.reduceToNat, Int.reduceAdd, Int.reduceSub, Int.reduceMul, Int.reduceNeg, Int.reduceBEq, Int.reduceBNe, b_fuglemanlaw18_GdataComes_1, lp, cenv, cob, Pb.o, sO, gK, Gl.b, Int.natCast_zero]
end Go.Proofs.Ytkaigdfklihlcaa.GCome
