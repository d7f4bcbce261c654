/- The law GdataSubscribes. -/
import Derived.Test.YtkaigdfklihlcaaGNew
import Derived.Test.YtkaigdfklihlcaaArgs
import Derived.Test.YtkaigdfklihlcaaGAwk
namespace Go.Proofs.Ytkaigdfklihlcaa.Said
open Go Go.Proofs.Ytkaigdfklihlcaa.Sym Go.Proofs.Ytkaigdfklihlcaa.Tab Go.Proofs.Ytkaigdfklihlcaa.Args Go.Proofs.Ytkaigdfklihlcaa.Blk Go.Proofs.Ytkaigdfklihlcaa.Glue Go.Proofs.Ytkaigdfklihlcaa.Refs Go.Proofs.Ytkaigdfklihlcaa.RefsT Go.Proofs.Ytkaigdfklihlcaa.PR Go.Proofs.Ytkaigdfklihlcaa.GSub
set_option linter.unusedVariables false
set_option linter.unusedSimpArgs false
set_option maxHeartbeats 8000000
set_option maxRecDepth 20000
def OkS (n : Int) (g : Gl) : Option Rg → Prop
  | none => g.is = false ∧ (g.val.length : Int) = n ∧ (1 ≤ n ∧ n ≤ 64) ∧ g.n = 0
  | some w => Inv n g w
theorem gput_out (g : Gl) (f : Fr) : ∃ s b e, (g.put f).1 = out s b e := by
  have lay : ∀ g : Gl, ∃ s b e, (g.lay f).1 = out s b e := fun g => by
    unfold Gl.lay
    split
    · exact ⟨_, _, _, rfl⟩
    · split <;> exact ⟨_, _, _, rfl⟩
  unfold Gl.put
  split
  · exact ⟨_, _, _, rfl⟩
  · split
    · exact ⟨_, _, _, rfl⟩
    · split
      · split
        · exact ⟨_, _, _, rfl⟩
        · split <;> exact lay _
      · exact lay _
theorem both (n : Int) (g : Gl) (w : Option Rg) (f : Fr) (hf : f.In) (hok : OkS n g w) (tl : Tl) : ∃ s b e g' w', acall T 198 31 1 [.ptr 0 0, .agg f.c] [g.o false, g.b false] = some ⟨out s b e, [g'.o false, g'.b false], 2⟩ ∧
    acall T 198 32 1 [.ptr 0 0, .agg f.c] (rob n tl w) = some ⟨out s b e, rob n tl w', 2⟩ ∧ OkS n g' w' := by
  obtain ⟨s, b, e, ho⟩ := gput_out g f
  cases w with
  | none =>
    obtain ⟨his, hgl, hn, hg0⟩ := hok
    have hg : g.In := ⟨by omega, by omega⟩
    have hp := put_a 191 g f hf hg
    rw [ho] at hp
    cases c1 : (f.kind != 4)
    · cases c2 : fitN n f
      · have hput : g.put f = (out ByteArray.empty false 3, g) := by
          unfold Gl.put
          rw [if_neg (by rw [c1]; decide), if_pos (by rw [fitsN hgl]; exact c2)]
          rfl
        rw [hput] at ho hp
        simp only at ho hp
        have hr := rput_badN tl 158 n f hf hn c1 c2
        rw [ho] at hr
        exact ⟨s, b, e, g, none, hp, hr, his, hgl, hn, hg0⟩
      · have hput : g.put f = (g.begin f.inc f.seq).lay f := by
          unfold Gl.put
          rw [if_neg (by rw [c1]; decide), if_neg (by rw [fitsN hgl, c2]; decide), if_neg (by rw [his]; decide)]
        have hr := rput_newN tl 158 n f hf hn c1 c2
        obtain ⟨z1, z2⟩ := lay_step (fresh_inv hn hgl hf) hf c2
        rw [← hput] at z1 z2
        rw [← z1, ho] at hr
        exact ⟨s, b, e, _, some _, hp, hr, z2⟩
    · have hput : g.put f = (out ByteArray.empty false 11, g) := by
        unfold Gl.put
        rw [if_pos c1]
        rfl
      rw [hput] at ho hp
      simp only at ho hp
      have hr := rput_kindN tl 158 n f c1
      rw [ho] at hr
      exact ⟨s, b, e, g, none, hp, hr, his, hgl, hn, hg0⟩
  | some w =>
    have hv : Inv n g w := hok
    have hp := put_a 191 g f hf hv.gin
    have hr := rput_a tl 158 w f hf hv.rin
    obtain ⟨z1, z2⟩ := put_step hv hf
    rw [ho] at hp
    rw [← z1, ho] at hr
    exact ⟨s, b, e, _, some _, hp, hr, z2⟩
theorem frames_len (l : List Fr) : (l.flatMap Fr.c).length = l.length * 19 := by
  induction l with
  | nil => rfl
  | cons f l ih =>
    rw [List.flatMap_cons, List.length_append, ih, List.length_cons]
    show 19 + _ = _
    omega
theorem frames_at : ∀ (l : List Fr) (i : Nat) (h : i < l.length), ((l.flatMap Fr.c).drop (i * 19)).take 19 = l[i].c
  | f :: l, 0, _ => by
    rw [List.flatMap_cons]
    simp [Fr.c]
  | f :: l, i + 1, h => by
    have ih := frames_at l i (by simpa using h)
    have e : (i + 1) * 19 = f.c.length + i * 19 := by show _ = 19 + i * 19; omega
    rw [List.flatMap_cons, e, ← List.drop_drop, List.drop_left, ih]
    rfl
/-- All objects; between two frames. -/
def lob (n : Int) (tl : Tl) (g : Gl) : Option Rg → List Sym.Obj
  | none => [sO tl 2 true, Rg.noT n tl true, gK g 3 true, g.b true]
  | some w => [sO tl 2 true, ⟨true, true, false, [.v (.int .i64 w.size), .v (.bool true), .v (.int .u16 w.inc), .v (.int .u32 w.seq), .view 3 0 w.came.length 1 (some w.came.length), .v (.string tl.front), .v (.string tl.behind), .v (.int .u16 tl.ainc), .v (.int .u32 tl.aseq), .v (.int .u16 tl.tinc), .v (.int .u32 tl.tseq), .v (.bool tl.is), .v (.bool tl.fault)]⟩, gK g 4 true, w.c true, g.b true]
def senv (l : List Fr) (i : Nat) : Env := [(7, .ptr 0 0), (12, .ptr 1 0), (81, .shr l.length false (l.flatMap Fr.c)), (82, .v (.int .i64 l.length)), (83, .v (.int .i64 i))]
theorem lstep (n : Int) (l : List Fr) (hl : l.length ≤ 80) (i : Nat) (hi : i < l.length) (hb : l[i].b.size ≤ 40) (hk : l[i].kind = 0) (tl : Tl) (g : Gl) (w : Option Rg) (N : Nat) (ks : List It) :
    Lh (acall T 199) 199 (some ⟨senv l i, lob n tl g w, 1, []⟩) [7, 12, 81, 82, 83] l_fuglemanlaw18_GdataSubscribes_0 (N + 1) ks = Lh (acall T 199) 199 (some ⟨senv l (i + 1), lob n (Tl.latch tl) g w, 1, []⟩) [7, 12, 81, 82, 83] l_fuglemanlaw18_GdataSubscribes_0 N ks := by
  have c : (i : Int) < l.length := by omega
  have c0 : (0 : Int) ≤ i := by omega
  have e5 : i * 19 + 19 ≤ (l.flatMap Fr.c).length := by rw [frames_len]; omega
  have e6 := frames_at l i hi
  have big : ¬ (40 : Int) < l[i].b.size := by omega
  have w5 : IntKind.i64.wrap ((i : Int) + 1) = i + 1 := w64 (by omega) (by omega)
  generalize l[i] = f at *
  have h1 := latch_a 198 tl g
  have h2 := rlatch_a 198 n tl w
  have h3 := front_a 198 (Tl.latch tl) g
  have h4 := waits_a 198 (Tl.latch tl) g
  have h5 := fault_a 198 (Tl.latch tl) g
  generalize Tl.latch tl = t' at *
  rw [lh_as l_fuglemanlaw18_GdataSubscribes_0.eq_1]
  unfold sob sO gK Gl.b at h1 h3 h4 h5
  cases w <;>
  simp only [rob, Rg.oT, Rg.noT, Rg.c] at h2 <;>
  simp -implicitDefEqProofs only [eqs, Sym.wants, Sym.get, Sym.ev, Sym.evs, Sym.evO, Sym.evP, Sym.put, Sym.lev, Sym.aq, Sym.ae, aBin, aInt, isShift, aEqB, aEqP, aEqS, leavesEq, leafEq, aUn, Sym.rd, aLoad, aField, aFad, aNilck, asI, aIxS, aIxA, aIxV, aExt, aPick, aCvi, aCvs, aLen, aLenS, aMin2, aMax2, aFold, aFoldL, bnd, aSlStr, aSlS, fillL, newO, kill, aStore, putL, getO, cellsOf, Sym.elems, Sym.elemsS, aApp, aCpy, aClr, Sym.reps, aCall, aCallQ, finishCall, Sym.refs, Sym.refs1, Sym.refs0, okv, ok1, Sym.atom, flat0, dedup, Sym.reach, Sym.pos, Sym.sub, renO, Sym.ren, Sym.ren1, Sym.ren0, gmap, mergeOld, mergeNew, mergeO, allFresh, Sym.det, Sym.det0, Sym.canon, keepEnv, aRes, Sym.one, frzM, frz1, frz0, frzL, args0, dead0, aCallM, aopM_s, if_true, if_false, ite_true, ite_false, reduceIte, reduceCtorEq, Nat.reduceEqDiff, ne_eq, Nat.reduceAdd, Nat.reduceSub, Nat.reduceMul, Nat.reduceLT, Nat.reduceLeDiff, Nat.reduceBEq, Nat.reduceBNe, Nat.reduceGT, Int.reduceEq, Int.reduceLT, Int.reduceLE, Int.reduceToNat, Int.reduceAdd, Int.reduceSub, Int.reduceMul, Int.reduceNeg, Int.reduceBEq, Int.reduceBNe, senv, lob, sO, gK, Gl.b, Rg.noT, Rg.c, c, c0, e5, e6, big, w5, Fr.c, hk, h1, h2, h3, h4, h5, Int.toNat_natCast, Int.natCast_add]
theorem pstep (n : Int) (l : List Fr) (hl : l.length ≤ 80) (i : Nat) (hi : i < l.length) (hb : l[i].b.size ≤ 40) (hk : l[i].kind ≠ 0) (tl : Tl) (g g' : Gl) (w w' : Option Rg) (s : ByteArray) (b : Bool) (e : Int)
    (hp : acall T 198 31 1 [.ptr 0 0, .agg l[i].c] [g.o false, g.b false] = some ⟨out s b e, [g'.o false, g'.b false], 2⟩)
    (hr : acall T 198 32 1 [.ptr 0 0, .agg l[i].c] (rob n tl w) = some ⟨out s b e, rob n tl w', 2⟩) (N : Nat) (ks : List It) :
    Lh (acall T 199) 199 (some ⟨senv l i, lob n tl g w, 1, []⟩) [7, 12, 81, 82, 83] l_fuglemanlaw18_GdataSubscribes_0 (N + 1) ks = Lh (acall T 199) 199 (some ⟨senv l (i + 1), lob n (Tl.put tl l[i] s b e) g' w', 1, []⟩) [7, 12, 81, 82, 83] l_fuglemanlaw18_GdataSubscribes_0 N ks := by
  have c : (i : Int) < l.length := by omega
  have c0 : (0 : Int) ≤ i := by omega
  have e5 : i * 19 + 19 ≤ (l.flatMap Fr.c).length := by rw [frames_len]; omega
  have e6 := frames_at l i hi
  have big : ¬ (40 : Int) < l[i].b.size := by omega
  have w5 : IntKind.i64.wrap ((i : Int) + 1) = i + 1 := w64 (by omega) (by omega)
  have h1 := sput_a 190 tl g g' l[i] s b e hp
  have h2 := rsput_a 158 n tl w w' l[i] s b e hr
  generalize l[i] = f at *
  have hk' : (f.kind == 0) = false := by simpa using hk
  have h3 := front_a 198 (Tl.put tl f s b e) g'
  have h4 := waits_a 198 (Tl.put tl f s b e) g'
  have h5 := fault_a 198 (Tl.put tl f s b e) g'
  generalize Tl.put tl f s b e = t' at *
  rw [lh_as l_fuglemanlaw18_GdataSubscribes_0.eq_1]
  unfold sob sO gK Gl.b at h1 h3 h4 h5
  cases w <;> cases w' <;>
  simp only [rob, Rg.oT, Rg.noT, Rg.c, Fr.c] at h1 h2 <;>
  simp -implicitDefEqProofs only [eqs, Sym.wants, Sym.get, Sym.ev, Sym.evs, Sym.evO, Sym.evP, Sym.put, Sym.lev, Sym.aq, Sym.ae, aBin, aInt, isShift, aEqB, aEqP, aEqS, leavesEq, leafEq, aUn, Sym.rd, aLoad, aField, aFad, aNilck, asI, aIxS, aIxA, aIxV, aExt, aPick, aCvi, aCvs, aLen, aLenS, aMin2, aMax2, aFold, aFoldL, bnd, aSlStr, aSlS, fillL, newO, kill, aStore, putL, getO, cellsOf, Sym.elems, Sym.elemsS, aApp, aCpy, aClr, Sym.reps, aCall, aCallQ, finishCall, Sym.refs, Sym.refs1, Sym.refs0, okv, ok1, Sym.atom, flat0, dedup, Sym.reach, Sym.pos, Sym.sub, renO, Sym.ren, Sym.ren1, Sym.ren0, gmap, mergeOld, mergeNew, mergeO, allFresh, Sym.det, Sym.det0, Sym.canon, keepEnv, aRes, Sym.one, frzM, frz1, frz0, frzL, args0, dead0, aCallM, aopM_s, if_true, if_false, ite_true, ite_false, reduceIte, reduceCtorEq, Nat.reduceEqDiff, ne_eq, Nat.reduceAdd, Nat.reduceSub, Nat.reduceMul, Nat.reduceLT, Nat.reduceLeDiff, Nat.reduceBEq, Nat.reduceBNe, Nat.reduceGT, Int.reduceEq, Int.reduceLT, Int.reduceLE, Int.reduceToNat, Int.reduceAdd, Int.reduceSub, Int.reduceMul, Int.reduceNeg, Int.reduceBEq, Int.reduceBNe, senv, lob, sO, gK, Gl.b, Rg.noT, Rg.c, c, c0, e5, e6, big, w5, Fr.c, hk', h1, h2, h3, h4, h5, Int.toNat_natCast, Int.natCast_add]
theorem sloop (n : Int) (l : List Fr) (hl : l.length ≤ 80) (hin : ∀ f ∈ l, f.In) : ∀ (N i : Nat) (tl : Tl) (g : Gl) (w : Option Rg), OkS n g w → i ≤ l.length → l.length - i ≤ N →
    FnR [.t 6] false false (Lh (acall T 199) 199 (some ⟨senv l i, lob n tl g w, 1, []⟩) [7, 12, 81, 82, 83] l_fuglemanlaw18_GdataSubscribes_0 N [.b 0, .c l_fuglemanlaw18_GdataSubscribes_1]) = some ⟨.v (.bool true), [], 1⟩
  | N, i, tl, g, w, hok, hi, hN => by
    by_cases d : i < l.length
    · obtain ⟨N, rfl⟩ : ∃ n', N = n' + 1 := ⟨N - 1, by omega⟩
      by_cases big : 40 < l[i].b.size
      · have c : (i : Int) < l.length := by omega
        have c0 : (0 : Int) ≤ i := by omega
        have e5 : i * 19 + 19 ≤ (l.flatMap Fr.c).length := by rw [frames_len]; omega
        have e6 := frames_at l i d
        have big' : (40 : Int) < l[i].b.size := by omega
        generalize l[i] = f at *
        rw [lh_as l_fuglemanlaw18_GdataSubscribes_0.eq_1]
        cases w <;> simp -implicitDefEqProofs only [eqs, Sym.wants, Sym.get, Sym.ev, Sym.evs, Sym.evO, Sym.evP, Sym.put, Sym.lev, Sym.aq, Sym.ae, aBin, aInt, isShift, aEqB, aEqP, aEqS, leavesEq, leafEq, aUn, Sym.rd, aLoad, aField, aFad, aNilck, asI, aIxS, aIxA, aIxV, aExt, aPick, aCvi, aCvs, aLen, aLenS, aMin2, aMax2, aFold, aFoldL, bnd, aSlStr, aSlS, fillL, newO, kill, aStore, putL, getO, cellsOf, Sym.elems, Sym.elemsS, aApp, aCpy, aClr, Sym.reps, aCall, aCallQ, finishCall, Sym.refs, Sym.refs1, Sym.refs0, okv, ok1, Sym.atom, flat0, dedup, Sym.reach, Sym.pos, Sym.sub, renO, Sym.ren, Sym.ren1, Sym.ren0, gmap, mergeOld, mergeNew, mergeO, allFresh, Sym.det, Sym.det0, Sym.canon, keepEnv, aRes, Sym.one, frzM, frz1, frz0, frzL, args0, dead0, aCallM, aopM_s, if_true, if_false, ite_true, ite_false, reduceIte, reduceCtorEq, Nat.reduceEqDiff, ne_eq, Nat.reduceAdd, Nat.reduceSub, Nat.reduceMul, Nat.reduceLT, Nat.reduceLeDiff, Nat.reduceBEq, Nat.reduceBNe, Nat.reduceGT, Int.reduceEq, Int.reduceLT, Int.reduceLE, Int.reduceToNat, Int.reduceAdd, Int.reduceSub, Int.reduceMul, Int.reduceNeg, Int.reduceBEq, Int.reduceBNe, senv, lob, sO, gK, Gl.b, Rg.noT, Rg.c, c, c0, e5, e6, big', Fr.c, Int.toNat_natCast]
      · by_cases hk : l[i].kind = 0
        · rw [lstep n l hl i d (by omega) hk tl g w N _]
          exact sloop n l hl hin N (i + 1) _ g w hok d (by omega)
        · obtain ⟨s, b, e, g', w', hp, hr, hok'⟩ := both n g w l[i] (hin _ (List.getElem_mem d)) hok tl
          rw [pstep n l hl i d (by omega) hk tl g g' w w' s b e hp hr N _]
          exact sloop n l hl hin N (i + 1) _ g' w' hok' d (by omega)
    · have c : ¬ (i : Int) < l.length := by omega
      rw [lh_as l_fuglemanlaw18_GdataSubscribes_0.eq_1]
      cases w <;> simp -implicitDefEqProofs only [eqs, Sym.wants, Sym.get, Sym.ev, Sym.evs, Sym.evO, Sym.evP, Sym.put, Sym.lev, Sym.aq, Sym.ae, aBin, aInt, isShift, aEqB, aEqP, aEqS, leavesEq, leafEq, aUn, Sym.rd, aLoad, aField, aFad, aNilck, asI, aIxS, aIxA, aIxV, aExt, aPick, aCvi, aCvs, aLen, aLenS, aMin2, aMax2, aFold, aFoldL, bnd, aSlStr, aSlS, fillL, newO, kill, aStore, putL, getO, cellsOf, Sym.elems, Sym.elemsS, aApp, aCpy, aClr, Sym.reps, aCall, aCallQ, finishCall, Sym.refs, Sym.refs1, Sym.refs0, okv, ok1, Sym.atom, flat0, dedup, Sym.reach, Sym.pos, Sym.sub, renO, Sym.ren, Sym.ren1, Sym.ren0, gmap, mergeOld, mergeNew, mergeO, allFresh, Sym.det, Sym.det0, Sym.canon, keepEnv, aRes, Sym.one, frzM, frz1, frz0, frzL, args0, dead0, aCallM, aopM_s, if_true, if_false, ite_true, ite_false, reduceIte, reduceCtorEq, Nat.reduceEqDiff, ne_eq, Nat.reduceAdd, Nat.reduceSub, Nat.reduceMul, Nat.reduceLT, Nat.reduceLeDiff, Nat.reduceBEq, Nat.reduceBNe, Nat.reduceGT, Int.reduceEq, Int.reduceLT, Int.reduceLE, Int.reduceToNat, Int.reduceAdd, Int.reduceSub, Int.reduceMul, Int.reduceNeg, Int.reduceBEq, Int.reduceBNe, l_fuglemanlaw18_GdataSubscribes_1, senv, lob, sO, gK, Gl.b, Rg.noT, Rg.c, c]
abbrev FS := S36
abbrev CS := S52
def toFr (v : FS) : Glue.Fr := ⟨v.f0, fun i => ([.int .u8 v.f1, .int .u8 v.f2, .int .u16 v.f3, .int .u16 v.f4, .int .u16 v.f5.f0, .int .u8 v.f5.f1, .int .u16 v.f5.f2, .int .u16 v.f6, .int .u16 v.f7.f0, .int .u8 v.f7.f1, .int .u16 v.f7.f2, .bool v.f8, .int .u8 v.f9] : List Value).getD i.1 (.bool false), v.f10.f0, v.f10.f1, v.f11, v.f12, v.f13⟩
theorem cames (l : List CS) : l.flatMap S52.av = (l.map fun v => toFr v.f0).flatMap Glue.Fr.c := by
  induction l with
  | nil => rfl
  | cons v l ih => rw [List.flatMap_cons, ih]; rfl
theorem GdataSubscribes : ∀ (a0 : Int) (a1 : ByteArray) (a2 : List (CS)), (-9223372036854775808 ≤ a0 ∧ a0 ≤ 9223372036854775807) → a1.size ≤ 140737488351232 → (a2.length ≤ 140737488351232 ∧ ∀ (i0 : Nat) x0, a2[i0]? = some x0 → S52.In x0) → ∃ ob d, acall T 200 4 0 [.v (.int .i64 a0), .v (.string a1), .shr a2.length false (a2.flatMap S52.av)] [] = some ⟨.v (.bool true), ob, d⟩ := by
  intro n v A h0 h1 h2
  have hlen : A.length = (A.map fun v => toFr v.f0).length := by simp
  have hin : ∀ f ∈ A.map (fun v => toFr v.f0), f.In := fun f hf => by
    obtain ⟨v, hv, rfl⟩ := List.mem_map.1 hf
    obtain ⟨i, hi⟩ := List.mem_iff_getElem?.1 hv
    have h := (h2.2 i v hi).f0
    exact ⟨h.f11, h.f12, h.f10.f0, h.f10.f1⟩
  rw [cames, hlen]
  generalize (A.map fun v => toFr v.f0) = l at hin
  clear h2 hlen
  rw [acall_go (k := 199) (body := b_fuglemanlaw18_GdataSubscribes) rfl rfl (Nat.zero_le _)]
  have hw := GAwk.awake_a
  by_cases c0 : 100 < v.size
  · have c0' : (100 : Int) < v.size := by omega
    exact ⟨[], 1, by simp -implicitDefEqProofs only [eqs, Sym.wants, Sym.get, Sym.ev, Sym.evs, Sym.evO, Sym.evP, Sym.put, Sym.lev, Sym.aq, Sym.ae, aBin, aInt, isShift, aEqB, aEqP, aEqS, leavesEq, leafEq, aUn, Sym.rd, aLoad, aField, aFad, aNilck, asI, aIxS, aIxA, aIxV, aExt, aPick, aCvi, aCvs, aLen, aLenS, aMin2, aMax2, aFold, aFoldL, bnd, aSlStr, aSlS, fillL, newO, kill, aStore, putL, getO, cellsOf, Sym.elems, Sym.elemsS, aApp, aCpy, aClr, Sym.reps, aCall, aCallQ, finishCall, Sym.refs, Sym.refs1, Sym.refs0, okv, ok1, Sym.atom, flat0, dedup, Sym.reach, Sym.pos, Sym.sub, renO, Sym.ren, Sym.ren1, Sym.ren0, gmap, mergeOld, mergeNew, mergeO, allFresh, Sym.det, Sym.det0, Sym.canon, keepEnv, aRes, Sym.one, frzM, frz1, frz0, frzL, args0, dead0, aCallM, aopM_s, if_true, if_false, ite_true, ite_false, reduceIte, reduceCtorEq, Nat.reduceEqDiff, ne_eq, Nat.reduceAdd, Nat.reduceSub, Nat.reduceMul, Nat.reduceLT, Nat.reduceLeDiff, Nat.reduceBEq, Nat.reduceBNe, Nat.reduceGT, Int.reduceEq, Int.reduceLT, Int.reduceLE, Int.reduceToNat, Int.reduceAdd, Int.reduceSub, Int.reduceMul, Int.reduceNeg, Int.reduceBEq, Int.reduceBNe, b_fuglemanlaw18_GdataSubscribes, hw, c0']⟩
  have c0' : ¬ (100 : Int) < v.size := by omega
  by_cases c1 : 80 < l.length
  · have c1' : (80 : Int) < l.length := by omega
    exact ⟨[], 1, by simp -implicitDefEqProofs only [eqs, Sym.wants, Sym.get, Sym.ev, Sym.evs, Sym.evO, Sym.evP, Sym.put, Sym.lev, Sym.aq, Sym.ae, aBin, aInt, isShift, aEqB, aEqP, aEqS, leavesEq, leafEq, aUn, Sym.rd, aLoad, aField, aFad, aNilck, asI, aIxS, aIxA, aIxV, aExt, aPick, aCvi, aCvs, aLen, aLenS, aMin2, aMax2, aFold, aFoldL, bnd, aSlStr, aSlS, fillL, newO, kill, aStore, putL, getO, cellsOf, Sym.elems, Sym.elemsS, aApp, aCpy, aClr, Sym.reps, aCall, aCallQ, finishCall, Sym.refs, Sym.refs1, Sym.refs0, okv, ok1, Sym.atom, flat0, dedup, Sym.reach, Sym.pos, Sym.sub, renO, Sym.ren, Sym.ren1, Sym.ren0, gmap, mergeOld, mergeNew, mergeO, allFresh, Sym.det, Sym.det0, Sym.canon, keepEnv, aRes, Sym.one, frzM, frz1, frz0, frzL, args0, dead0, aCallM, aopM_s, if_true, if_false, ite_true, ite_false, reduceIte, reduceCtorEq, Nat.reduceEqDiff, ne_eq, Nat.reduceAdd, Nat.reduceSub, Nat.reduceMul, Nat.reduceLT, Nat.reduceLeDiff, Nat.reduceBEq, Nat.reduceBNe, Nat.reduceGT, Int.reduceEq, Int.reduceLT, Int.reduceLE, Int.reduceToNat, Int.reduceAdd, Int.reduceSub, Int.reduceMul, Int.reduceNeg, Int.reduceBEq, Int.reduceBNe, b_fuglemanlaw18_GdataSubscribes, hw, c0', c1']⟩
  have c1' : ¬ (80 : Int) < l.length := by omega
  by_cases hn : 1 ≤ n ∧ n ≤ 64
  · have d1 : ¬ n < 1 := by omega
    have d2 : ¬ 64 < n := by omega
    have hnew := newsub_a 196 n v hn (by omega)
    have hrn := rnew_a 119 n v hn (by omega)
    have ho := sloop n l (by omega) hin 198 0 (tl0 n v) (gl0 n) none ⟨rfl, by show ((List.replicate n.toNat (0:Int)).length : Int) = n; rw [List.length_replicate]; omega, hn, rfl⟩ (Nat.zero_le _) (by omega)
    have lp : ∀ (ks : List It) (s : St), Lp (acall T 199) 199 [7, 12, 81, 82, 83] l_fuglemanlaw18_GdataSubscribes_0 199 ks s = Lh (acall T 199) 199 (canon [7, 12, 81, 82, 83] s) [7, 12, 81, 82, 83] l_fuglemanlaw18_GdataSubscribes_0 198 ks := fun ks s => lp_succ (n := 198)
    generalize tl0 n v = tl at *
    generalize gl0 n = g at *
    simp only [senv, lob, sO, gK, Gl.b, Rg.noT, Int.natCast_zero] at ho hnew hrn
    exact ⟨[], 1, by simp -implicitDefEqProofs only [eqs, Sym.wants, Sym.get, Sym.ev, Sym.evs, Sym.evO, Sym.evP, Sym.put, Sym.lev, Sym.aq, Sym.ae, aBin, aInt, isShift, aEqB, aEqP, aEqS, leavesEq, leafEq, aUn, Sym.rd, aLoad, aField, aFad, aNilck, asI, aIxS, aIxA, aIxV, aExt, aPick, aCvi, aCvs, aLen, aLenS, aMin2, aMax2, aFold, aFoldL, bnd, aSlStr, aSlS, fillL, newO, kill, aStore, putL, getO, cellsOf, Sym.elems, Sym.elemsS, aApp, aCpy, aClr, Sym.reps, aCall, aCallQ, finishCall, Sym.refs, Sym.refs1, Sym.refs0, okv, ok1, Sym.atom, flat0, dedup, Sym.reach, Sym.pos, Sym.sub, renO, Sym.ren, Sym.ren1, Sym.ren0, gmap, mergeOld, mergeNew, mergeO, allFresh, Sym.det, Sym.det0, Sym.canon, keepEnv, aRes, Sym.one, frzM, frz1, frz0, frzL, args0, dead0, aCallM, aopM_s, if_true, if_false, ite_true, ite_false, reduceIte, reduceCtorEq, Nat.reduceEqDiff, ne_eq, Nat.reduceAdd, Nat.reduceSub, Nat.reduceMul, Nat.reduceLT, Nat.reduceLeDiff, Nat.reduceBEq, Nat.reduceBNe, Nat.reduceGT, Int.reduceEq, Int.reduceLT, Int.reduceLE, Int.reduceToNat, Int.reduceAdd, Int.reduceSub, Int.reduceMul, Int.reduceNeg, Int.reduceBEq, Int.reduceBNe, b_fuglemanlaw18_GdataSubscribes, hw, c0', c1', d1, d2, hnew, hrn, lp, ho]⟩
  · have hnew := newsub_nil 196 n v hn
    have q1 : ∀ cs : List AV, cs.all atom = true → acall T 199 12 0 [.v (.pointer none), .agg cs] [] = some ⟨.tup [.v (.bool false), .v (.int .i64 1)], [], 2⟩ := fun cs => sput_nil 190 cs
    have q2 := front_nil 198
    have q3 := latch_nil 198
    have q4 := fault_nil 198
    refine ⟨[], 1, ?_⟩
    by_cases d1 : n < 1
    · simp -implicitDefEqProofs only [eqs, Sym.wants, Sym.get, Sym.ev, Sym.evs, Sym.evO, Sym.evP, Sym.put, Sym.lev, Sym.aq, Sym.ae, aBin, aInt, isShift, aEqB, aEqP, aEqS, leavesEq, leafEq, aUn, Sym.rd, aLoad, aField, aFad, aNilck, asI, aIxS, aIxA, aIxV, aExt, aPick, aCvi, aCvs, aLen, aLenS, aMin2, aMax2, aFold, aFoldL, bnd, aSlStr, aSlS, fillL, newO, kill, aStore, putL, getO, cellsOf, Sym.elems, Sym.elemsS, aApp, aCpy, aClr, Sym.reps, aCall, aCallQ, finishCall, Sym.refs, Sym.refs1, Sym.refs0, okv, ok1, Sym.atom, flat0, dedup, Sym.reach, Sym.pos, Sym.sub, renO, Sym.ren, Sym.ren1, Sym.ren0, gmap, mergeOld, mergeNew, mergeO, allFresh, Sym.det, Sym.det0, Sym.canon, keepEnv, aRes, Sym.one, frzM, frz1, frz0, frzL, args0, dead0, aCallM, aopM_s, if_true, if_false, ite_true, ite_false, reduceIte, reduceCtorEq, Nat.reduceEqDiff, ne_eq, Nat.reduceAdd, Nat.reduceSub, Nat.reduceMul, Nat.reduceLT, Nat.reduceLeDiff, Nat.reduceBEq, Nat.reduceBNe, Nat.reduceGT, Int.reduceEq, Int.reduceLT, Int.reduceLE, Int.reduceToNat, Int.reduceAdd, Int.reduceSub, Int.reduceMul, Int.reduceNeg, Int.reduceBEq, Int.reduceBNe, b_fuglemanlaw18_GdataSubscribes, hw, c0', c1', d1, hnew, q1, q2, q3, q4, Refs.emp]
    · have d2 : 64 < n := by omega
      simp -implicitDefEqProofs only [eqs, Sym.wants, Sym.get, Sym.ev, Sym.evs, Sym.evO, Sym.evP, Sym.put, Sym.lev, Sym.aq, Sym.ae, aBin, aInt, isShift, aEqB, aEqP, aEqS, leavesEq, leafEq, aUn, Sym.rd, aLoad, aField, aFad, aNilck, asI, aIxS, aIxA, aIxV, aExt, aPick, aCvi, aCvs, aLen, aLenS, aMin2, aMax2, aFold, aFoldL, bnd, aSlStr, aSlS, fillL, newO, kill, aStore, putL, getO, cellsOf, Sym.elems, Sym.elemsS, aApp, aCpy, aClr, Sym.reps, aCall, aCallQ, finishCall, Sym.refs, Sym.refs1, Sym.refs0, okv, ok1, Sym.atom, flat0, dedup, Sym.reach, Sym.pos, Sym.sub, renO, Sym.ren, Sym.ren1, Sym.ren0, gmap, mergeOld, mergeNew, mergeO, allFresh, Sym.det, Sym.det0, Sym.canon, keepEnv, aRes, Sym.one, frzM, frz1, frz0, frzL, args0, dead0, aCallM, aopM_s, if_true, if_false, ite_true, ite_false, reduceIte, reduceCtorEq, Nat.reduceEqDiff, ne_eq, Nat.reduceAdd, Nat.reduceSub, Nat.reduceMul, Nat.reduceLT, Nat.reduceLeDiff, Nat.reduceBEq, Nat.reduceBNe, Nat.reduceGT, Int.reduceEq, Int.reduceLT, Int.reduceLE, Int.reduceToNat, Int.reduceAdd, Int.reduceSub, Int.reduceMul, Int.reduceNeg, Int.reduceBEq, Int.reduceBNe, b_fuglemanlaw18_GdataSubscribes, hw, c0', c1', d1, d2, hnew, q1, q2, q3, q4, Refs.emp]
end Go.Proofs.Ytkaigdfklihlcaa.Said
