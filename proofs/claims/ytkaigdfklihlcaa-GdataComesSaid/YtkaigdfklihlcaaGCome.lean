/- What comes of a publisher's parts, all of which come to a subscriber. -/
import Derived.Test.YtkaigdfklihlcaaGNew
import Derived.Test.YtkaigdfklihlcaaGPub
import Derived.Test.YtkaigdfklihlcaaLeft
namespace Go.Proofs.Ytkaigdfklihlcaa.GCome
open Go Go.Proofs.Ytkaigdfklihlcaa.Sym Go.Proofs.Ytkaigdfklihlcaa.Tab Go.Proofs.Ytkaigdfklihlcaa.Blk Go.Proofs.Ytkaigdfklihlcaa.Glue Go.Proofs.Ytkaigdfklihlcaa.Refs Go.Proofs.Ytkaigdfklihlcaa.RefsT Go.Proofs.Ytkaigdfklihlcaa.PR Go.Proofs.Ytkaigdfklihlcaa.Spl Go.Proofs.Ytkaigdfklihlcaa.GSub Go.Proofs.Ytkaigdfklihlcaa.GPub
set_option linter.unusedVariables false
set_option linter.unusedSimpArgs false
theorem cmp_self (a b : Int) : cmpV a b a b = 0 := by unfold cmpV or2 cmp3; simp
theorem twice {f : Fr} {s : ByteArray} (hs : 1 ≤ s.size ∧ s.size ≤ 64) {ps : List Nat} {g : Gl} {w : Rg} (h : Le f s ps g w) (his : g.is = true) {p : Nat} (hp : p < (parts s.size).toNat) (hn : p ∉ ps) : g.put (fr f s p) = (out ByteArray.empty false 14, g) := by
  have hfit := fr_fit (f := f) hs hp
  have hinv := h.inv
  rw [if_pos his] at hinv
  obtain ⟨a1, a2⟩ := h.at_ his
  have e : cmpV (fr f s p).inc (fr f s p).seq g.inc g.seq = 0 := by rw [a1, a2]; exact cmp_self _ _
  have hput : g.put (fr f s p) = g.lay (fr f s p) := by
    unfold Gl.put
    rw [if_neg (show ¬ ((fr f s p).kind != 4) = true by rw [show (fr f s p).kind = 4 from rfl]; decide), fitsN hinv.gl, hfit, if_neg (by decide), if_pos his, e, if_neg (by decide), if_neg (by decide)]
  rw [hput]
  have hx : w.came[p]? = some (w.came[p]'(by rw [hinv.l]; exact hp)) := List.getElem?_eq_getElem _
  have hc := h.came p _ hx
  rw [if_neg hn] at hc
  have hne : cut s p ≠ ByteArray.empty := by
    intro e
    have hz := (cut_size hs hp)
    rw [e] at hz
    simp at hz
    omega
  have hh := (hinv.part p _ hx).1
  rw [hc, decide_eq_false hne] at hh
  unfold Gl.lay
  rw [if_pos (show had g.came (fr f s p).part = true from hh)]
  rfl
theorem newer {f : Fr} {s : ByteArray} (hs : 1 ≤ s.size ∧ s.size ≤ 64) {g : Gl} (his : g.is = true) (hl : (g.val.length : Int) = s.size) {p : Nat} (hp : p < (parts s.size).toNat) (hlt : 0 < cmpV f.inc f.seq g.inc g.seq) : g.put (fr f s p) = ({ g with is := false } : Gl).put (fr f s p) := by
  have hfit := fr_fit (f := f) hs hp
  have hfit' : fits ({ g with is := false } : Gl) (fr f s p) = true := by rw [fitsN (g := { g with is := false }) hl]; exact hfit
  have h1 : 0 < cmpV (fr f s p).inc (fr f s p).seq g.inc g.seq := hlt
  have hL : g.put (fr f s p) = (g.begin (fr f s p).inc (fr f s p).seq).lay (fr f s p) := by
    unfold Gl.put
    rw [if_neg (show ¬ ((fr f s p).kind != 4) = true by rw [show (fr f s p).kind = 4 from rfl]; decide), fitsN hl, hfit, if_neg (by decide), if_pos his, if_neg (by omega), if_pos h1]
  have hR : ({ g with is := false } : Gl).put (fr f s p) = (({ g with is := false } : Gl).begin (fr f s p).inc (fr f s p).seq).lay (fr f s p) := by
    unfold Gl.put
    rw [if_neg (show ¬ ((fr f s p).kind != 4) = true by rw [show (fr f s p).kind = 4 from rfl]; decide), hfit', if_neg (by decide)]
    exact if_neg (by simp)
  rw [hL, hR]
  rfl
theorem cmp_seq {a b : Int} (h : a < b) : 0 < cmpV 1 b 1 a := by
  have h1 : ¬ b < a := by omega
  unfold cmpV or2 cmp3
  simp [h, h1]
structure CInv (n : Nat) (p : Pb) (g : Gl) (tl : Tl) : Prop where
  hn : 1 ≤ n ∧ n ≤ 64
  pn : p.n = n
  inc : p.inc = 1
  seq : 0 ≤ p.seq ∧ p.seq ≤ 1000
  vs : p.val.size ≤ 64 ∧ (0 < p.seq → p.val.size = n)
  gin : g.In
  gl : g.val.length = n
  way : (g.is = false ∧ p.nx = 0 ∧ p.left = 0 ∧ p.wseq = 0 ∧ p.wval = ByteArray.empty) ∨
    (∃ (a b : Nat) (ps : List Nat) (w : Rg), p.nx = a ∧ p.left = b ∧ a + b = (parts n).toNat ∧ Le (verF 1 p.wseq) p.wval ps g w ∧ g.is = true ∧ p.winc = 1 ∧ p.wval.size = n ∧ 1 ≤ p.wseq ∧ p.wseq ≤ p.seq ∧ (p.wseq = p.seq → p.wval = p.val) ∧
      (ps = List.range' a b ∨ ps = []) ∧ (ps = [] → tl.is = true ∧ tl.behind = p.wval ∧ tl.tinc = 1 ∧ tl.tseq = p.wseq))
theorem CInv.pin {n : Nat} {p : Pb} {g : Gl} {tl : Tl} (h : CInv n p g tl) : p.In := by
  have hp := parts_le n
  have hn := h.hn
  have h1 := h.pn
  rcases h.way with ⟨h1', h2, h3, h4, h5⟩ | ⟨a, b, ps, w, h2, h3, h4, _, _, _, h5, _⟩
  · exact ⟨by omega, by omega, by omega, h.vs.1, by rw [h5]; decide⟩
  · exact ⟨by omega, by omega, by omega, h.vs.1, by omega⟩
theorem put_e3 (tl : Tl) (f : Fr) (s : ByteArray) (b : Bool) : Tl.put tl f s b 0 = if b = true then { tl with behind := s, tinc := f.inc, tseq := f.seq, is := true } else tl := by
  unfold Tl.put
  simp
theorem put_e14 (tl : Tl) (f : Fr) (s : ByteArray) : Tl.put tl f s false 14 = tl := by
  unfold Tl.put
  rw [if_neg (by decide), if_neg (by decide)]
theorem verF_in {q : Int} (h : 0 ≤ q ∧ q ≤ 1000) : (verF 1 q).In := ⟨by show (0:Int) ≤ 0 ∧ (0:Int) ≤ 255; decide, by show (0:Int) ≤ 0 ∧ (0:Int) ≤ 255; decide, by show (0:Int) ≤ 1 ∧ (1:Int) ≤ 65535; decide, by show 0 ≤ q ∧ q ≤ 4294967295; omega⟩
theorem its_is {f : Fr} {s : ByteArray} (hs : 1 ≤ s.size ∧ s.size ≤ 64) {g : Gl} (hl : (g.val.length : Int) = s.size) {p : Nat} (hp : p < (parts s.size).toNat) : (g.put (fr f s p)).2.is = true := by
  have hl' : ∀ g : Gl, g.is = true → (g.lay (fr f s p)).2.is = true := fun g hg => by
    unfold Gl.lay
    split
    · exact hg
    · split <;> exact hg
  have hfit := fr_fit (f := f) hs hp
  unfold Gl.put
  rw [if_neg (show ¬ ((fr f s p).kind != 4) = true by rw [show (fr f s p).kind = 4 from rfl]; decide), fitsN hl, hfit, if_neg (by decide)]
  by_cases c : g.is = true
  · rw [if_pos c]
    split
    · exact c
    · split
      · exact hl' _ rfl
      · exact hl' _ c
  · rw [if_neg c]
    exact hl' _ rfl
/-- What a step leads to. -/
def Nxt (n : Nat) (p : Pb) (g : Gl) (tl : Tl) : Prop := ∃ s b e, (g.put (frP p.beg)).1 = out s b e ∧ (e = 0 ∨ e = 14) ∧ CInv n p.adv (g.put (frP p.beg)).2 (Tl.put tl (frP p.beg) s b e)
/-- A part of those that are left comes. -/
theorem nxt_left {n : Nat} {p : Pb} {g : Gl} {tl : Tl} (hn : 1 ≤ n ∧ n ≤ 64) (h1 : p.n = n) (h2 : p.inc = 1) (h3 : 0 ≤ p.seq ∧ p.seq ≤ 1000) (h4 : p.val.size ≤ 64 ∧ (0 < p.seq → p.val.size = n)) (q : Pb) (hq : p.beg = q) (qn : q.n = n) (qi : q.inc = 1) (qs : q.seq = p.seq) (qv : q.val = p.val) (a b : Nat) (qa : q.nx = a) (qb : q.left = (b + 1 : Nat)) (hab : a + (b + 1) = (parts n).toNat) {w : Rg} (hle : Le (verF 1 q.wseq) q.wval (List.range' a (b + 1)) g w)
    (gl : g.val.length = n) (wi : q.winc = 1) (wn : q.wval.size = n) (w1 : 1 ≤ q.wseq) (w2 : q.wseq ≤ p.seq) (w3 : q.wseq = p.seq → q.wval = p.val) : Nxt n p g tl := by
  have hs : 1 ≤ q.wval.size ∧ q.wval.size ≤ 64 := by omega
  have hf : frP p.beg = fr (verF 1 q.wseq) q.wval a := by
    rw [hq]
    show ({ verF q.winc q.wseq with kind := 4, part := q.nx, np := parts q.n, b := cut q.wval q.nx } : Fr) = _
    rw [qn, wi, qa, ← wn]
    rfl
  have hk : (List.range' a (b + 1))[0]? = some a := by rw [List.range'_succ]; rfl
  obtain ⟨s1, ⟨w', s2⟩, s3, s4⟩ := left_step (verF_in (by omega)) hs hle hk
  have her : (List.range' a (b + 1)).eraseIdx 0 = List.range' (a + 1) b := by rw [List.range'_succ]; rfl
  rw [her] at s1 s2
  have his := its_is (f := verF 1 q.wseq) hs (g := g) (by rw [gl, wn]) (p := a) (by rw [wn]; omega)
  refine ⟨_, _, 0, by rw [hf]; exact s1, .inl rfl, ?_⟩
  rw [hf, put_e3]
  unfold Pb.adv
  rw [hq]
  refine ⟨hn, qn, qi, by show 0 ≤ q.seq ∧ q.seq ≤ 1000; omega, by show q.val.size ≤ 64 ∧ (0 < q.seq → q.val.size = n); rw [qv, qs]; exact h4, s3, by omega, .inr ⟨a + 1, b, _, w', by show q.nx + 1 = _; omega, by show q.left - 1 = _; omega, by omega, s2, his, wi, wn, w1, by show q.wseq ≤ q.seq; omega, by show q.wseq = q.seq → q.wval = q.val; rw [qs, qv]; exact w3, .inl rfl, fun e => ?_⟩⟩
  have e' : (List.range' (a + 1) b).isEmpty = true := by rw [e]; rfl
  rw [e', if_pos rfl, if_pos rfl]
  exact ⟨rfl, rfl, rfl, rfl⟩
/-- A part comes that came. -/
theorem nxt_twice {n : Nat} {p : Pb} {g : Gl} {tl : Tl} (hn : 1 ≤ n ∧ n ≤ 64) (h4 : p.val.size ≤ 64 ∧ (0 < p.seq → p.val.size = n)) (h3 : 0 ≤ p.seq ∧ p.seq ≤ 1000) (q : Pb) (hq : p.beg = q) (qn : q.n = n) (qi : q.inc = 1) (qs : q.seq = p.seq) (qv : q.val = p.val) (a b : Nat) (qa : q.nx = a) (qb : q.left = (b + 1 : Nat)) (hab : a + (b + 1) = (parts n).toNat) {w : Rg} (hle : Le (verF 1 q.wseq) q.wval [] g w) (gi : g.In)
    (gl : g.val.length = n) (his : g.is = true) (wi : q.winc = 1) (wn : q.wval.size = n) (w1 : 1 ≤ q.wseq) (w2 : q.wseq ≤ p.seq) (w3 : q.wseq = p.seq → q.wval = p.val) (ht : tl.is = true ∧ tl.behind = q.wval ∧ tl.tinc = 1 ∧ tl.tseq = q.wseq) : Nxt n p g tl := by
  have hs : 1 ≤ q.wval.size ∧ q.wval.size ≤ 64 := by omega
  have hf : frP p.beg = fr (verF 1 q.wseq) q.wval a := by
    rw [hq]
    show ({ verF q.winc q.wseq with kind := 4, part := q.nx, np := parts q.n, b := cut q.wval q.nx } : Fr) = _
    rw [qn, wi, qa, ← wn]
    rfl
  have ht2 := twice hs hle his (p := a) (by rw [wn]; omega) (by simp)
  refine ⟨_, _, 14, by rw [hf, ht2], .inr rfl, ?_⟩
  rw [hf, ht2, put_e14]
  unfold Pb.adv
  rw [hq]
  exact ⟨hn, qn, qi, by show 0 ≤ q.seq ∧ q.seq ≤ 1000; omega, by show q.val.size ≤ 64 ∧ (0 < q.seq → q.val.size = n); rw [qv, qs]; exact h4, gi, gl, .inr ⟨a + 1, b, [], w, by show q.nx + 1 = _; omega, by show q.left - 1 = _; omega, by omega, hle, his, wi, wn, w1, by show q.wseq ≤ q.seq; omega, by show q.wseq = q.seq → q.wval = q.val; rw [qs, qv]; exact w3, .inr rfl, fun _ => ht⟩⟩
theorem CInv.next {n : Nat} {p : Pb} {g : Gl} {tl : Tl} (h : CInv n p g tl) (hs : 0 < p.seq) : Nxt n p g tl := by
  have hn := h.hn
  have hpn := h.pn
  have hpl : 1 ≤ parts n ∧ parts n ≤ 4 := by unfold parts; split <;> omega
  have hvs := h.vs.2 hs
  have hseq := h.seq
  have hgl := h.gl
  have pb : p.left = 0 → p.beg = { p with wval := p.val, winc := p.inc, wseq := p.seq, nx := 0, left := parts p.n } := fun e => by unfold Pb.beg; rw [if_pos e]
  have qb : parts p.n = (((parts n).toNat - 1) + 1 : Nat) := by rw [hpn]; omega
  have rg : List.range' 0 (((parts n).toNat - 1) + 1) = List.range (parts n).toNat := by rw [List.range_eq_range']; congr 1; omega
  rcases h.way with ⟨h1, h2, h3, h4, h5⟩ | ⟨a, b, ps, w, h2, h3, h4, hle, his, wi, wn, w1, w2, w3, hps, htl⟩
  · obtain ⟨w, hw⟩ := left_begin (verF_in hseq) (s := p.val) (by omega) g h1 (by omega)
    rw [hvs, ← rg] at hw
    exact nxt_left hn hpn h.inc hseq h.vs _ (pb h3) hpn h.inc rfl rfl 0 ((parts n).toNat - 1) rfl qb (by omega) hw hgl h.inc hvs (by show 1 ≤ p.seq; omega) (Int.le_refl _) (fun _ => rfl)
  · cases b with
    | zero =>
      have hpe : ps = [] := by rcases hps with e | e; exact e; exact e
      subst hpe
      have ht := htl rfl
      by_cases c : p.wseq = p.seq
      · have hv := w3 c
        have hle' : Le (verF 1 p.seq) p.val [] g w := by rw [← c, ← hv]; exact hle
        have ht' : tl.is = true ∧ tl.behind = p.val ∧ tl.tinc = 1 ∧ tl.tseq = p.seq := by rw [← c, ← hv]; exact ht
        exact nxt_twice hn h.vs hseq _ (pb h3) hpn h.inc rfl rfl 0 ((parts n).toNat - 1) rfl qb (by omega) hle' h.gin hgl his h.inc hvs (by show 1 ≤ p.seq; omega) (Int.le_refl _) (fun _ => rfl) ht'
      · obtain ⟨a1, a2⟩ := hle.at_ his
        have hlt : 0 < cmpV (verF 1 p.seq).inc (verF 1 p.seq).seq g.inc g.seq := by
          rw [a1, a2]
          exact cmp_seq (show p.wseq < p.seq by omega)
        have hnw := newer (f := verF 1 p.seq) (s := p.val) (by omega) his (by omega) (p := 0) (by rw [hvs]; omega) hlt
        have hf : frP p.beg = fr (verF 1 p.seq) p.val 0 := by
          rw [pb h3]
          show ({ verF p.inc p.seq with kind := 4, part := 0, np := parts p.n, b := cut p.val 0 } : Fr) = _
          rw [hpn, h.inc, ← hvs]
          rfl
        obtain ⟨w', hw⟩ := left_begin (verF_in hseq) (s := p.val) (by omega) ({ g with is := false } : Gl) rfl (by show (g.val.length : Int) = _; omega)
        rw [hvs, ← rg] at hw
        have hN : Nxt n p ({ g with is := false } : Gl) tl := nxt_left hn hpn h.inc hseq h.vs _ (pb h3) hpn h.inc rfl rfl 0 ((parts n).toNat - 1) rfl qb (by omega) hw hgl h.inc hvs (by show 1 ≤ p.seq; omega) (Int.le_refl _) (fun _ => rfl)
        unfold Nxt at hN ⊢
        rw [hf] at hN ⊢
        rw [hnw]
        exact hN
    | succ b =>
      have pb' : p.beg = p := by unfold Pb.beg; rw [if_neg (by omega)]
      rcases hps with e | e
      · subst e
        exact nxt_left hn hpn h.inc hseq h.vs p pb' hpn h.inc rfl rfl a b h2 h3 (by omega) hle hgl wi wn w1 w2 w3
      · subst e
        exact nxt_twice hn h.vs hseq p pb' hpn h.inc rfl rfl a b h2 h3 (by omega) hle h.gin hgl his wi wn w1 w2 w3 (htl rfl)
end Go.Proofs.Ytkaigdfklihlcaa.GCome
