/- One more leads to an instruction to which others lead. -/
import Derived.KernelRfl
import Derived.Test.YthkjiclplecljaaProg
import Derived.Test.YthkjiclplecljaaMg7923157a
import Derived.Test.YthkjiclplecljaaMgdc55c505
import Derived.Test.YthkjiclplecljaaMg334e0519
namespace Go.Proofs.Ythkjiclplecljaa.Ver
open Go Go.Proofs.Ythkjiclplecljaa.Sym Go.Proofs.Ythkjiclplecljaa.Tab
set_option linter.unusedVariables false
set_option linter.unusedSimpArgs false
set_option maxHeartbeats 4000000
set_option maxRecDepth 20000
theorem HasT.mono {Ω Ω' : List Sym.Obj} {ps : List Nat} {t : List (Option Ah)} {fr : Bool} (h : HasT Ω ps t fr) (h0 : Ω'[0]? = Ω[0]?) (hs : ∀ p ∈ ps, Ω'[p]? = Ω[p]?) : HasT Ω' ps t fr where
  tab := by rw [h0]; exact h.tab
  len := h.len
  obj := fun j p a hp ha => by rw [hs p (List.mem_of_getElem? hp)]; exact h.obj j p a hp ha
  nodup := h.nodup
  zero := h.zero
  small := h.small
def meet (b a : Ah) : Ah := if b.k = a.k then b else { b with k := 0 }
theorem set_same {t : List (Option Ah)} {i : Nat} {x : Option Ah} (h : t[i]? = some x) : t.set i x = t := by
  obtain ⟨h1, h2⟩ := List.getElem?_eq_some_iff.1 h
  rw [← h2, List.set_getElem_self]
theorem lead_put (k : Nat) (t : List (Option Ah)) (tgt : Nat) (b : Ah) (hto : t[tgt]? = some (some b)) (hs : (som t).length < 300) (a : Ah) (ha : a.In) (hb : b.In) :
    acall T (k + 14) 51 1 [.view 0 0 t.length 1 (some t.length), .v (.int .i64 tgt), .agg a.c] (canT t false) = some ⟨.v (.bool (decide (b.bs = a.bs))), canT (t.set tgt (some (meet b a))) false, 2⟩ := by
  have hlt := (List.getElem?_eq_some_iff.1 hto).1
  rw [acall_go (body := b_verify_table_lead) rfl rfl (by rw [canT_eq]; show 1 ≤ _ + 1; omega)]
  have hcan := canT_has t false (by omega)
  rw [canT_eq] at hcan
  obtain ⟨p, hp, ht, hsb0⟩ := tcl_some (List.range' 1 (som t).length) t tgt b (by simp) hto
  have hcl := (List.getElem?_eq_some_iff.1 hsb0).1
  have hpc : p = cnt t tgt + 1 := by
    rw [List.getElem?_range' hcl] at hp
    have := Option.some.inj hp
    omega
  have htl := tcl_len (List.range' 1 (som t).length) t
  have c1 : (tgt : Int) < t.length := by omega
  have c0 : (0 : Int) ≤ tgt := by omega
  have c2 : tgt + 1 ≤ t.length := hlt
  have hL : (objs t)[cnt t tgt]? = some ⟨true, false, true, b.c⟩ := by unfold objs; rw [List.getElem?_map, hsb0]; rfl
  have hll := objs_len t
  have hg : ∀ B : Sym.Obj, (objs t ++ [B])[cnt t tgt]? = some ⟨true, false, true, b.c⟩ := fun B => by rw [List.getElem?_append_left (by omega), hL]
  have key1 : ∀ B : Sym.Obj, HasT (⟨true, false, false, tcl (List.range' 1 (som t).length) t⟩ :: (objs t ++ [B])) (List.range' 1 (som t).length) t false := fun B => by
    refine hcan.mono rfl fun q hq => ?_
    rw [List.mem_range'_1] at hq
    obtain ⟨q, rfl⟩ : ∃ r, q = r + 1 := ⟨q - 1, by omega⟩
    rw [List.getElem?_cons_succ, List.getElem?_cons_succ, List.getElem?_append_left (by omega)]
  have key2 : ∀ (B : Sym.Obj) (c : Ah), HasT (⟨true, false, false, tcl (List.range' 1 (som t).length) t⟩ :: (objs t ++ [B]).set (cnt t tgt) ⟨true, false, true, c.c⟩) (List.range' 1 (som t).length) (t.set tgt (some c)) false := fun B c => by
    refine (key1 B).put hto hp (fun q hq => ?_) ⟨false, ?_, id⟩
    · cases q with
      | zero => rfl
      | succ q => rw [List.getElem?_cons_succ, List.getElem?_cons_succ, List.getElem?_set, if_neg (by omega)]
    · rw [hpc, List.getElem?_cons_succ, List.getElem?_set]
      rw [if_pos rfl, if_pos (by rw [List.length_append]; omega)]
  obtain ⟨d, hd, he⟩ := eq_a (k + 1) b.nil a.nil b.bs a.bs hb.nil ha.nil hb.len ha.len
  by_cases c : b.k = a.k
  · have hm : meet b a = b := by unfold meet; rw [if_pos c]
    rw [hm, set_same hto]
    have hk := key1 ⟨true, true, true, a.c⟩
    have hr := hk.reach
    have hsb := hk.sub false (fun h => by cases h)
    rw [Bool.false_and] at hsb
    have hg := hg ⟨true, true, true, a.c⟩
    have hg4 : (objs t ++ [(⟨true, true, true, a.c⟩ : Sym.Obj)])[(objs t).length]? = some ⟨true, true, true, a.c⟩ := by
      rw [List.getElem?_append_right (Nat.le_refl _), Nat.sub_self]
      rfl
    obtain ⟨X, hX⟩ : ∃ X, canT t false = X := ⟨_, rfl⟩
    rw [hX] at hsb
    have hXe : canT t false = _ := canT_eq t
    rw [hpc] at ht
    have cb : (b.k != a.k) = false := by simp [c]
    clear key1 key2 hk hcan
    rw [show (some (⟨AV.v (.bool (decide (b.bs = a.bs))), canT t false, 2⟩ : Res)) = some ⟨AV.v (.bool (decide (b.bs = a.bs))), X, 2⟩ by rw [hX], hXe]
    generalize objs t = L at *
    generalize tcl (List.range' 1 (som t).length) t = tc at *
    generalize cnt t tgt = cc at *
    obtain ⟨ak, an, as1⟩ := a
    obtain ⟨bk, bn, bs⟩ := b
    simp only at cb he
    have hdd : d = 0 ∨ d = 1 := by omega
    generalize decide (bs = as1) = res at *
    cases an <;> cases bn <;> simp only [Ah.c, openA, Bool.false_eq_true, if_false, if_true] at hr hsb hg hg4 he ⊢ <;> rcases hdd with rfl | rfl <;>
    simp -implicitDefEqProofs only [eqs, eqd, aCall, Sym.pos, ↓reduceIte, reduceCtorEq, Nat.reduceEqDiff, Nat.reduceAdd, Nat.reduceSub, Nat.reduceMul, Nat.reduceLT, Nat.reduceLeDiff, Nat.reduceBEq, Nat.reduceBNe, Nat.reduceGT, Int.reduceEq, Int.reduceLT, Int.reduceLE, Int.reduceToNat, Int.reduceAdd, Int.reduceSub, Int.reduceMul, Int.reduceNeg, Int.reduceBEq, Int.reduceBNe, b_verify_table_lead, gs_verify_table_lead, r0, s0, nilp, ht, htl, hg, hg4, he, cb, c0, c1, c2, hr, hsb, Int.toNat_natCast]
  · have hm : meet b a = { b with k := 0 } := by unfold meet; rw [if_neg c]
    rw [hm]
    have hk := key2 ⟨true, true, true, a.c⟩ { b with k := 0 }
    have hr := hk.reach
    have hsb := hk.sub false (fun h => by cases h)
    rw [Bool.false_and] at hsb
    have hg1 := hg ⟨true, true, true, a.c⟩
    have hg2 : ((objs t ++ [(⟨true, true, true, a.c⟩ : Sym.Obj)]).set (cnt t tgt) (⟨true, false, true, ({ b with k := 0 } : Ah).c⟩ : Sym.Obj))[cnt t tgt]? = some ⟨true, false, true, ({ b with k := 0 } : Ah).c⟩ := by
      rw [List.getElem?_set, if_pos rfl, if_pos (by rw [List.length_append]; omega)]
    have hg3 : ((objs t ++ [(⟨true, true, true, a.c⟩ : Sym.Obj)]).set (cnt t tgt) (⟨true, false, true, ({ b with k := 0 } : Ah).c⟩ : Sym.Obj))[(objs t).length]? = some ⟨true, true, true, a.c⟩ := by
      rw [List.getElem?_set, if_neg (by omega), List.getElem?_append_right (Nat.le_refl _), Nat.sub_self]
      rfl
    have hg4 : (objs t ++ [(⟨true, true, true, a.c⟩ : Sym.Obj)])[(objs t).length]? = some ⟨true, true, true, a.c⟩ := by
      rw [List.getElem?_append_right (Nat.le_refl _), Nat.sub_self]
      rfl
    obtain ⟨X, hX⟩ : ∃ X, canT (t.set tgt (some { b with k := 0 })) false = X := ⟨_, rfl⟩
    rw [hX] at hsb ⊢
    rw [hpc] at ht
    have cb : (b.k != a.k) = true := by simpa using c
    have hw0 := with_a (k + 12) b.k (.shr b.bs.length false (brs b.bs)) rfl rfl rfl (fun _ => rfl) 0
    have hw1 := with_a (k + 12) b.k (.v (.slice none 0 0)) rfl rfl rfl (fun _ => rfl) 0
    clear key1 key2 hk hcan hg
    rw [canT_eq]
    generalize objs t = L at *
    generalize tcl (List.range' 1 (som t).length) t = tc at *
    generalize cnt t tgt = cc at *
    obtain ⟨ak, an, as1⟩ := a
    obtain ⟨bk, bn, bs⟩ := b
    simp only at cb he hw0 hw1
    have hdd : d = 0 ∨ d = 1 := by omega
    generalize decide (bs = as1) = res at *
    cases an <;> cases bn <;> simp only [Ah.c, openA, Bool.false_eq_true, if_false, if_true] at hr hsb hg1 hg2 hg3 hg4 he ⊢ <;> rcases hdd with rfl | rfl <;>
    simp -implicitDefEqProofs only [eqs, eqd, aCall, Sym.pos, ↓reduceIte, reduceCtorEq, Nat.reduceEqDiff, Nat.reduceAdd, Nat.reduceSub, Nat.reduceMul, Nat.reduceLT, Nat.reduceLeDiff, Nat.reduceBEq, Nat.reduceBNe, Nat.reduceGT, Int.reduceEq, Int.reduceLT, Int.reduceLE, Int.reduceToNat, Int.reduceAdd, Int.reduceSub, Int.reduceMul, Int.reduceNeg, Int.reduceBEq, Int.reduceBNe, b_verify_table_lead, gs_verify_table_lead, r0, s0, nilp, ht, htl, hg1, hg2, hg3, hg4, he, hw0, hw1, cb, c0, c1, c2, hr, hsb, Int.toNat_natCast]
end Go.Proofs.Ythkjiclplecljaa.Ver

/- A call that has a table. -/
namespace Go.Proofs.Ythkjiclplecljaa.Ver
open Go Go.Proofs.Ythkjiclplecljaa.Sym Go.Proofs.Ythkjiclplecljaa.Tab
set_option linter.unusedVariables false
set_option linter.unusedSimpArgs false
theorem mergeOld_get (Ω : List Sym.Obj) (ord : List Nat) (n : Nat) (ob : List Sym.Obj) : ∀ (L : List Sym.Obj) (k i : Nat), (mergeOld Ω ord n ob k L)[i]? = (L[i]?).map fun o => if ord.contains (k + i) = true then (if pos ord (k + i) < n then mergeO Ω ord n (ob.getD (pos ord (k + i)) dead0) else dead0) else o
  | [], k, i => by simp [mergeOld]
  | o :: os, k, 0 => by rw [mergeOld]; rfl
  | o :: os, k, i + 1 => by
    rw [mergeOld, List.getElem?_cons_succ, List.getElem?_cons_succ, mergeOld_get Ω ord n ob os (k + 1) i, show k + 1 + i = k + (i + 1) by omega]
theorem mergeOld_len (Ω : List Sym.Obj) (ord : List Nat) (n : Nat) (ob : List Sym.Obj) : ∀ (L : List Sym.Obj) (k : Nat), (mergeOld Ω ord n ob k L).length = L.length
  | [], k => rfl
  | o :: os, k => by rw [mergeOld, List.length_cons, List.length_cons, mergeOld_len Ω ord n ob os (k + 1)]
theorem c_refs (a : Ah) : a.c.flatMap refs0 = [] := by obtain ⟨k, n, bs⟩ := a; cases n <;> rfl
theorem c_ren (g : Nat → Nat) (a : Ah) : a.c.map (ren0 g) = a.c := by obtain ⟨k, n, bs⟩ := a; cases n <;> rfl
theorem HasT.fresh {Ω : List Sym.Obj} {ps : List Nat} {t : List (Option Ah)} (h : HasT Ω ps t true) : allFresh Ω (0 :: ps) = true := by
  unfold allFresh
  rw [List.all_eq_true]
  intro k hk
  rcases List.mem_cons.1 hk with rfl | hk
  · obtain ⟨f, hf, h1⟩ := h.tab
    rw [List.getD_eq_getElem?_getD, hf]
    simp [h1 rfl]
  · obtain ⟨j, hj⟩ := List.mem_iff_getElem?.1 hk
    have hlt := (List.getElem?_eq_some_iff.1 hj).1
    obtain ⟨f, hf, h1⟩ := h.obj j k _ hj (List.getElem?_eq_getElem (by rw [← h.len]; exact hlt))
    rw [List.getD_eq_getElem?_getD, hf]
    simp [h1 rfl]
/-- What is there behind a call that had a table and changed it. -/
def after (Ω : List Sym.Obj) (ps : List Nat) (t' : List (Option Ah)) : List Sym.Obj := mergeOld Ω (0 :: ps) 1 (canT t' false) 0 Ω ++ mergeNew Ω (0 :: ps) 1 (canT t' false)
theorem after_has {Ω : List Sym.Obj} {ps : List Nat} {t t' : List (Option Ah)} (h : HasT Ω ps t true) (hs : (som t').length ≤ 300) (h0 : 0 < Ω.length) : HasT (after Ω ps t') (List.range' Ω.length (som t').length) t' true := by
  have hf := h.fresh
  have hg : (List.range' 1 (som t').length).map (gmap (0 :: ps) 1 Ω.length) = List.range' Ω.length (som t').length := by
    apply List.ext_getElem?
    intro j
    rw [List.getElem?_map]
    by_cases c : j < (som t').length
    · rw [List.getElem?_range' c, List.getElem?_range' c]
      show some (gmap (0 :: ps) 1 Ω.length (1 + 1 * j)) = _
      unfold gmap
      rw [if_neg (by omega)]
      congr 1
      omega
    · rw [List.getElem?_eq_none (by simp; omega), List.getElem?_eq_none (by simp; omega)]
      rfl
  refine ⟨⟨true, ?_, fun _ => rfl⟩, by simp, fun j p a hp ha => ⟨true, ?_, fun _ => rfl⟩, List.nodup_range', ?_, by simpa using hs⟩
  · obtain ⟨f, ht, _⟩ := h.tab
    unfold after
    rw [List.getElem?_append_left (by rw [mergeOld_len]; exact h0), mergeOld_get, ht]
    have e1 : (0 :: ps).contains (0 + 0) = true := by simp
    have e2 : pos (0 :: ps) (0 + 0) = 0 := by show List.idxOf 0 (0 :: ps) = 0; simp
    simp only [Option.map_some, e1, if_true, e2, Nat.zero_lt_one]
    have e3 : (canT t' false).getD 0 dead0 = ⟨true, false, false, tcl (List.range' 1 (som t').length) t'⟩ := rfl
    rw [e3]
    simp only [mergeO, renO, if_true, Bool.false_eq_true, if_false, Bool.false_or, hf]
    rw [tcl_ren, hg]
  · have hj := (List.getElem?_eq_some_iff.1 ha).1
    rw [List.getElem?_range' hj] at hp
    obtain rfl := Option.some.inj hp
    unfold after
    rw [List.getElem?_append_right (by rw [mergeOld_len]; omega), mergeOld_len, show Ω.length + 1 * j - Ω.length = j by omega]
    unfold mergeNew
    have e4 : (canT t' false).drop 1 = (som t').map fun a => ⟨true, false, true, a.c⟩ := rfl
    rw [e4, List.getElem?_map, List.getElem?_map, ha]
    simp only [Option.map_some, mergeO, renO, if_true, Bool.false_or, hf]
  · rw [List.mem_range'_1]
    omega
theorem after_other {Ω : List Sym.Obj} {ps : List Nat} {t' : List (Option Ah)} {k : Nat} (h0 : k ≠ 0) (hk : k ∉ ps) (hl : k < Ω.length) : (after Ω ps t')[k]? = Ω[k]? := by
  unfold after
  rw [List.getElem?_append_left (by rw [mergeOld_len]; exact hl), mergeOld_get, Nat.zero_add]
  have e : (0 :: ps).contains k = false := by simp [h0, hk]
  rw [e]
  cases Ω[k]? <;> rfl
theorem after_len (Ω : List Sym.Obj) (ps : List Nat) (t' : List (Option Ah)) : (after Ω ps t').length = Ω.length + (som t').length := by
  unfold after mergeNew
  rw [List.length_append, mergeOld_len, List.length_map, List.length_drop]
  simp [canT]
theorem lead_call {C : CT} {Ω : List Sym.Obj} {ps : List Nat} {t t' : List (Option Ah)} (h : HasT Ω ps t true) (n tgt : Nat) (b : Ah) (ok : Bool)
    (hc : C 51 1 [.view 0 0 n 1 (some n), .v (.int .i64 tgt), .agg b.c] (canT t false) = some ⟨.v (.bool ok), canT t' false, 2⟩) :
    aCall C Ω (.fn 51 []) [.view 0 0 n 1 (some n), .v (.int .i64 tgt), .agg b.c] = some (.v (.bool ok), after Ω ps t', 1) := by
  have e1 : ([AV.view 0 0 n 1 (some n), .v (.int .i64 tgt), .agg b.c] ++ []).all okv = true := by
    simp only [List.append_nil, List.all_cons, List.all_nil, okv, ok1, atom, c_atom, Bool.and_true]
  have e2 : dedup (([AV.view 0 0 n 1 (some n), .v (.int .i64 tgt), .agg b.c] ++ []).flatMap refs) [] = [0] := by
    simp only [List.append_nil, List.flatMap_cons, List.flatMap_nil, refs, refs1, refs0, c_refs]
    rfl
  have e3 : ([AV.view 0 0 n 1 (some n), .v (.int .i64 tgt), .agg b.c] ++ []).map (ren (pos (0 :: ps))) = [.view 0 0 n 1 (some n), .v (.int .i64 tgt), .agg b.c] := by
    have e : pos (0 :: ps) 0 = 0 := by show List.idxOf 0 (0 :: ps) = 0; simp
    simp only [List.append_nil, List.map_cons, List.map_nil, ren, ren1, ren0, c_ren, e]
  have e4 := h.sub false (fun h => by cases h)
  rw [Bool.and_false] at e4
  unfold aCall
  simp only [e1, e2, if_true, h.reach, Option.bind_some, e3, e4, List.length_singleton, hc]
  unfold finishCall
  simp only [okv, ok1, atom, if_true, h.fresh, ren, ren1, ren0]
  rfl
end Go.Proofs.Ythkjiclplecljaa.Ver

/- The document's join. -/
namespace Go.Proofs.Ythkjiclplecljaa.Ver
open Go Go.Proofs.Ythkjiclplecljaa.Sym Go.Proofs.Ythkjiclplecljaa.Tab
set_option linter.unusedVariables false
set_option linter.unusedSimpArgs false
set_option maxHeartbeats 4000000
set_option maxRecDepth 20000
theorem nums_inj : ∀ (a b : List Int), (∀ x ∈ a, 0 ≤ x ∧ x ≤ 255) → (∀ x ∈ b, 0 ≤ x ∧ x ≤ 255) → (a.map fun n => UInt8.ofNat n.toNat) = (b.map fun n => UInt8.ofNat n.toNat) → a = b
  | [], [], _, _, _ => rfl
  | [], y :: b, _, _, h => by simp at h
  | x :: a, [], _, _, h => by simp at h
  | x :: a, y :: b, ha, hb, h => by
    rw [List.map_cons, List.map_cons, List.cons.injEq] at h
    have hx := ha x (by simp)
    have hy := hb y (by simp)
    have e : x = y := by
      have h1 := congrArg UInt8.toNat h.1
      simp only [UInt8.toNat_ofNat'] at h1
      omega
    rw [e, nums_inj a b (fun z hz => ha z (by simp [hz])) (fun z hz => hb z (by simp [hz])) h.2]
theorem numsB_inj : ∀ (a b : List (Int × Int)), numsB a = numsB b → a = b
  | [], [], _ => rfl
  | [], q :: b, h => by simp [numsB] at h
  | p :: a, [], h => by simp [numsB] at h
  | p :: a, q :: b, h => by
    have h' : p.1 :: p.2 :: numsB a = q.1 :: q.2 :: numsB b := h
    rw [List.cons.injEq, List.cons.injEq] at h'
    rw [Prod.ext h'.1 h'.2.1, numsB_inj a b h'.2.2]
theorem enc_inj {a b : List (Int × Int)} (ha : BrIn a) (hb : BrIn b) : decide (enc a = enc b) = decide (a = b) := by
  rw [decide_eq_decide]
  refine ⟨fun h => ?_, fun h => by rw [h]⟩
  have hr : ∀ c : List (Int × Int), BrIn c → ∀ x ∈ numsB c, 0 ≤ x ∧ x ≤ 255 := fun c hc x hx => by
    unfold numsB at hx
    obtain ⟨p, hp, hx⟩ := List.mem_flatMap.1 hx
    have := hc.2 p hp
    simp only [List.mem_cons, List.not_mem_nil, or_false] at hx
    rcases hx with rfl | rfl <;> omega
  refine numsB_inj a b (nums_inj _ _ (hr a ha) (hr b hb) ?_)
  have h2 := congrArg (fun s : ByteArray => s.data.toList) h
  exact h2
/-- An entry of the document's table. -/
def ra : Option Ah → List AV
  | none => [.v (.bool false), .v (.int .i64 0), .v (.string ByteArray.empty)]
  | some a => rc a.k a.bs
theorem join_none (k : Nat) (b : Ah) : acall T (k + 1) 30 0 [.agg (ra none), .agg (rc b.k b.bs)] [] = some ⟨.tup [.agg (rc b.k b.bs), .v (.bool true)], [], 1⟩ := by
  rw [acall_go (body := b_fuglemanref14_join) rfl rfl (Nat.zero_le _)]
  simp -implicitDefEqProofs only [eqs, eqd, eqe, lh_some, ↓reduceIte, reduceCtorEq, Nat.reduceEqDiff, Nat.reduceAdd, Nat.reduceSub, Nat.reduceMul, Nat.reduceLT, Nat.reduceLeDiff, Nat.reduceBEq, Nat.reduceBNe, Nat.reduceGT, Int.reduceEq, Int.reduceLT, Int.reduceLE, Int.reduceToNat, Int.reduceAdd, Int.reduceSub, Int.reduceMul, Int.reduceNeg, Int.reduceBEq, Int.reduceBNe, b_fuglemanref14_join, ra, rc]
theorem join_some (k : Nat) (a b : Ah) (ha : BrIn a.bs) (hb : BrIn b.bs) : acall T (k + 1) 30 0 [.agg (ra (some a)), .agg (rc b.k b.bs)] [] = some ⟨.tup [.agg (ra (some (meet a b))), .v (.bool (decide (a.bs = b.bs)))], [], 1⟩ := by
  rw [acall_go (body := b_fuglemanref14_join) rfl rfl (Nat.zero_le _), ← enc_inj ha hb]
  unfold meet
  by_cases c : a.k = b.k
  · have c' : (a.k != b.k) = false := by simp [c]
    rw [if_pos c]
    simp -implicitDefEqProofs only [eqs, eqd, eqe, lh_some, ↓reduceIte, reduceCtorEq, Nat.reduceEqDiff, Nat.reduceAdd, Nat.reduceSub, Nat.reduceMul, Nat.reduceLT, Nat.reduceLeDiff, Nat.reduceBEq, Nat.reduceBNe, Nat.reduceGT, Int.reduceEq, Int.reduceLT, Int.reduceLE, Int.reduceToNat, Int.reduceAdd, Int.reduceSub, Int.reduceMul, Int.reduceNeg, Int.reduceBEq, Int.reduceBNe, b_fuglemanref14_join, ra, rc, c']
  · have c' : (a.k != b.k) = true := by simpa using c
    rw [if_neg c]
    simp -implicitDefEqProofs only [eqs, eqd, eqe, lh_some, ↓reduceIte, reduceCtorEq, Nat.reduceEqDiff, Nat.reduceAdd, Nat.reduceSub, Nat.reduceMul, Nat.reduceLT, Nat.reduceLeDiff, Nat.reduceBEq, Nat.reduceBNe, Nat.reduceGT, Int.reduceEq, Int.reduceLT, Int.reduceLE, Int.reduceToNat, Int.reduceAdd, Int.reduceSub, Int.reduceMul, Int.reduceNeg, Int.reduceBEq, Int.reduceBNe, b_fuglemanref14_join, ra, rc, c']
end Go.Proofs.Ythkjiclplecljaa.Ver

/- One instruction more: of both, what becomes of what is ahead of each. -/
namespace Go.Proofs.Ythkjiclplecljaa.Ver
open Go Go.Proofs.Ythkjiclplecljaa.Sym Go.Proofs.Ythkjiclplecljaa.Tab
set_option linter.unusedVariables false
set_option linter.unusedSimpArgs false
/-- One more leads to an instruction. -/
def lead1 (t : List (Option Ah)) (tgt : Nat) (b : Ah) : List (Option Ah) × Bool := match t[tgt]? with
  | some (some a) => (t.set tgt (some (meet a b)), decide (a.bs = b.bs))
  | _ => (t.set tgt (some b), true)
def onI (i : Ins) : Bool := i.op != 25 && i.op != 28
def jmp (i : Ins) : Bool := decide (25 ≤ i.op) && decide (i.op ≤ 27)
/-- Where it leads to: a table, or not all brackets are alike. -/
def lead2 (t : List (Option Ah)) (i : Nat) (ins : Ins) (b : Ah) : List (Option Ah) × Bool :=
  let r := if onI ins = true then lead1 t (i + 1) b else (t, true)
  if r.2 = true ∧ jmp ins = true then lead1 r.1 ins.at_.toNat b else r
/-- An instruction more: the error (0: none), the table. -/
def stp (n i : Nat) (t : List (Option Ah)) (ins : Ins) : Int × List (Option Ah) :=
  if right ins = false then (3, t) else match t[i]? with
  | some (some a) =>
    if jmp ins = true ∧ ¬ ((i : Int) < ins.at_ ∧ ins.at_ ≤ n) then (7, t)
    else if (beh a ins).2 ≠ 0 then ((beh a ins).2, t)
    else if (lead2 t i ins (beh a ins).1).2 = true then (0, (lead2 t i ins (beh a ins).1).1) else (7, t)
  | _ => (0, t)
/-- All that are ahead may be. -/
def AllIn (t : List (Option Ah)) : Prop := ∀ (i : Nat) (a : Ah), t[i]? = some (some a) → a.In ∧ BrIn a.bs
theorem meet_bs (a b : Ah) : (meet a b).bs = a.bs ∧ (meet a b).nil = a.nil := by unfold meet; split <;> exact ⟨rfl, rfl⟩
theorem AllIn.set {t : List (Option Ah)} (h : AllIn t) {i : Nat} {b : Ah} (hb : b.In ∧ BrIn b.bs) : AllIn (t.set i (some b)) := fun j a hj => by
  rw [List.getElem?_set] at hj
  split at hj
  · split at hj
    · cases hj; exact hb
    · cases hj
  · exact h j a hj
theorem AllIn.lead1 {t : List (Option Ah)} (h : AllIn t) {tgt : Nat} {b : Ah} (hb : b.In ∧ BrIn b.bs) : AllIn (lead1 t tgt b).1 := by
  unfold Ver.lead1
  split
  · rename_i a ha
    obtain ⟨h1, h2⟩ := h tgt a ha
    obtain ⟨e1, e2⟩ := meet_bs a b
    exact h.set ⟨⟨by rw [e1, e2]; exact h1.nil, by rw [e1]; exact h1.len⟩, by rw [e1]; exact h2⟩
  · exact h.set hb
theorem lead1_len (t : List (Option Ah)) (tgt : Nat) (b : Ah) : (Ver.lead1 t tgt b).1.length = t.length := by
  unfold Ver.lead1
  split <;> simp
theorem beh_same (a : Ah) (i : Ins) (h1 : i.op ≠ 32) (h2 : i.op ≠ 33) : ∃ k, (beh a i).1 = ⟨k, a.nil, a.bs⟩ := by
  unfold beh
  by_cases c1 : i.op = 1; · rw [if_pos c1]; exact ⟨_, rfl⟩
  by_cases c2 : i.op = 2; · rw [if_neg c1, if_pos c2]; exact ⟨_, rfl⟩
  by_cases c3 : i.op = 3; · rw [if_neg c1, if_neg c2, if_pos c3]; exact ⟨_, rfl⟩
  by_cases c4 : i.op = 4; · rw [if_neg c1, if_neg c2, if_neg c3, if_pos c4]; exact ⟨_, rfl⟩
  by_cases c5 : i.op = 5 ∨ i.op = 6; · rw [if_neg c1, if_neg c2, if_neg c3, if_neg c4, if_pos c5]; exact ⟨_, rfl⟩
  by_cases c6 : i.op = 13; · rw [if_neg c1, if_neg c2, if_neg c3, if_neg c4, if_neg c5, if_pos c6]; exact ⟨_, rfl⟩
  by_cases c7 : i.op = 25; · rw [if_neg c1, if_neg c2, if_neg c3, if_neg c4, if_neg c5, if_neg c6, if_pos c7]; exact ⟨_, rfl⟩
  rw [if_neg c1, if_neg c2, if_neg c3, if_neg c4, if_neg c5, if_neg c6, if_neg c7]
  by_cases c8 : i.op = 26 ∨ i.op = 27 ∨ i.op = 34 ∨ i.op = 35 ∨ i.op = 36; · rw [if_pos c8]; exact ⟨_, rfl⟩
  by_cases c9 : i.op = 28 ∨ i.op = 29 ∨ i.op = 30; · rw [if_neg c8, if_pos c9]; exact ⟨_, rfl⟩
  by_cases c10 : i.op = 31; · rw [if_neg c8, if_neg c9, if_pos c10]; exact ⟨_, rfl⟩
  rw [if_neg c8, if_neg c9, if_neg c10, if_neg h1, if_neg h2]
  exact ⟨_, rfl⟩
theorem beh_in {a : Ah} (h : a.In ∧ BrIn a.bs) (i : Ins) (h0 : (beh a i).2 = 0) : (beh a i).1.In ∧ BrIn (beh a i).1.bs := by
  by_cases c1 : i.op = 32
  · have e : beh a i = push a i.at_ := by unfold beh; rw [c1]; rfl
    rw [e] at h0 ⊢
    unfold push at h0 ⊢
    by_cases c : may i.at_ a.k = false
    · rw [if_pos c] at h0; simp at h0
    · rw [if_neg c] at h0 ⊢
      have c' : may i.at_ a.k = true := by simpa using c
      by_cases d : a.bs.length = 8
      · rw [if_pos d] at h0; simp at h0
      · rw [if_neg d]
        obtain ⟨m1, m2, m3, m4⟩ := may_in c'
        have hl := h.1.len
        refine ⟨⟨fun e => (by cases e), by show (a.bs ++ [(i.at_, a.k)]).length ≤ 8; simp; omega⟩, by show (a.bs ++ [(i.at_, a.k)]).length ≤ 8; simp; omega, fun p hp => ?_⟩
        rcases List.mem_append.1 hp with hp | hp
        · exact h.2.2 p hp
        · obtain rfl : p = (i.at_, a.k) := by simpa using hp
          exact ⟨m1, m2, m3, m4⟩
  · by_cases c2 : i.op = 33
    · have e : beh a i = pop a := by unfold beh; rw [c2]; rfl
      rw [e]
      unfold pop
      split
      · exact h
      · split
        · exact h
        · have hl := h.1.len
          refine ⟨⟨fun e => (by cases e), by show a.bs.dropLast.length ≤ 8; simp; omega⟩, by show a.bs.dropLast.length ≤ 8; simp; omega, fun p hp => h.2.2 p (List.dropLast_subset _ hp)⟩
    · obtain ⟨k, e⟩ := beh_same a i c1 c2
      rw [e]
      exact ⟨⟨h.1.nil, h.1.len⟩, h.2⟩
end Go.Proofs.Ythkjiclplecljaa.Ver

/- The document's table in memory. -/
namespace Go.Proofs.Ythkjiclplecljaa.Ver
open Go Go.Proofs.Ythkjiclplecljaa.Sym Go.Proofs.Ythkjiclplecljaa.Tab
set_option linter.unusedVariables false
set_option linter.unusedSimpArgs false
set_option maxHeartbeats 4000000
set_option maxRecDepth 20000
def rr (t : List (Option Ah)) : List AV := t.flatMap ra
theorem ra_len (x : Option Ah) : (ra x).length = 3 := by cases x <;> rfl
theorem rr_cons (x : Option Ah) (t : List (Option Ah)) : rr (x :: t) = ra x ++ rr t := rfl
theorem rr_len : ∀ (t : List (Option Ah)), (rr t).length = t.length * 3
  | [] => rfl
  | x :: t => by rw [rr_cons, List.length_append, ra_len, rr_len t, List.length_cons]; omega
theorem rr_get : ∀ {t : List (Option Ah)} {i : Nat} {x : Option Ah}, t[i]? = some x → ((rr t).drop (i * 3)).take 3 = ra x
  | [], i, x, h => by simp at h
  | y :: t, 0, x, h => by
    obtain rfl : y = x := by simpa using h
    rw [rr_cons, Nat.zero_mul, List.drop_zero, ← ra_len y, List.take_left]
  | y :: t, i + 1, x, h => by
    have ih := rr_get (t := t) (i := i) (x := x) (by simpa using h)
    rw [rr_cons, show (i + 1) * 3 = (ra y).length + i * 3 by rw [ra_len]; omega, ← List.drop_drop, List.drop_left, ih]
theorem rr_at {t : List (Option Ah)} {i : Nat} {x : Option Ah} (h : t[i]? = some x) {j : Nat} (hj : j < 3) : (rr t)[i * 3 + j]? = (ra x)[j]? := by
  rw [← rr_get h, List.getElem?_take_of_lt hj, List.getElem?_drop]
theorem rr_set : ∀ {t : List (Option Ah)} {i : Nat} (h : i < t.length) (a : Ah), (((rr t).set (i * 3) (.v (.bool true))).set (i * 3 + 1) (.v (.int .i64 a.k))).set (i * 3 + 2) (.v (.string (enc a.bs))) = rr (t.set i (some a))
  | y :: t, 0, _, a => by cases y <;> rfl
  | y :: t, i + 1, h, a => by
    have ih := rr_set (t := t) (i := i) (by simpa using h) a
    have l := ra_len y
    rw [List.set_cons_succ, rr_cons, rr_cons, ← ih]
    rw [List.set_append_right _ _ (by omega), List.set_append_right _ _ (by omega), List.set_append_right _ _ (by omega), l]
    congr 1
    rw [show (i + 1) * 3 - 3 = i * 3 by omega, show (i + 1) * 3 + 1 - 3 = i * 3 + 1 by omega, show (i + 1) * 3 + 2 - 3 = i * 3 + 2 by omega]
theorem rr_atom : ∀ (t : List (Option Ah)), (rr t).all atom = true
  | [] => rfl
  | x :: t => by rw [rr_cons, List.all_append, rr_atom t]; cases x <;> rfl
theorem rr_flat : ∀ (t : List (Option Ah)), (rr t).all flat0 = true
  | [] => rfl
  | x :: t => by rw [rr_cons, List.all_append, rr_flat t]; cases x <;> rfl
theorem ins_len (L : List Ins) : (L.flatMap Ins.c).length = L.length * 5 := by
  induction L with
  | nil => rfl
  | cons x L ih => rw [List.flatMap_cons, List.length_append, ih, List.length_cons]; show 5 + _ = _; omega
theorem ins_at : ∀ (L : List Ins) (i : Nat) (h : i < L.length), ((L.flatMap Ins.c).drop (i * 5)).take 5 = L[i].c
  | x :: L, 0, _ => by rw [List.flatMap_cons]; simp [Ins.c]
  | x :: L, i + 1, h => by
    have ih := ins_at L i (by simpa using h)
    rw [List.flatMap_cons, show (i + 1) * 5 = x.c.length + i * 5 by show _ = 5 + i * 5; omega, ← List.drop_drop, List.drop_left, ih]
    rfl
/-- A join is the step's. -/
theorem join_a (k : Nat) (t : List (Option Ah)) (ht : AllIn t) (tgt : Nat) (x : Option Ah) (hx : t[tgt]? = some x) (b : Ah) (hb : BrIn b.bs) : ∃ y : Ah, (lead1 t tgt b).1 = t.set tgt (some y) ∧ acall T (k + 1) 30 0 [.agg (ra x), .agg (rc b.k b.bs)] [] = some ⟨.tup [.agg (rc y.k y.bs), .v (.bool (lead1 t tgt b).2)], [], 1⟩ := by
  unfold lead1
  cases x with
  | none =>
    rw [hx]
    exact ⟨b, rfl, join_none k b⟩
  | some a =>
    rw [hx]
    exact ⟨meet a b, rfl, join_some k a b (ht tgt a hx).2 hb⟩
end Go.Proofs.Ythkjiclplecljaa.Ver

/- The document's All: one round. -/
namespace Go.Proofs.Ythkjiclplecljaa.Ver
open Go Go.Proofs.Ythkjiclplecljaa.Sym Go.Proofs.Ythkjiclplecljaa.Tab
set_option linter.unusedVariables false
set_option linter.unusedSimpArgs false
set_option maxHeartbeats 4000000
set_option maxRecDepth 20000
def renv (L : List Ins) (i : Nat) : Env := [(0, .shr L.length false (L.flatMap Ins.c)), (5, .v (.int .i64 L.length)), (6, .view 0 0 (L.length + 1) 3 (some (L.length + 1))), (7, .v (.int .i64 i))]
def rst (L : List Ins) (t : List (Option Ah)) (i : Nat) : St := ⟨renv L i, [⟨true, true, true, rr t⟩], 1, []⟩
abbrev rlive : List Nat := [0, 5, 6, 7]
theorem rall_skip (k lf : Nat) (L : List Ins) (hL : L.length ≤ 200) (t : List (Option Ah)) (hlen : t.length = L.length + 1) (i : Nat) (hi : i < L.length) (hin : L[i].In) (hr : right L[i] = true) (hx : t[i]? = some none) (N : Nat) (ks : List It) :
    Lh (acall T (k + 12)) lf (some (rst L t i)) rlive l_fuglemanref14_All_0 (N + 1) ks = Lh (acall T (k + 12)) lf (some (rst L t (i + 1))) rlive l_fuglemanref14_All_0 N ks := by
  have c1 : (i : Int) < L.length := by omega
  have c0 : (0 : Int) ≤ i := by omega
  have c2 : (i : Int) < ((L.length + 1 : Nat) : Int) := by omega
  have w : IntKind.i64.wrap ((i : Int) + 1) = i + 1 := w64 (by omega) (by omega)
  have h5 := ins_at L i hi
  have l5 : i * 5 + 5 ≤ L.length * 5 := by omega
  have hri := rright_a (k + 1) L[i] hin
  rw [hr] at hri
  have hz : (rr t)[i * 3]? = some (.v (.bool false)) := rr_at hx (j := 0) (by decide)
  unfold rst renv rlive
  rw [lh_as l_fuglemanref14_All_0.eq_1]
  generalize L[i] = ins at *
  generalize hM : L.length + 1 = M at *
  simp only [Ins.c] at hri
  simp -implicitDefEqProofs only [eqs, eqd, eqe, ↓reduceIte, reduceCtorEq, Nat.reduceEqDiff, Nat.reduceAdd, Nat.reduceSub, Nat.reduceMul, Nat.reduceLT, Nat.reduceLeDiff, Nat.reduceBEq, Nat.reduceBNe, Nat.reduceGT, Int.reduceEq, Int.reduceLT, Int.reduceLE, Int.reduceToNat, Int.reduceAdd, Int.reduceSub, Int.reduceMul, Int.reduceNeg, Int.reduceBEq, Int.reduceBNe, gs_fuglemanref14_All, Ins.c, c0, c1, c2, w, h5, l5, ins_len, hri, hz, Int.toNat_natCast, Int.natCast_add]
theorem rall_bad (k lf : Nat) (L : List Ins) (hL : L.length ≤ 200) (t : List (Option Ah)) (hlen : t.length = L.length + 1) (i : Nat) (hi : i < L.length) (hin : L[i].In) (hr : right L[i] = false) (N : Nat) :
    FnR [.t 2, .t 3, .t 4] false false (Lh (acall T (k + 12)) lf (some (rst L t i)) rlive l_fuglemanref14_All_0 N [.b 0, .c l_fuglemanref14_All_1]) = some ⟨.tup [.v (.slice none 0 0), .v (.int .i64 3), .v (.int .i64 i)], [], 1⟩ := by
  have c1 : (i : Int) < L.length := by omega
  have c0 : (0 : Int) ≤ i := by omega
  have h5 := ins_at L i hi
  have l5 : i * 5 + 5 ≤ L.length * 5 := by omega
  have hri := rright_a (k + 1) L[i] hin
  rw [hr] at hri
  unfold rst renv rlive
  rw [lh_as l_fuglemanref14_All_0.eq_1]
  generalize L[i] = ins at *
  generalize hM : L.length + 1 = M at *
  simp only [Ins.c] at hri
  simp -implicitDefEqProofs only [eqs, eqd, eqe, ↓reduceIte, reduceCtorEq, Nat.reduceEqDiff, Nat.reduceAdd, Nat.reduceSub, Nat.reduceMul, Nat.reduceLT, Nat.reduceLeDiff, Nat.reduceBEq, Nat.reduceBNe, Nat.reduceGT, Int.reduceEq, Int.reduceLT, Int.reduceLE, Int.reduceToNat, Int.reduceAdd, Int.reduceSub, Int.reduceMul, Int.reduceNeg, Int.reduceBEq, Int.reduceBNe, gs_fuglemanref14_All, Ins.c, c0, c1, h5, l5, ins_len, hri, Int.toNat_natCast]
theorem rall_err (k lf : Nat) (L : List Ins) (hL : L.length ≤ 200) (t : List (Option Ah)) (hlen : t.length = L.length + 1) (i : Nat) (hi : i < L.length) (hin : L[i].In) (hr : right L[i] = true) (a : Ah) (hx : t[i]? = some (some a)) (e k' : Int) (bs' : List (Int × Int)) (he : e ≠ 0)
    (hb : acall T (k + 12) 29 0 [.agg L[i].c, .v (.int .i64 i), .v (.int .i64 L.length), .agg (rc a.k a.bs)] [] = some ⟨.tup [.agg (rc k' bs'), .v (.int .i64 e)], [], 1⟩) (N : Nat) :
    FnR [.t 2, .t 3, .t 4] false false (Lh (acall T (k + 12)) lf (some (rst L t i)) rlive l_fuglemanref14_All_0 N [.b 0, .c l_fuglemanref14_All_1]) = some ⟨.tup [.v (.slice none 0 0), .v (.int .i64 e), .v (.int .i64 i)], [], 1⟩ := by
  have c1 : (i : Int) < L.length := by omega
  have c0 : (0 : Int) ≤ i := by omega
  have c2 : (i : Int) < ((L.length + 1 : Nat) : Int) := by omega
  have w : IntKind.i64.wrap ((i : Int) + 1) = i + 1 := w64 (by omega) (by omega)
  have h5 := ins_at L i hi
  have l5 : i * 5 + 5 ≤ L.length * 5 := by omega
  have hri := rright_a (k + 1) L[i] hin
  rw [hr] at hri
  have hz : (rr t)[i * 3]? = some (.v (.bool true)) := rr_at hx (j := 0) (by decide)
  have hg : ((rr t).drop (i * 3)).take 3 = rc a.k a.bs := rr_get hx
  have l3 : i * 3 + 3 ≤ t.length * 3 := by omega
  have he' : (e != 0) = true := by simpa using he
  unfold rst renv rlive
  rw [lh_as l_fuglemanref14_All_0.eq_1]
  generalize L[i] = ins at *
  rw [hlen] at l3
  have htl := rr_len t
  rw [hlen] at htl
  generalize hM : L.length + 1 = M at *
  simp only [Ins.c, rc] at hri hb hg
  simp -implicitDefEqProofs only [eqs, eqd, eqe, ↓reduceIte, reduceCtorEq, Nat.reduceEqDiff, Nat.reduceAdd, Nat.reduceSub, Nat.reduceMul, Nat.reduceLT, Nat.reduceLeDiff, Nat.reduceBEq, Nat.reduceBNe, Nat.reduceGT, Int.reduceEq, Int.reduceLT, Int.reduceLE, Int.reduceToNat, Int.reduceAdd, Int.reduceSub, Int.reduceMul, Int.reduceNeg, Int.reduceBEq, Int.reduceBNe, gs_fuglemanref14_All, Ins.c, rc, c0, c1, c2, w, h5, l5, l3, ins_len, htl, hri, hz, hg, hb, he', Int.toNat_natCast, Int.natCast_add]
end Go.Proofs.Ythkjiclplecljaa.Ver

/- The document's All: an instruction that leads on. -/
namespace Go.Proofs.Ythkjiclplecljaa.Ver
open Go Go.Proofs.Ythkjiclplecljaa.Sym Go.Proofs.Ythkjiclplecljaa.Tab
set_option linter.unusedVariables false
set_option linter.unusedSimpArgs false
set_option maxHeartbeats 4000000
set_option maxRecDepth 20000
theorem rr_set' {t : List (Option Ah)} {i : Nat} (h : i < t.length) (a : Ah) : (((rr t).set (i * 3) (.v (.bool true))).set (i * 3 + 1) (.v (.int .i64 a.k))).set (i * 3 + 1 + 1) (.v (.string (enc a.bs))) = rr (t.set i (some a)) := rr_set h a
theorem rall_on (k lf : Nat) (L : List Ins) (hL : L.length ≤ 200) (t : List (Option Ah)) (ht : AllIn t) (hlen : t.length = L.length + 1) (i : Nat) (hi : i < L.length) (hin : L[i].In) (hr : right L[i] = true) (a : Ah) (hx : t[i]? = some (some a)) (b : Ah) (hbi : BrIn b.bs)
    (hb : acall T (k + 12) 29 0 [.agg L[i].c, .v (.int .i64 i), .v (.int .i64 L.length), .agg (rc a.k a.bs)] [] = some ⟨.tup [.agg (rc b.k b.bs), .v (.int .i64 0)], [], 1⟩)
    (ho : onI L[i] = true) (hj : jmp L[i] = false) (N : Nat) (ks : List It) :
    ((lead1 t (i + 1) b).2 = true → Lh (acall T (k + 12)) lf (some (rst L t i)) rlive l_fuglemanref14_All_0 (N + 1) ks = Lh (acall T (k + 12)) lf (some (rst L (lead1 t (i + 1) b).1 (i + 1))) rlive l_fuglemanref14_All_0 N ks) ∧
    ((lead1 t (i + 1) b).2 = false → FnR [.t 2, .t 3, .t 4] false false (Lh (acall T (k + 12)) lf (some (rst L t i)) rlive l_fuglemanref14_All_0 N [.b 0, .c l_fuglemanref14_All_1]) = some ⟨.tup [.v (.slice none 0 0), .v (.int .i64 7), .v (.int .i64 i)], [], 1⟩) := by
  have c1 : (i : Int) < L.length := by omega
  have c0 : (0 : Int) ≤ i := by omega
  have c2 : (i : Int) < ((L.length + 1 : Nat) : Int) := by omega
  have w : IntKind.i64.wrap ((i : Int) + 1) = ((i + 1 : Nat) : Int) := by rw [w64 (by omega) (by omega)]; omega
  have h5 := ins_at L i hi
  have l5 : i * 5 + 5 ≤ L.length * 5 := by omega
  have hri := rright_a (k + 1) L[i] hin
  rw [hr] at hri
  have hz : (rr t)[i * 3]? = some (.v (.bool true)) := rr_at hx (j := 0) (by decide)
  have hg : ((rr t).drop (i * 3)).take 3 = rc a.k a.bs := rr_get hx
  have htl := rr_len t
  rw [hlen] at htl
  have l3 : i * 3 + 3 ≤ (L.length + 1) * 3 := by omega
  have hJlt : i + 1 < t.length := by omega
  have hxJ : t[i + 1]? = some t[i + 1] := List.getElem?_eq_getElem hJlt
  have hgJ := rr_get hxJ
  have lJ : (i + 1) * 3 + 3 ≤ (L.length + 1) * 3 := by omega
  have cJ : ((i + 1 : Nat) : Int) < ((L.length + 1 : Nat) : Int) := by omega
  have cJ0 : (0 : Int) ≤ ((i + 1 : Nat) : Int) := by omega
  obtain ⟨y, hy, hjn⟩ := join_a (k + 11) t ht (i + 1) _ hxJ b hbi
  have hset := rr_set' hJlt y
  rw [hy]
  generalize (lead1 t (i + 1) b).2 = ok at *
  unfold onI at ho
  unfold jmp at hj
  rw [Bool.and_eq_true] at ho
  have jq : (25 ≤ L[i].op → ¬ L[i].op ≤ 27) := fun h1 h2 => by simp [h1, h2] at hj
  obtain ⟨o1, o2⟩ := ho
  have fl := rr_flat t
  have at1 := rr_atom t
  clear hy hxJ
  generalize hxx : t[i + 1] = x at *
  clear hxx
  generalize t.set (i + 1) (some y) = t' at *
  unfold rst renv rlive
  generalize L[i] = ins at *
  generalize hM : L.length + 1 = M at *
  generalize hJ : i + 1 = J at *
  simp only [Ins.c, rc] at hri hb hg
  have m21 : max 1 2 = 2 := rfl
  refine ⟨fun hok => ?_, fun hok => ?_⟩
  · subst hok
    rw [lh_as l_fuglemanref14_All_0.eq_1]
    by_cases q1 : 25 ≤ ins.op
    · have q2 := jq q1
      cases x <;> simp only [ra, rc] at hgJ hjn <;>
      simp -implicitDefEqProofs only [eqs, eqd, eqe, ↓reduceIte, reduceCtorEq, Nat.reduceEqDiff, Nat.reduceAdd, Nat.reduceSub, Nat.reduceMul, Nat.reduceLT, Nat.reduceLeDiff, Nat.reduceBEq, Nat.reduceBNe, Nat.reduceGT, Int.reduceEq, Int.reduceLT, Int.reduceLE, Int.reduceToNat, Int.reduceAdd, Int.reduceSub, Int.reduceMul, Int.reduceNeg, Int.reduceBEq, Int.reduceBNe, gs_fuglemanref14_All, Ins.c, rc, c0, c1, c2, w, h5, l5, l3, lJ, cJ, cJ0, ins_len, htl, hri, hz, hg, hgJ, hb, hjn, hset, o1, o2, q1, q2, Int.toNat_natCast]
    · cases x <;> simp only [ra, rc] at hgJ hjn <;>
      simp -implicitDefEqProofs only [eqs, eqd, eqe, ↓reduceIte, reduceCtorEq, Nat.reduceEqDiff, Nat.reduceAdd, Nat.reduceSub, Nat.reduceMul, Nat.reduceLT, Nat.reduceLeDiff, Nat.reduceBEq, Nat.reduceBNe, Nat.reduceGT, Int.reduceEq, Int.reduceLT, Int.reduceLE, Int.reduceToNat, Int.reduceAdd, Int.reduceSub, Int.reduceMul, Int.reduceNeg, Int.reduceBEq, Int.reduceBNe, gs_fuglemanref14_All, Ins.c, rc, c0, c1, c2, w, h5, l5, l3, lJ, cJ, cJ0, ins_len, htl, hri, hz, hg, hgJ, hb, hjn, hset, o1, o2, q1, Int.toNat_natCast]
  · subst hok
    rw [lh_as l_fuglemanref14_All_0.eq_1]
    cases x <;> simp only [ra, rc] at hgJ hjn <;>
    simp -implicitDefEqProofs only [eqs, eqd, eqe, ↓reduceIte, reduceCtorEq, Nat.reduceEqDiff, Nat.reduceAdd, Nat.reduceSub, Nat.reduceMul, Nat.reduceLT, Nat.reduceLeDiff, Nat.reduceBEq, Nat.reduceBNe, Nat.reduceGT, Int.reduceEq, Int.reduceLT, Int.reduceLE, Int.reduceToNat, Int.reduceAdd, Int.reduceSub, Int.reduceMul, Int.reduceNeg, Int.reduceBEq, Int.reduceBNe, gs_fuglemanref14_All, Ins.c, rc, c0, c1, c2, w, h5, l5, l3, lJ, cJ, cJ0, ins_len, htl, hri, hz, hg, hgJ, hb, hjn, hset, o1, o2, Int.toNat_natCast]
end Go.Proofs.Ythkjiclplecljaa.Ver

/- The document's All: an instruction that leads elsewhere, or to none. -/
namespace Go.Proofs.Ythkjiclplecljaa.Ver
open Go Go.Proofs.Ythkjiclplecljaa.Sym Go.Proofs.Ythkjiclplecljaa.Tab
set_option linter.unusedVariables false
set_option linter.unusedSimpArgs false
set_option maxHeartbeats 4000000
set_option maxRecDepth 20000
theorem rall_end (k lf : Nat) (L : List Ins) (hL : L.length ≤ 200) (t : List (Option Ah)) (ht : AllIn t) (hlen : t.length = L.length + 1) (i : Nat) (hi : i < L.length) (hin : L[i].In) (hr : right L[i] = true) (a : Ah) (hx : t[i]? = some (some a)) (b : Ah) (hbi : BrIn b.bs)
    (hb : acall T (k + 12) 29 0 [.agg L[i].c, .v (.int .i64 i), .v (.int .i64 L.length), .agg (rc a.k a.bs)] [] = some ⟨.tup [.agg (rc b.k b.bs), .v (.int .i64 0)], [], 1⟩)
    (ho : L[i].op = 28) (N : Nat) (ks : List It) :
    Lh (acall T (k + 12)) lf (some (rst L t i)) rlive l_fuglemanref14_All_0 (N + 1) ks = Lh (acall T (k + 12)) lf (some (rst L t (i + 1))) rlive l_fuglemanref14_All_0 N ks := by
  have c1 : (i : Int) < L.length := by omega
  have c0 : (0 : Int) ≤ i := by omega
  have c2 : (i : Int) < ((L.length + 1 : Nat) : Int) := by omega
  have w : IntKind.i64.wrap ((i : Int) + 1) = ((i + 1 : Nat) : Int) := by rw [w64 (by omega) (by omega)]; omega
  have h5 := ins_at L i hi
  have l5 : i * 5 + 5 ≤ L.length * 5 := by omega
  have hri := rright_a (k + 1) L[i] hin
  rw [hr] at hri
  have hz : (rr t)[i * 3]? = some (.v (.bool true)) := rr_at hx (j := 0) (by decide)
  have hg : ((rr t).drop (i * 3)).take 3 = rc a.k a.bs := rr_get hx
  have htl := rr_len t
  rw [hlen] at htl
  have l3 : i * 3 + 3 ≤ (L.length + 1) * 3 := by omega
  have o1 : (L[i].op != 25) = true := by rw [ho]; rfl
  have o2 : (L[i].op != 28) = false := by rw [ho]; rfl
  have q1 : 25 ≤ L[i].op := by omega
  have q2 : ¬ L[i].op ≤ 27 := by omega
  clear ho
  unfold rst renv rlive
  generalize L[i] = ins at *
  generalize hM : L.length + 1 = M at *
  generalize hJ : i + 1 = J at *
  simp only [Ins.c, rc] at hri hb hg
  rw [lh_as l_fuglemanref14_All_0.eq_1]
  simp -implicitDefEqProofs only [eqs, eqd, eqe, ↓reduceIte, reduceCtorEq, Nat.reduceEqDiff, Nat.reduceAdd, Nat.reduceSub, Nat.reduceMul, Nat.reduceLT, Nat.reduceLeDiff, Nat.reduceBEq, Nat.reduceBNe, Nat.reduceGT, Int.reduceEq, Int.reduceLT, Int.reduceLE, Int.reduceToNat, Int.reduceAdd, Int.reduceSub, Int.reduceMul, Int.reduceNeg, Int.reduceBEq, Int.reduceBNe, gs_fuglemanref14_All, Ins.c, rc, c0, c1, c2, w, h5, l5, l3, ins_len, htl, hri, hz, hg, hb, o1, o2, q1, q2, Int.toNat_natCast]
theorem rall_to (k lf : Nat) (L : List Ins) (hL : L.length ≤ 200) (t : List (Option Ah)) (ht : AllIn t) (hlen : t.length = L.length + 1) (i : Nat) (hi : i < L.length) (hin : L[i].In) (hr : right L[i] = true) (a : Ah) (hx : t[i]? = some (some a)) (b : Ah) (hbi : BrIn b.bs)
    (hb : acall T (k + 12) 29 0 [.agg L[i].c, .v (.int .i64 i), .v (.int .i64 L.length), .agg (rc a.k a.bs)] [] = some ⟨.tup [.agg (rc b.k b.bs), .v (.int .i64 0)], [], 1⟩)
    (ho : L[i].op = 25) (J : Nat) (hat : L[i].at_ = (J : Nat)) (hJ1 : J ≤ L.length) (N : Nat) (ks : List It) :
    ((lead1 t J b).2 = true → Lh (acall T (k + 12)) lf (some (rst L t i)) rlive l_fuglemanref14_All_0 (N + 1) ks = Lh (acall T (k + 12)) lf (some (rst L (lead1 t J b).1 (i + 1))) rlive l_fuglemanref14_All_0 N ks) ∧
    ((lead1 t J b).2 = false → FnR [.t 2, .t 3, .t 4] false false (Lh (acall T (k + 12)) lf (some (rst L t i)) rlive l_fuglemanref14_All_0 N [.b 0, .c l_fuglemanref14_All_1]) = some ⟨.tup [.v (.slice none 0 0), .v (.int .i64 7), .v (.int .i64 i)], [], 1⟩) := by
  have c1 : (i : Int) < L.length := by omega
  have c0 : (0 : Int) ≤ i := by omega
  have c2 : (i : Int) < ((L.length + 1 : Nat) : Int) := by omega
  have w : IntKind.i64.wrap ((i : Int) + 1) = ((i + 1 : Nat) : Int) := by rw [w64 (by omega) (by omega)]; omega
  have h5 := ins_at L i hi
  have l5 : i * 5 + 5 ≤ L.length * 5 := by omega
  have hri := rright_a (k + 1) L[i] hin
  rw [hr] at hri
  have hz : (rr t)[i * 3]? = some (.v (.bool true)) := rr_at hx (j := 0) (by decide)
  have hg : ((rr t).drop (i * 3)).take 3 = rc a.k a.bs := rr_get hx
  have htl := rr_len t
  rw [hlen] at htl
  have l3 : i * 3 + 3 ≤ (L.length + 1) * 3 := by omega
  have hJlt : J < t.length := by omega
  have hxJ : t[J]? = some t[J] := List.getElem?_eq_getElem hJlt
  have hgJ := rr_get hxJ
  have lJ : J * 3 + 3 ≤ (L.length + 1) * 3 := by omega
  have cJ : (J : Int) < ((L.length + 1 : Nat) : Int) := by omega
  have cJ0 : (0 : Int) ≤ (J : Int) := by omega
  obtain ⟨y, hy, hjn⟩ := join_a (k + 11) t ht J _ hxJ b hbi
  have hset := rr_set' hJlt y
  rw [hy]
  generalize (lead1 t J b).2 = ok at *
  have o1 : (L[i].op != 25) = false := by rw [ho]; rfl
  have q1 : 25 ≤ L[i].op := by omega
  have q2 : L[i].op ≤ 27 := by omega
  have fl := rr_flat t
  have at1 := rr_atom t
  clear hy hxJ
  generalize hxx : t[J] = x at *
  clear hxx
  generalize t.set J (some y) = t' at *
  unfold rst renv rlive
  generalize L[i] = ins at *
  generalize hM : L.length + 1 = M at *
  generalize hJJ : i + 1 = I1 at *
  clear ho
  simp only [Ins.c, rc, hat] at hri hb hg
  have m21 : max 1 2 = 2 := rfl
  refine ⟨fun hok => ?_, fun hok => ?_⟩
  · subst hok
    rw [lh_as l_fuglemanref14_All_0.eq_1]
    cases x <;> simp only [ra, rc] at hgJ hjn <;>
    simp -implicitDefEqProofs only [eqs, eqd, eqe, ↓reduceIte, reduceCtorEq, Nat.reduceEqDiff, Nat.reduceAdd, Nat.reduceSub, Nat.reduceMul, Nat.reduceLT, Nat.reduceLeDiff, Nat.reduceBEq, Nat.reduceBNe, Nat.reduceGT, Int.reduceEq, Int.reduceLT, Int.reduceLE, Int.reduceToNat, Int.reduceAdd, Int.reduceSub, Int.reduceMul, Int.reduceNeg, Int.reduceBEq, Int.reduceBNe, gs_fuglemanref14_All, Ins.c, rc, c0, c1, c2, w, h5, l5, l3, lJ, cJ, cJ0, ins_len, htl, hri, hz, hg, hgJ, hb, hjn, hset, o1, q1, q2, hat, Int.toNat_natCast]
  · subst hok
    rw [lh_as l_fuglemanref14_All_0.eq_1]
    cases x <;> simp only [ra, rc] at hgJ hjn <;>
    simp -implicitDefEqProofs only [eqs, eqd, eqe, ↓reduceIte, reduceCtorEq, Nat.reduceEqDiff, Nat.reduceAdd, Nat.reduceSub, Nat.reduceMul, Nat.reduceLT, Nat.reduceLeDiff, Nat.reduceBEq, Nat.reduceBNe, Nat.reduceGT, Int.reduceEq, Int.reduceLT, Int.reduceLE, Int.reduceToNat, Int.reduceAdd, Int.reduceSub, Int.reduceMul, Int.reduceNeg, Int.reduceBEq, Int.reduceBNe, gs_fuglemanref14_All, Ins.c, rc, c0, c1, c2, w, h5, l5, l3, lJ, cJ, cJ0, ins_len, htl, hri, hz, hg, hgJ, hb, hjn, hset, o1, q1, q2, hat, Int.toNat_natCast]
end Go.Proofs.Ythkjiclplecljaa.Ver

/- The document's All: an instruction that leads on and elsewhere. -/
namespace Go.Proofs.Ythkjiclplecljaa.Ver
open Go Go.Proofs.Ythkjiclplecljaa.Sym Go.Proofs.Ythkjiclplecljaa.Tab
set_option linter.unusedVariables false
set_option linter.unusedSimpArgs false
set_option maxHeartbeats 4000000
set_option maxRecDepth 20000
def joinY (x : Option Ah) (b : Ah) : Ah := match x with
  | none => b
  | some a => meet a b
def joinB (x : Option Ah) (b : Ah) : Bool := match x with
  | none => true
  | some a => decide (a.bs = b.bs)
theorem lead1_eq {t : List (Option Ah)} {tgt : Nat} {x : Option Ah} (hx : t[tgt]? = some x) (b : Ah) : lead1 t tgt b = (t.set tgt (some (joinY x b)), joinB x b) := by
  unfold lead1
  rw [hx]
  cases x <;> rfl
theorem join_b (k : Nat) (t : List (Option Ah)) (ht : AllIn t) (tgt : Nat) (x : Option Ah) (hx : t[tgt]? = some x) (b : Ah) (hb : BrIn b.bs) : acall T (k + 1) 30 0 [.agg (ra x), .agg (rc b.k b.bs)] [] = some ⟨.tup [.agg (rc (joinY x b).k (joinY x b).bs), .v (.bool (joinB x b))], [], 1⟩ := by
  cases x with
  | none => exact join_none k b
  | some a => exact join_some k a b (ht tgt a hx).2 hb
theorem rall_both (k lf : Nat) (L : List Ins) (hL : L.length ≤ 200) (t : List (Option Ah)) (ht : AllIn t) (hlen : t.length = L.length + 1) (i : Nat) (hi : i < L.length) (hin : L[i].In) (hr : right L[i] = true) (a : Ah) (hx : t[i]? = some (some a)) (b : Ah) (hb0 : b.In) (hbi : BrIn b.bs)
    (hb : acall T (k + 12) 29 0 [.agg L[i].c, .v (.int .i64 i), .v (.int .i64 L.length), .agg (rc a.k a.bs)] [] = some ⟨.tup [.agg (rc b.k b.bs), .v (.int .i64 0)], [], 1⟩)
    (ho : L[i].op = 26 ∨ L[i].op = 27) (J : Nat) (hat : L[i].at_ = (J : Nat)) (hJ1 : J ≤ L.length) (N : Nat) (ks : List It) :
    ((lead1 t (i + 1) b).2 = true → (lead1 (lead1 t (i + 1) b).1 J b).2 = true → Lh (acall T (k + 12)) lf (some (rst L t i)) rlive l_fuglemanref14_All_0 (N + 1) ks = Lh (acall T (k + 12)) lf (some (rst L (lead1 (lead1 t (i + 1) b).1 J b).1 (i + 1))) rlive l_fuglemanref14_All_0 N ks) ∧
    ((lead1 t (i + 1) b).2 = true → (lead1 (lead1 t (i + 1) b).1 J b).2 = false → FnR [.t 2, .t 3, .t 4] false false (Lh (acall T (k + 12)) lf (some (rst L t i)) rlive l_fuglemanref14_All_0 N [.b 0, .c l_fuglemanref14_All_1]) = some ⟨.tup [.v (.slice none 0 0), .v (.int .i64 7), .v (.int .i64 i)], [], 1⟩) ∧
    ((lead1 t (i + 1) b).2 = false → FnR [.t 2, .t 3, .t 4] false false (Lh (acall T (k + 12)) lf (some (rst L t i)) rlive l_fuglemanref14_All_0 N [.b 0, .c l_fuglemanref14_All_1]) = some ⟨.tup [.v (.slice none 0 0), .v (.int .i64 7), .v (.int .i64 i)], [], 1⟩) := by
  have c1 : (i : Int) < L.length := by omega
  have c0 : (0 : Int) ≤ i := by omega
  have c2 : (i : Int) < ((L.length + 1 : Nat) : Int) := by omega
  have w : IntKind.i64.wrap ((i : Int) + 1) = ((i + 1 : Nat) : Int) := by rw [w64 (by omega) (by omega)]; omega
  have h5 := ins_at L i hi
  have l5 : i * 5 + 5 ≤ L.length * 5 := by omega
  have hri := rright_a (k + 1) L[i] hin
  rw [hr] at hri
  have hz : (rr t)[i * 3]? = some (.v (.bool true)) := rr_at hx (j := 0) (by decide)
  have hg : ((rr t).drop (i * 3)).take 3 = rc a.k a.bs := rr_get hx
  have htl := rr_len t
  rw [hlen] at htl
  have l3 : i * 3 + 3 ≤ (L.length + 1) * 3 := by omega
  have hJlt : i + 1 < t.length := by omega
  have hxJ : t[i + 1]? = some t[i + 1] := List.getElem?_eq_getElem hJlt
  have hgJ := rr_get hxJ
  have lJ : (i + 1) * 3 + 3 ≤ (L.length + 1) * 3 := by omega
  have cJ : ((i + 1 : Nat) : Int) < ((L.length + 1 : Nat) : Int) := by omega
  have cJ0 : (0 : Int) ≤ ((i + 1 : Nat) : Int) := by omega
  have hjn := join_b (k + 11) t ht (i + 1) _ hxJ b hbi
  have hy := lead1_eq hxJ b
  have ht1 : AllIn (lead1 t (i + 1) b).1 := ht.lead1 ⟨hb0, hbi⟩
  have hl1 : (lead1 t (i + 1) b).1.length = L.length + 1 := by rw [lead1_len, hlen]
  have htl1 := rr_len (lead1 t (i + 1) b).1
  rw [hl1] at htl1
  have hset := rr_set' hJlt (joinY t[i + 1] b)
  have hy1 : (lead1 t (i + 1) b).1 = t.set (i + 1) (some (joinY t[i + 1] b)) := by rw [hy]
  have hy0 : (lead1 t (i + 1) b).2 = joinB t[i + 1] b := by rw [hy]
  rw [← hy1] at hset
  rw [hy0]
  clear hy hy1 hy0
  generalize (lead1 t (i + 1) b).1 = t1 at *
  have hJ2 : J < t1.length := by omega
  have hx2 : t1[J]? = some t1[J] := List.getElem?_eq_getElem hJ2
  have hg2 := rr_get hx2
  have l2 : J * 3 + 3 ≤ (L.length + 1) * 3 := by omega
  have d2 : (J : Int) < ((L.length + 1 : Nat) : Int) := by omega
  have d0 : (0 : Int) ≤ (J : Int) := by omega
  have hjn2 := join_b (k + 11) t1 ht1 J _ hx2 b hbi
  have hset2 := rr_set' hJ2 (joinY t1[J] b)
  rw [lead1_eq hx2 b]
  have o1 : (L[i].op != 25) = true := by rcases ho with h | h <;> rw [h] <;> rfl
  have o2 : (L[i].op != 28) = true := by rcases ho with h | h <;> rw [h] <;> rfl
  have q1 : 25 ≤ L[i].op := by omega
  have q2 : L[i].op ≤ 27 := by omega
  clear hxJ hx2 ho
  generalize hxx : t[i + 1] = x at *
  clear hxx
  generalize hxx2 : t1[J] = x2 at *
  clear hxx2
  generalize t1.set J (some (joinY x2 b)) = t2 at *
  simp only
  unfold rst renv rlive
  generalize L[i] = ins at *
  generalize hM : L.length + 1 = M at *
  generalize hI : i + 1 = I at *
  simp only [Ins.c, rc, hat] at hri hb hg
  refine ⟨fun hok hok2 => ?_, fun hok hok2 => ?_, fun hok => ?_⟩
  · rw [lh_as l_fuglemanref14_All_0.eq_1]
    cases x <;> cases x2 <;> simp only [ra, rc, joinY, joinB] at hgJ hjn hg2 hjn2 hset hset2 hok hok2 <;> first
      | (exfalso; simp at hok; done)
      | (exfalso; simp at hok2; done)
      | simp -implicitDefEqProofs only [eqs, eqd, eqe, ↓reduceIte, reduceCtorEq, Nat.reduceEqDiff, Nat.reduceAdd, Nat.reduceSub, Nat.reduceMul, Nat.reduceLT, Nat.reduceLeDiff, Nat.reduceBEq, Nat.reduceBNe, Nat.reduceGT, Int.reduceEq, Int.reduceLT, Int.reduceLE, Int.reduceToNat, Int.reduceAdd, Int.reduceSub, Int.reduceMul, Int.reduceNeg, Int.reduceBEq, Int.reduceBNe, gs_fuglemanref14_All, Ins.c, rc, c0, c1, c2, w, h5, l5, l3, lJ, cJ, cJ0, l2, d2, d0, ins_len, htl, htl1, hri, hz, hg, hgJ, hg2, hb, hjn, hjn2, hset, hset2, o1, o2, q1, q2, hat, Int.toNat_natCast, hok, hok2]
  · rw [lh_as l_fuglemanref14_All_0.eq_1]
    cases x <;> cases x2 <;> simp only [ra, rc, joinY, joinB] at hgJ hjn hg2 hjn2 hset hset2 hok hok2 <;> first
      | (exfalso; simp at hok; done)
      | (exfalso; simp at hok2; done)
      | simp -implicitDefEqProofs only [eqs, eqd, eqe, ↓reduceIte, reduceCtorEq, Nat.reduceEqDiff, Nat.reduceAdd, Nat.reduceSub, Nat.reduceMul, Nat.reduceLT, Nat.reduceLeDiff, Nat.reduceBEq, Nat.reduceBNe, Nat.reduceGT, Int.reduceEq, Int.reduceLT, Int.reduceLE, Int.reduceToNat, Int.reduceAdd, Int.reduceSub, Int.reduceMul, Int.reduceNeg, Int.reduceBEq, Int.reduceBNe, gs_fuglemanref14_All, Ins.c, rc, c0, c1, c2, w, h5, l5, l3, lJ, cJ, cJ0, l2, d2, d0, ins_len, htl, htl1, hri, hz, hg, hgJ, hg2, hb, hjn, hjn2, hset, hset2, o1, o2, q1, q2, hat, Int.toNat_natCast, hok, hok2]
  · rw [lh_as l_fuglemanref14_All_0.eq_1]
    cases x <;> cases x2 <;> simp only [ra, rc, joinY, joinB] at hgJ hjn hg2 hjn2 hset hset2 hok  <;> first
      | (exfalso; simp at hok; done)
      | simp -implicitDefEqProofs only [eqs, eqd, eqe, ↓reduceIte, reduceCtorEq, Nat.reduceEqDiff, Nat.reduceAdd, Nat.reduceSub, Nat.reduceMul, Nat.reduceLT, Nat.reduceLeDiff, Nat.reduceBEq, Nat.reduceBNe, Nat.reduceGT, Int.reduceEq, Int.reduceLT, Int.reduceLE, Int.reduceToNat, Int.reduceAdd, Int.reduceSub, Int.reduceMul, Int.reduceNeg, Int.reduceBEq, Int.reduceBNe, gs_fuglemanref14_All, Ins.c, rc, c0, c1, c2, w, h5, l5, l3, lJ, cJ, cJ0, l2, d2, d0, ins_len, htl, htl1, hri, hz, hg, hgJ, hg2, hb, hjn, hjn2, hset, hset2, o1, o2, q1, q2, hat, Int.toNat_natCast, hok]
end Go.Proofs.Ythkjiclplecljaa.Ver

/- The document's All: each round is a step. -/
namespace Go.Proofs.Ythkjiclplecljaa.Ver
open Go Go.Proofs.Ythkjiclplecljaa.Sym Go.Proofs.Ythkjiclplecljaa.Tab
set_option linter.unusedVariables false
set_option linter.unusedSimpArgs false
set_option maxHeartbeats 4000000
theorem right_op {i : Ins} (h : right i = true) : 1 ≤ i.op ∧ i.op ≤ 36 := by
  rcases cl_in i.op with ⟨h', _⟩ | h' | h' | ⟨h', _⟩ | ⟨h', _⟩ | ⟨h', _⟩ | ⟨h', _⟩ | ⟨h', _⟩ | ⟨h', _⟩
  · unfold right at h
    rw [h'] at h
    simp at h
  · unfold cl at h'
    split at h'
    · omega
    · repeat' split at h'
      all_goals omega
  · unfold cl at h'
    split at h'
    · omega
    · split at h'
      · omega
      · repeat' split at h'
        all_goals omega
  all_goals omega
noncomputable abbrev rfin (k lf : Nat) (L : List Ins) (t : List (Option Ah)) (i N : Nat) : Option Res := FnR [.t 2, .t 3, .t 4] false false (Lh (acall T (k + 12)) lf (some (rst L t i)) rlive l_fuglemanref14_All_0 N [.b 0, .c l_fuglemanref14_All_1])
theorem rall_step (k lf : Nat) (L : List Ins) (hL : L.length ≤ 200) (t : List (Option Ah)) (ht : AllIn t) (hlen : t.length = L.length + 1) (i : Nat) (hi : i < L.length) (hin : L[i].In) (N : Nat) :
    ((stp L.length i t L[i]).1 = 0 → rfin k lf L t i (N + 1) = rfin k lf L (stp L.length i t L[i]).2 (i + 1) N ∧ AllIn (stp L.length i t L[i]).2 ∧ (stp L.length i t L[i]).2.length = L.length + 1) ∧
    ((stp L.length i t L[i]).1 ≠ 0 → rfin k lf L t i (N + 1) = some ⟨.tup [.v (.slice none 0 0), .v (.int .i64 (stp L.length i t L[i]).1), .v (.int .i64 i)], [], 1⟩) := by
  unfold stp
  by_cases hr : right L[i] = false
  · rw [if_pos hr]
    exact ⟨fun h => absurd h (by simp), fun _ => rall_bad k lf L hL t hlen i hi hin hr (N + 1)⟩
  rw [if_neg hr]
  have hr : right L[i] = true := by simpa using hr
  have hop := right_op hr
  have hx : t[i]? = some t[i] := List.getElem?_eq_getElem (by omega)
  rw [hx]
  generalize hxx : t[i] = x at hx
  cases x with
  | none => exact ⟨fun _ => ⟨congrArg _ (rall_skip k lf L hL t hlen i hi hin hr hx N _), ht, hlen⟩, fun h => absurd rfl h⟩
  | some a =>
    have ha := ht i a hx
    simp only
    by_cases hj : jmp L[i] = true ∧ ¬ ((i : Int) < L[i].at_ ∧ L[i].at_ ≤ L.length)
    · rw [if_pos hj]
      have hjo : 25 ≤ L[i].op ∧ L[i].op ≤ 27 := by have := hj.1; unfold jmp at this; simpa using this
      obtain ⟨k', bs', hb⟩ := rbeh_jump (k + 7) a L[i] i L.length ha.2 hjo hj.2
      exact ⟨fun h => absurd h (by simp), fun _ => rall_err k lf L hL t hlen i hi hin hr a hx 7 k' bs' (by decide) hb (N + 1)⟩
    rw [if_neg hj]
    have hj' : 25 ≤ L[i].op ∧ L[i].op ≤ 27 → (i : Int) < L[i].at_ ∧ L[i].at_ ≤ L.length := fun h => by
      refine Classical.byContradiction fun hc => hj ⟨?_, hc⟩
      unfold jmp
      simp [h.1, h.2]
    obtain ⟨k', bs', hb, hsame⟩ := rbeh_a (k + 7) a L[i] i L.length ha.2 hop hj'
    by_cases he : (beh a L[i]).2 ≠ 0
    · rw [if_pos he]
      exact ⟨fun h => absurd h he, fun _ => rall_err k lf L hL t hlen i hi hin hr a hx _ k' bs' he hb (N + 1)⟩
    rw [if_neg he]
    have he : (beh a L[i]).2 = 0 := by simpa using he
    obtain ⟨e1, e2⟩ := hsame he
    have hbin := beh_in ha L[i] he
    rw [e1, e2, he] at hb
    generalize (beh a L[i]).1 = b at *
    unfold lead2
    have fin : ∀ {r : List (Option Ah) × Bool}, (r.2 = true → rfin k lf L t i (N + 1) = rfin k lf L r.1 (i + 1) N ∧ AllIn r.1 ∧ r.1.length = L.length + 1) → (r.2 = false → rfin k lf L t i (N + 1) = some ⟨.tup [.v (.slice none 0 0), .v (.int .i64 7), .v (.int .i64 i)], [], 1⟩) →
        ((if r.2 = true then ((0 : Int), r.1) else (7, t)).1 = 0 → rfin k lf L t i (N + 1) = rfin k lf L (if r.2 = true then ((0 : Int), r.1) else (7, t)).2 (i + 1) N ∧ AllIn (if r.2 = true then ((0 : Int), r.1) else (7, t)).2 ∧ (if r.2 = true then ((0 : Int), r.1) else (7, t)).2.length = L.length + 1) ∧
        ((if r.2 = true then ((0 : Int), r.1) else (7, t)).1 ≠ 0 → rfin k lf L t i (N + 1) = some ⟨.tup [.v (.slice none 0 0), .v (.int .i64 (if r.2 = true then ((0 : Int), r.1) else (7, t)).1), .v (.int .i64 i)], [], 1⟩) := fun {r} h1 h2 => by
      obtain ⟨r1, r2⟩ := r
      cases r2
      · exact ⟨fun h => absurd h (by simp), fun _ => h2 rfl⟩
      · exact ⟨fun _ => h1 rfl, fun h => absurd rfl h⟩
    by_cases o25 : L[i].op = 25
    · have on : onI L[i] = false := by unfold onI; rw [o25]; rfl
      have jm : jmp L[i] = true := by unfold jmp; rw [o25]; rfl
      obtain ⟨j1, j2⟩ := hj' (by omega)
      obtain ⟨J, hJ⟩ : ∃ J : Nat, L[i].at_ = J := ⟨L[i].at_.toNat, by omega⟩
      have key := (rall_to k lf L hL t ht hlen i hi hin hr a hx b hbin.2 hb o25 J hJ (by omega) N [.b 0, .c l_fuglemanref14_All_1]).1
      have key2 := (rall_to k lf L hL t ht hlen i hi hin hr a hx b hbin.2 hb o25 J hJ (by omega) (N + 1) []).2
      simp only [on, jm, hJ, Bool.false_eq_true, if_false, if_true, and_self, Int.toNat_natCast]
      exact fin (fun h => ⟨congrArg _ (key h), ht.lead1 hbin, by rw [lead1_len, hlen]⟩) key2
    by_cases o28 : L[i].op = 28
    · have on : onI L[i] = false := by unfold onI; rw [o28]; rfl
      have jm : jmp L[i] = false := by unfold jmp; rw [o28]; rfl
      simp only [on, jm, Bool.false_eq_true, if_false, and_false]
      exact fin (r := (t, true)) (fun _ => ⟨congrArg _ (rall_end k lf L hL t ht hlen i hi hin hr a hx b hbin.2 hb o28 N _), ht, hlen⟩) (fun h => by cases h)
    have on : onI L[i] = true := by unfold onI; simp [o25, o28]
    by_cases o67 : L[i].op = 26 ∨ L[i].op = 27
    · have jm : jmp L[i] = true := by unfold jmp; rcases o67 with h | h <;> rw [h] <;> rfl
      obtain ⟨j1, j2⟩ := hj' (by omega)
      obtain ⟨J, hJ⟩ : ∃ J : Nat, L[i].at_ = J := ⟨L[i].at_.toNat, by omega⟩
      have key := (rall_both k lf L hL t ht hlen i hi hin hr a hx b hbin.1 hbin.2 hb o67 J hJ (by omega) N [.b 0, .c l_fuglemanref14_All_1]).1
      have key2 := (rall_both k lf L hL t ht hlen i hi hin hr a hx b hbin.1 hbin.2 hb o67 J hJ (by omega) (N + 1) []).2
      simp only [on, jm, hJ, if_true, and_true, Int.toNat_natCast]
      by_cases q : (lead1 t (i + 1) b).2 = true
      · simp only [q, if_true]
        exact fin (fun h => ⟨congrArg _ (key q h), (ht.lead1 hbin).lead1 hbin, by rw [lead1_len, lead1_len, hlen]⟩) (fun h => key2.1 q h)
      · have q' : (lead1 t (i + 1) b).2 = false := by simpa using q
        rw [if_neg q]
        exact fin (fun h => absurd h q) (fun _ => key2.2 q')
    · have jm : jmp L[i] = false := by
        unfold jmp
        cases h1 : decide (25 ≤ L[i].op)
        · rfl
        · have : ¬ L[i].op ≤ 27 := by have := of_decide_eq_true h1; omega
          simp [this]
      have key := (rall_on k lf L hL t ht hlen i hi hin hr a hx b hbin.2 hb on jm N [.b 0, .c l_fuglemanref14_All_1]).1
      have key2 := (rall_on k lf L hL t ht hlen i hi hin hr a hx b hbin.2 hb on jm (N + 1) []).2
      simp only [on, jm, Bool.false_eq_true, if_true, if_false, and_false]
      exact fin (fun h => ⟨congrArg _ (key h), ht.lead1 hbin, by rw [lead1_len, hlen]⟩) key2
end Go.Proofs.Ythkjiclplecljaa.Ver

/- The document's All. -/
namespace Go.Proofs.Ythkjiclplecljaa.Ver
open Go Go.Proofs.Ythkjiclplecljaa.Sym Go.Proofs.Ythkjiclplecljaa.Tab
set_option linter.unusedVariables false
set_option linter.unusedSimpArgs false
set_option maxHeartbeats 4000000
set_option maxRecDepth 20000
/-- What is wrong at the end, and where. -/
def endE (n : Nat) (t : List (Option Ah)) : Int × Int := match t[n]? with
  | some (some a) => if a.bs = [] then (0, 0) else (3, n)
  | _ => (0, 0)
/-- All instructions: the error, where, the table. -/
def run (L : List Ins) : Nat → Nat → List (Option Ah) → Int × Int × List (Option Ah)
  | 0, i, t => ((endE L.length t).1, (endE L.length t).2, t)
  | m + 1, i, t => if h : i < L.length then
      (if (stp L.length i t L[i]).1 = 0 then run L m (i + 1) (stp L.length i t L[i]).2 else ((stp L.length i t L[i]).1, i, t))
    else (0, 0, t)
def rres (n : Nat) (r : Int × Int × List (Option Ah)) : Res := if r.1 = 0 then ⟨.tup [.view 0 0 (n + 1) 3 (some (n + 1)), .v (.int .i64 0), .v (.int .i64 0)], [⟨true, true, true, rr r.2.2⟩], 1⟩ else ⟨.tup [.v (.slice none 0 0), .v (.int .i64 r.1), .v (.int .i64 r.2.1)], [], 1⟩
theorem enc_nil (bs : List (Int × Int)) : decide (enc bs = ByteArray.empty) = decide (bs = []) := by
  rw [decide_eq_decide]
  refine ⟨fun h => ?_, fun h => by rw [h]; rfl⟩
  have := congrArg ByteArray.size h
  rw [enc_size, show ByteArray.empty.size = 0 from rfl] at this
  exact List.length_eq_zero_iff.1 (by omega)
theorem rall_fin (k lf : Nat) (L : List Ins) (hL : L.length ≤ 200) (t : List (Option Ah)) (hlen : t.length = L.length + 1) (N : Nat) : rfin k lf L t L.length N = some (rres L.length ((endE L.length t).1, (endE L.length t).2, t)) := by
  have c1 : ¬ (L.length : Int) < L.length := by omega
  have c0 : (0 : Int) ≤ L.length := by omega
  have c2 : (L.length : Int) < ((L.length + 1 : Nat) : Int) := by omega
  have hx : t[L.length]? = some t[L.length] := List.getElem?_eq_getElem (by omega)
  have htl := rr_len t
  rw [hlen] at htl
  have z0 : (rr t)[L.length * 3]? = (ra t[L.length])[0]? := rr_at hx (j := 0) (by decide)
  have z2 : (rr t)[L.length * 3 + 2]? = (ra t[L.length])[2]? := rr_at hx (j := 2) (by decide)
  unfold rfin rst renv rlive endE
  rw [hx, lh_as l_fuglemanref14_All_0.eq_1]
  generalize t[L.length] = x at *
  have fl := rr_flat t
  have at1 := rr_atom t
  generalize hM : L.length + 1 = M at *
  cases x with
  | none =>
    simp only [ra, List.getElem?_cons_zero] at z0
    unfold rres
    simp only [if_true]
    rw [hM]
    simp -implicitDefEqProofs only [eqs, eqd, eqe, ↓reduceIte, reduceCtorEq, Nat.reduceEqDiff, Nat.reduceAdd, Nat.reduceSub, Nat.reduceMul, Nat.reduceLT, Nat.reduceLeDiff, Nat.reduceBEq, Nat.reduceBNe, Nat.reduceGT, Int.reduceEq, Int.reduceLT, Int.reduceLE, Int.reduceToNat, Int.reduceAdd, Int.reduceSub, Int.reduceMul, Int.reduceNeg, Int.reduceBEq, Int.reduceBNe, l_fuglemanref14_All_1, c0, c1, c2, htl, z0, Int.toNat_natCast]
  | some a =>
    simp only [ra, rc, List.getElem?_cons_zero, List.getElem?_cons_succ] at z0 z2
    have he := enc_nil a.bs
    by_cases c : a.bs = []
    · simp only [c, if_true]
      rw [c] at z2 he
      have he' : (enc [] = ByteArray.empty) := rfl
      unfold rres
      simp only [if_true]
      rw [hM]
      simp -implicitDefEqProofs only [eqs, eqd, eqe, ↓reduceIte, reduceCtorEq, Nat.reduceEqDiff, Nat.reduceAdd, Nat.reduceSub, Nat.reduceMul, Nat.reduceLT, Nat.reduceLeDiff, Nat.reduceBEq, Nat.reduceBNe, Nat.reduceGT, Int.reduceEq, Int.reduceLT, Int.reduceLE, Int.reduceToNat, Int.reduceAdd, Int.reduceSub, Int.reduceMul, Int.reduceNeg, Int.reduceBEq, Int.reduceBNe, l_fuglemanref14_All_1, c0, c1, c2, htl, z0, z2, he', Int.toNat_natCast]
    · have he' : ¬ (enc a.bs = ByteArray.empty) := fun h => by
        have h2 : decide (enc a.bs = ByteArray.empty) = true := decide_eq_true h
        rw [he] at h2
        exact c (of_decide_eq_true h2)
      simp only [c, if_false]
      unfold rres
      rw [if_neg (by simp)]
      simp -implicitDefEqProofs only [eqs, eqd, eqe, ↓reduceIte, reduceCtorEq, Nat.reduceEqDiff, Nat.reduceAdd, Nat.reduceSub, Nat.reduceMul, Nat.reduceLT, Nat.reduceLeDiff, Nat.reduceBEq, Nat.reduceBNe, Nat.reduceGT, Int.reduceEq, Int.reduceLT, Int.reduceLE, Int.reduceToNat, Int.reduceAdd, Int.reduceSub, Int.reduceMul, Int.reduceNeg, Int.reduceBEq, Int.reduceBNe, l_fuglemanref14_All_1, c0, c1, c2, htl, z0, z2, he', Int.toNat_natCast]
theorem rall_run (k lf : Nat) (L : List Ins) (hL : L.length ≤ 200) (hin : ∀ (i : Nat) (h : i < L.length), L[i].In) : ∀ (m i N : Nat) (t : List (Option Ah)), i + m = L.length → m ≤ N → AllIn t → t.length = L.length + 1 → rfin k lf L t i N = some (rres L.length (run L m i t))
  | 0, i, N, t, hi, hN, ht, hlen => by
    obtain rfl : i = L.length := by omega
    exact rall_fin k lf L hL t hlen N
  | m + 1, i, N, t, hi, hN, ht, hlen => by
    obtain ⟨N, rfl⟩ : ∃ M, N = M + 1 := ⟨N - 1, by omega⟩
    have h : i < L.length := by omega
    obtain ⟨h1, h2⟩ := rall_step k lf L hL t ht hlen i h (hin i h) N
    rw [run, dif_pos h]
    by_cases c : (stp L.length i t L[i]).1 = 0
    · rw [if_pos c]
      obtain ⟨e, a1, a2⟩ := h1 c
      rw [e]
      exact rall_run k lf L hL hin m (i + 1) N _ (by omega) (by omega) a1 a2
    · rw [if_neg c, h2 c]
      unfold rres
      rw [if_neg c]
end Go.Proofs.Ythkjiclplecljaa.Ver

/- The document's All, from its beginning. -/
namespace Go.Proofs.Ythkjiclplecljaa.Ver
open Go Go.Proofs.Ythkjiclplecljaa.Sym Go.Proofs.Ythkjiclplecljaa.Tab
set_option linter.unusedVariables false
set_option linter.unusedSimpArgs false
set_option maxHeartbeats 4000000
set_option maxRecDepth 20000
def t00 (n : Nat) : List (Option Ah) := some ⟨0, true, []⟩ :: List.replicate n none
theorem t00_len (n : Nat) : (t00 n).length = n + 1 := by simp [t00]
theorem t00_in (n : Nat) : AllIn (t00 n) := fun i a h => by
  cases i with
  | zero =>
    obtain rfl : (⟨0, true, []⟩ : Ah) = a := by simpa [t00] using h
    exact ⟨⟨fun _ => rfl, Nat.zero_le _⟩, Nat.zero_le _, fun p hp => by cases hp⟩
  | succ i =>
    rw [t00, List.getElem?_cons_succ] at h
    have := List.mem_of_getElem? h
    rw [List.mem_replicate] at this
    cases this.2
theorem reps_rr : ∀ (n : Nat), reps n [.v (.bool false), .v (.int .i64 0), .v (.string ByteArray.empty)] = rr (List.replicate n none)
  | 0 => rfl
  | n + 1 => by rw [reps, reps_rr n, List.replicate_succ, rr_cons]; rfl
theorem rr_first (n : Nat) : (rr (List.replicate (n + 1) none)).set 0 (.v (.bool true)) = rr (t00 n) := by
  rw [List.replicate_succ]
  rfl
theorem rall_long (k : Nat) (L : List Ins) (hL : 200 < L.length) : acall T (k + 13) 18 0 [.shr L.length false (L.flatMap Ins.c)] [] = some ⟨.tup [.v (.slice none 0 0), .v (.int .i64 2), .v (.int .i64 200)], [], 0⟩ := by
  rw [acall_go (body := b_fuglemanref14_All) rfl rfl (Nat.zero_le _)]
  have c : (200 : Int) < L.length := by omega
  simp -implicitDefEqProofs only [eqs, eqd, eqe, ↓reduceIte, reduceCtorEq, Nat.reduceEqDiff, Nat.reduceAdd, Nat.reduceSub, Nat.reduceMul, Nat.reduceLT, Nat.reduceLeDiff, Nat.reduceBEq, Nat.reduceBNe, Nat.reduceGT, Int.reduceEq, Int.reduceLT, Int.reduceLE, Int.reduceToNat, Int.reduceAdd, Int.reduceSub, Int.reduceMul, Int.reduceNeg, Int.reduceBEq, Int.reduceBNe, b_fuglemanref14_All, gs_fuglemanref14_All, c]
theorem rall_a (k : Nat) (hk : 200 ≤ k) (L : List Ins) (hL : L.length ≤ 200) (hin : ∀ (i : Nat) (h : i < L.length), L[i].In) : acall T (k + 13) 18 0 [.shr L.length false (L.flatMap Ins.c)] [] = some (rres L.length (run L L.length 0 (t00 L.length))) := by
  rw [acall_go (body := b_fuglemanref14_All) rfl rfl (Nat.zero_le _)]
  have c : ¬ (200 : Int) < L.length := by omega
  have w : IntKind.i64.wrap ((L.length : Int) + 1) = ((L.length + 1 : Nat) : Int) := by rw [w64 (by omega) (by omega)]; omega
  have h := rall_run k (k + 12) L hL hin L.length 0 (k + 11) (t00 L.length) (by omega) (by omega) (t00_in _) (t00_len _)
  have lp : ∀ (ks : List It) (s : St), Lp (acall T (k + 12)) (k + 12) [0, 5, 6, 7] l_fuglemanref14_All_0 (k + 12) ks s = Lh (acall T (k + 12)) (k + 12) (canon [0, 5, 6, 7] s) [0, 5, 6, 7] l_fuglemanref14_All_0 (k + 11) ks := fun ks s => lp_succ (n := k + 11)
  have n1 : (0 : Int) ≤ ((L.length + 1 : Nat) : Int) := by omega
  have n2 : ((L.length + 1 : Nat) : Int) ≤ ((L.length + 1 : Nat) : Int) := Int.le_refl _
  have n3 : (L.length + 1) * 32 ≤ 140737488355328 := by omega
  have n4 : L.length + 1 ≤ 9223372036854775807 := by omega
  have n5 : (0 : Int) < ((L.length + 1 : Nat) : Int) := by omega
  have r1 := reps_rr (L.length + 1)
  have r2 := rr_first L.length
  have r3 := rr_len (List.replicate (L.length + 1) (none : Option Ah))
  rw [List.length_replicate] at r3
  have r4 := rr_flat (List.replicate (L.length + 1) (none : Option Ah))
  have r5 : 1 ≤ (L.length + 1) * 3 := by omega
  rw [← h]
  unfold rfin rst renv rlive
  generalize hR : rr (t00 L.length) = R at *
  clear hR h
  generalize hM : L.length + 1 = M at *
  simp -implicitDefEqProofs only [eqs, eqd, eqe, ↓reduceIte, reduceCtorEq, Nat.reduceEqDiff, Nat.reduceAdd, Nat.reduceSub, Nat.reduceMul, Nat.reduceLT, Nat.reduceLeDiff, Nat.reduceBEq, Nat.reduceBNe, Nat.reduceGT, Int.reduceEq, Int.reduceLT, Int.reduceLE, Int.reduceToNat, Int.reduceAdd, Int.reduceSub, Int.reduceMul, Int.reduceNeg, Int.reduceBEq, Int.reduceBNe, b_fuglemanref14_All, gs_fuglemanref14_All, c, w, n1, n2, n3, n4, n5, r1, r2, r3, r4, r5, lp, Int.toNat_natCast, Int.natCast_zero]
end Go.Proofs.Ythkjiclplecljaa.Ver

/- The program's all: a round that ends or goes on at once. -/
namespace Go.Proofs.Ythkjiclplecljaa.Ver
open Go Go.Proofs.Ythkjiclplecljaa.Sym Go.Proofs.Ythkjiclplecljaa.Tab
set_option linter.unusedVariables false
set_option linter.unusedSimpArgs false
set_option maxHeartbeats 4000000
set_option maxRecDepth 20000
def penv (L : List Ins) (i : Nat) : Env := [(0, .shr L.length false (L.flatMap Ins.c)), (5, .view 0 0 (L.length + 1) 1 (some (L.length + 1))), (22, .shr L.length false (L.flatMap Ins.c)), (23, .v (.int .i64 L.length)), (24, .v (.int .i64 i))]
def pst (L : List Ins) (t : List (Option Ah)) (i : Nat) : St := ⟨penv L i, canT t true, 1, []⟩
abbrev plive : List Nat := [0, 5, 22, 23, 24]
theorem wz1 {α : Type} (W : List α) (z : α) : (W ++ [z])[W.length]? = some z := by
  rw [List.getElem?_append_right (Nat.le_refl _), Nat.sub_self]
  rfl
theorem wz2 {α : Type} (W : List α) (z y : α) : (W ++ [z]).set W.length y = W ++ [y] := by
  rw [List.set_append_right _ _ (Nat.le_refl _), Nat.sub_self]
  rfl
noncomputable abbrev pfin (k lf : Nat) (L : List Ins) (t : List (Option Ah)) (i N : Nat) : Option Res := FnR [.t 2, .t 3, .t 4] false false (Lh (acall T (k + 16)) lf (some (pst L t i)) plive l_verify_all_0 N [.b 0, .c l_verify_all_1])
theorem all_bad (k lf : Nat) (L : List Ins) (hL : L.length ≤ 200) (t : List (Option Ah)) (hlen : t.length = L.length + 1) (i : Nat) (hi : i < L.length) (hin : L[i].In) (hr : right L[i] = false) (N : Nat) :
    pfin k lf L t i N = some ⟨.tup [.v (.slice none 0 0), .v (.int .i64 3), .v (.int .i64 i)], [], 1⟩ := by
  have c1 : (i : Int) < L.length := by omega
  have c0 : (0 : Int) ≤ i := by omega
  have h5 := ins_at L i hi
  have l5 : i * 5 + 5 ≤ L.length * 5 := by omega
  have hri := right_a (k + 11) L[i]
  rw [hr] at hri
  unfold pfin pst penv plive
  rw [lh_as l_verify_all_0.eq_1]
  generalize L[i] = ins at *
  generalize hM : L.length + 1 = M at *
  generalize canT t true = W at *
  simp only [Ins.c] at hri
  simp -implicitDefEqProofs only [eqs, eqd, aCall, Sym.pos, ↓reduceIte, reduceCtorEq, Nat.reduceEqDiff, Nat.reduceAdd, Nat.reduceSub, Nat.reduceMul, Nat.reduceLT, Nat.reduceLeDiff, Nat.reduceBEq, Nat.reduceBNe, Nat.reduceGT, Int.reduceEq, Int.reduceLT, Int.reduceLE, Int.reduceToNat, Int.reduceAdd, Int.reduceSub, Int.reduceMul, Int.reduceNeg, Int.reduceBEq, Int.reduceBNe, nx_nil, Ins.c, c0, c1, h5, l5, ins_len, hri, Int.toNat_natCast, r0, s0, wz1, wz2]
theorem canT_len (t : List (Option Ah)) (fr : Bool) : (canT t fr).length = (som t).length + 1 := by unfold canT; simp
theorem som_le (t : List (Option Ah)) : (som t).length ≤ t.length := List.length_filterMap_le _ _
/-- The table with more behind it. -/
theorem has_more (t : List (Option Ah)) (hs : (som t).length ≤ 300) (E : List Sym.Obj) : HasT (canT t true ++ E) (List.range' 1 (som t).length) t true := by
  have h := canT_len t true
  refine (canT_has t true hs).mono ?_ fun q hq => ?_
  · rw [List.getElem?_append_left (by omega)]
  · rw [List.mem_range'_1] at hq
    rw [List.getElem?_append_left (by omega)]
theorem more_reach (t : List (Option Ah)) (hs : (som t).length ≤ 300) (E : List Sym.Obj) : reach (canT t true ++ E) 400 [0] [] = some (0 :: List.range' 1 (som t).length) := (has_more t hs E).reach
theorem more_sub (t : List (Option Ah)) (hs : (som t).length ≤ 300) (E : List Sym.Obj) : sub (canT t true ++ E) (0 :: List.range' 1 (som t).length) true = canT t true := (has_more t hs E).sub true (fun _ => rfl)
theorem more_tab (t : List (Option Ah)) (E : List Sym.Obj) : (canT t true ++ E)[0]? = some ⟨true, true, false, tcl (List.range' 1 (som t).length) t⟩ := rfl
theorem all_skip (k lf : Nat) (L : List Ins) (hL : L.length ≤ 200) (t : List (Option Ah)) (hlen : t.length = L.length + 1) (i : Nat) (hi : i < L.length) (hin : L[i].In) (hr : right L[i] = true) (hx : t[i]? = some none) (N : Nat) (ks : List It) :
    Lh (acall T (k + 16)) lf (some (pst L t i)) plive l_verify_all_0 (N + 1) ks = Lh (acall T (k + 16)) lf (some (pst L t (i + 1))) plive l_verify_all_0 N ks := by
  have c1 : (i : Int) < L.length := by omega
  have c0 : (0 : Int) ≤ i := by omega
  have c2 : (i : Int) < ((L.length + 1 : Nat) : Int) := by omega
  have w : IntKind.i64.wrap ((i : Int) + 1) = i + 1 := w64 (by omega) (by omega)
  have h5 := ins_at L i hi
  have l5 : i * 5 + 5 ≤ L.length * 5 := by omega
  have hri := right_a (k + 11) L[i]
  rw [hr] at hri
  have hs : (som t).length ≤ 300 := by have := som_le t; omega
  have ht := tcl_none (List.range' 1 (som t).length) t i hx
  have htl := tcl_len (List.range' 1 (som t).length) t
  rw [hlen] at htl
  have l1 : i + 1 ≤ L.length + 1 := by omega
  have m1 := more_reach t hs
  have m2 := more_sub t hs
  have m3 := more_tab t
  unfold pst penv plive
  rw [lh_as l_verify_all_0.eq_1]
  generalize L[i] = ins at *
  generalize hM : L.length + 1 = M at *
  generalize canT t true = W at *
  generalize tcl (List.range' 1 (som t).length) t = tc at *
  generalize List.range' 1 (som t).length = ps at *
  simp only [Ins.c] at hri
  simp -implicitDefEqProofs only [eqs, eqd, aCall, Sym.pos, ↓reduceIte, reduceCtorEq, Nat.reduceEqDiff, Nat.reduceAdd, Nat.reduceSub, Nat.reduceMul, Nat.reduceLT, Nat.reduceLeDiff, Nat.reduceBEq, Nat.reduceBNe, Nat.reduceGT, Int.reduceEq, Int.reduceLT, Int.reduceLE, Int.reduceToNat, Int.reduceAdd, Int.reduceSub, Int.reduceMul, Int.reduceNeg, Int.reduceBEq, Int.reduceBNe, nx_nil, Ins.c, nilp, c0, c1, c2, w, h5, l5, l1, ins_len, hri, ht, htl, m1, m2, m3, Int.toNat_natCast, Int.natCast_add, r0, s0, wz1, wz2]
end Go.Proofs.Ythkjiclplecljaa.Ver

/- The program's all: an instruction that leads to no place, or that fails. -/
namespace Go.Proofs.Ythkjiclplecljaa.Ver
open Go Go.Proofs.Ythkjiclplecljaa.Sym Go.Proofs.Ythkjiclplecljaa.Tab
set_option linter.unusedVariables false
set_option linter.unusedSimpArgs false
set_option maxHeartbeats 4000000
set_option maxRecDepth 20000
theorem jumps_a (k : Nat) (i : Ins) : acall T (k + 1) 48 0 [.agg i.c] [] = some ⟨.v (.bool (jmp i)), [], 1⟩ := by
  rw [acall_go (body := b_verify_jumps) rfl rfl (Nat.zero_le _)]
  unfold jmp
  obtain ⟨op, ik, ar, at_, nn⟩ := i
  by_cases c : 25 ≤ op
  · by_cases d : op ≤ 27 <;> simp -implicitDefEqProofs only [eqs, eqd, eqe, lh_some, ↓reduceIte, reduceCtorEq, Nat.reduceEqDiff, Nat.reduceAdd, Nat.reduceSub, Nat.reduceMul, Nat.reduceLT, Nat.reduceLeDiff, Nat.reduceBEq, Nat.reduceBNe, Nat.reduceGT, Int.reduceEq, Int.reduceLT, Int.reduceLE, Int.reduceToNat, Int.reduceAdd, Int.reduceSub, Int.reduceMul, Int.reduceNeg, Int.reduceBEq, Int.reduceBNe, b_verify_jumps, Ins.c, c, d]
  · simp -implicitDefEqProofs only [eqs, eqd, eqe, lh_some, ↓reduceIte, reduceCtorEq, Nat.reduceEqDiff, Nat.reduceAdd, Nat.reduceSub, Nat.reduceMul, Nat.reduceLT, Nat.reduceLeDiff, Nat.reduceBEq, Nat.reduceBNe, Nat.reduceGT, Int.reduceEq, Int.reduceLT, Int.reduceLE, Int.reduceToNat, Int.reduceAdd, Int.reduceSub, Int.reduceMul, Int.reduceNeg, Int.reduceBEq, Int.reduceBNe, b_verify_jumps, Ins.c, c]
theorem on_a (k : Nat) (i : Ins) : acall T (k + 1) 50 0 [.agg i.c] [] = some ⟨.v (.bool (onI i)), [], 1⟩ := by
  rw [acall_go (body := b_verify_on) rfl rfl (Nat.zero_le _)]
  unfold onI
  obtain ⟨op, ik, ar, at_, nn⟩ := i
  simp only
  cases c : (op != 25)
  · simp -implicitDefEqProofs only [eqs, eqd, eqe, lh_some, ↓reduceIte, reduceCtorEq, Nat.reduceEqDiff, Nat.reduceAdd, Nat.reduceSub, Nat.reduceMul, Nat.reduceLT, Nat.reduceLeDiff, Nat.reduceBEq, Nat.reduceBNe, Nat.reduceGT, Int.reduceEq, Int.reduceLT, Int.reduceLE, Int.reduceToNat, Int.reduceAdd, Int.reduceSub, Int.reduceMul, Int.reduceNeg, Int.reduceBEq, Int.reduceBNe, b_verify_on, Ins.c, c]
  · cases d : (op != 28) <;> simp -implicitDefEqProofs only [eqs, eqd, eqe, lh_some, ↓reduceIte, reduceCtorEq, Nat.reduceEqDiff, Nat.reduceAdd, Nat.reduceSub, Nat.reduceMul, Nat.reduceLT, Nat.reduceLeDiff, Nat.reduceBEq, Nat.reduceBNe, Nat.reduceGT, Int.reduceEq, Int.reduceLT, Int.reduceLE, Int.reduceToNat, Int.reduceAdd, Int.reduceSub, Int.reduceMul, Int.reduceNeg, Int.reduceBEq, Int.reduceBNe, b_verify_on, Ins.c, c, d]
theorem all_jump (k lf : Nat) (L : List Ins) (hL : L.length ≤ 200) (t : List (Option Ah)) (hlen : t.length = L.length + 1) (i : Nat) (hi : i < L.length) (hr : right L[i] = true) (a : Ah) (hx : t[i]? = some (some a)) (hj : jmp L[i] = true) (hb : ¬ ((i : Int) < L[i].at_ ∧ L[i].at_ ≤ L.length)) (N : Nat) :
    pfin k lf L t i N = some ⟨.tup [.v (.slice none 0 0), .v (.int .i64 7), .v (.int .i64 i)], [], 1⟩ := by
  have c1 : (i : Int) < L.length := by omega
  have c0 : (0 : Int) ≤ i := by omega
  have c2 : (i : Int) < ((L.length + 1 : Nat) : Int) := by omega
  have h5 := ins_at L i hi
  have l5 : i * 5 + 5 ≤ L.length * 5 := by omega
  have hri := right_a (k + 11) L[i]
  rw [hr] at hri
  have hja := jumps_a (k + 15) L[i]
  rw [hj] at hja
  obtain ⟨p, hp, ht, hso⟩ := tcl_some (List.range' 1 (som t).length) t i a (by simp) hx
  have htl := tcl_len (List.range' 1 (som t).length) t
  rw [hlen] at htl
  have l1 : i + 1 ≤ L.length + 1 := by omega
  have m3 := more_tab t
  clear hx hp hso
  unfold pfin pst penv plive
  rw [lh_as l_verify_all_0.eq_1]
  generalize L[i] = ins at *
  generalize hM : L.length + 1 = M at *
  generalize canT t true = W at *
  generalize tcl (List.range' 1 (som t).length) t = tc at *
  simp only [Ins.c] at hri hja
  by_cases d1 : ins.at_ ≤ (i : Int)
  · simp -implicitDefEqProofs only [eqs, eqd, aCall, Sym.pos, ↓reduceIte, reduceCtorEq, Nat.reduceEqDiff, Nat.reduceAdd, Nat.reduceSub, Nat.reduceMul, Nat.reduceLT, Nat.reduceLeDiff, Nat.reduceBEq, Nat.reduceBNe, Nat.reduceGT, Int.reduceEq, Int.reduceLT, Int.reduceLE, Int.reduceToNat, Int.reduceAdd, Int.reduceSub, Int.reduceMul, Int.reduceNeg, Int.reduceBEq, Int.reduceBNe, nx_nil, Ins.c, nilp, c0, c1, c2, h5, l5, l1, ins_len, hri, hja, ht, htl, m3, d1, Int.toNat_natCast, Int.natCast_add, r0, s0, wz1, wz2]
  · have d2 : (L.length : Int) < ins.at_ := by omega
    simp -implicitDefEqProofs only [eqs, eqd, aCall, Sym.pos, ↓reduceIte, reduceCtorEq, Nat.reduceEqDiff, Nat.reduceAdd, Nat.reduceSub, Nat.reduceMul, Nat.reduceLT, Nat.reduceLeDiff, Nat.reduceBEq, Nat.reduceBNe, Nat.reduceGT, Int.reduceEq, Int.reduceLT, Int.reduceLE, Int.reduceToNat, Int.reduceAdd, Int.reduceSub, Int.reduceMul, Int.reduceNeg, Int.reduceBEq, Int.reduceBNe, nx_nil, Ins.c, nilp, c0, c1, c2, h5, l5, l1, ins_len, hri, hja, ht, htl, m3, d1, d2, Int.toNat_natCast, Int.natCast_add, r0, s0, wz1, wz2]
end Go.Proofs.Ythkjiclplecljaa.Ver

/- The program's all: an instruction that fails. -/
namespace Go.Proofs.Ythkjiclplecljaa.Ver
open Go Go.Proofs.Ythkjiclplecljaa.Sym Go.Proofs.Ythkjiclplecljaa.Tab
set_option linter.unusedVariables false
set_option linter.unusedSimpArgs false
set_option maxHeartbeats 4000000
set_option maxRecDepth 20000
theorem wz3 {α : Type} (W : List α) (y z : α) : (W ++ [y] ++ [z])[W.length]? = some y := by
  rw [List.append_assoc, List.getElem?_append_right (Nat.le_refl _), Nat.sub_self]
  rfl
theorem more_obj (t : List (Option Ah)) (hs : (som t).length ≤ 300) {i p : Nat} {a : Ah} (hp : (List.range' 1 (som t).length)[cnt t i]? = some p) (ha : (som t)[cnt t i]? = some a) (E : List Sym.Obj) : (canT t true ++ E)[p]? = some ⟨true, true, true, a.c⟩ := by
  obtain ⟨f, h1, h2⟩ := (has_more t hs E).obj _ p a hp ha
  rw [h1, h2 rfl]
/-- The target, where it jumps. -/
def okJ (n i : Nat) (ins : Ins) : Prop := jmp ins = true → (i : Int) < ins.at_ ∧ ins.at_ ≤ n
theorem all_err (k lf : Nat) (L : List Ins) (hL : L.length ≤ 200) (t : List (Option Ah)) (hlen : t.length = L.length + 1) (i : Nat) (hi : i < L.length) (hr : right L[i] = true) (a : Ah) (hx : t[i]? = some (some a)) (hj : okJ L.length i L[i]) (b : Ah) (e : Int) (he : e ≠ 0)
    (hb : acall T (k + 16) 49 0 [.agg a.c, .agg L[i].c] [] = some ⟨.tup [.agg b.c, .v (.int .i64 e)], [], 1⟩) (N : Nat) :
    pfin k lf L t i N = some ⟨.tup [.v (.slice none 0 0), .v (.int .i64 e), .v (.int .i64 i)], [], 1⟩ := by
  have c1 : (i : Int) < L.length := by omega
  have c0 : (0 : Int) ≤ i := by omega
  have c2 : (i : Int) < ((L.length + 1 : Nat) : Int) := by omega
  have h5 := ins_at L i hi
  have l5 : i * 5 + 5 ≤ L.length * 5 := by omega
  have hri := right_a (k + 11) L[i]
  rw [hr] at hri
  have hja := jumps_a (k + 15) L[i]
  have hs : (som t).length ≤ 300 := by have := som_le t; omega
  obtain ⟨p, hp, ht, hso⟩ := tcl_some (List.range' 1 (som t).length) t i a (by simp) hx
  have htl := tcl_len (List.range' 1 (som t).length) t
  rw [hlen] at htl
  have l1 : i + 1 ≤ L.length + 1 := by omega
  have m3 := more_tab t
  have m4 := more_obj t hs hp hso
  have he' : (e != 0) = true := by simpa using he
  clear hx hp hso
  unfold pfin pst penv plive
  rw [lh_as l_verify_all_0.eq_1]
  unfold okJ at hj
  generalize L[i] = ins at *
  generalize hM : L.length + 1 = M at *
  generalize canT t true = W at *
  generalize tcl (List.range' 1 (som t).length) t = tc at *
  obtain ⟨ak, an, as1⟩ := a
  obtain ⟨bk, bn, bs⟩ := b
  simp only [Ins.c] at hri hja hb
  cases hjj : jmp ins
  · rw [hjj] at hja
    clear hj
    cases an <;> cases bn <;> simp only [Ah.c, openA, Bool.false_eq_true, if_false, if_true] at hb m4 <;>
    simp -implicitDefEqProofs only [eqs, eqd, aCall, Sym.pos, ↓reduceIte, reduceCtorEq, Nat.reduceEqDiff, Nat.reduceAdd, Nat.reduceSub, Nat.reduceMul, Nat.reduceLT, Nat.reduceLeDiff, Nat.reduceBEq, Nat.reduceBNe, Nat.reduceGT, Int.reduceEq, Int.reduceLT, Int.reduceLE, Int.reduceToNat, Int.reduceAdd, Int.reduceSub, Int.reduceMul, Int.reduceNeg, Int.reduceBEq, Int.reduceBNe, nx_nil, Ins.c, nilp, c0, c1, c2, h5, l5, l1, ins_len, hri, hja, hb, he', ht, htl, m3, m4, Int.toNat_natCast, Int.natCast_add, r0, s0, wz1, wz2, wz3]
  · rw [hjj] at hja
    obtain ⟨j1, j2⟩ := hj hjj
    have d1 : ¬ ins.at_ ≤ (i : Int) := by omega
    have d2 : ¬ (L.length : Int) < ins.at_ := by omega
    clear hj
    cases an <;> cases bn <;> simp only [Ah.c, openA, Bool.false_eq_true, if_false, if_true] at hb m4 <;>
    simp -implicitDefEqProofs only [eqs, eqd, aCall, Sym.pos, ↓reduceIte, reduceCtorEq, Nat.reduceEqDiff, Nat.reduceAdd, Nat.reduceSub, Nat.reduceMul, Nat.reduceLT, Nat.reduceLeDiff, Nat.reduceBEq, Nat.reduceBNe, Nat.reduceGT, Int.reduceEq, Int.reduceLT, Int.reduceLE, Int.reduceToNat, Int.reduceAdd, Int.reduceSub, Int.reduceMul, Int.reduceNeg, Int.reduceBEq, Int.reduceBNe, nx_nil, Ins.c, nilp, c0, c1, c2, h5, l5, l1, ins_len, hri, hja, d1, d2, hb, he', ht, htl, m3, m4, Int.toNat_natCast, Int.natCast_add, r0, s0, wz1, wz2, wz3]
end Go.Proofs.Ythkjiclplecljaa.Ver

/- A call of lead, and one of a flat function, on any state. -/
namespace Go.Proofs.Ythkjiclplecljaa.Ver
open Go Go.Proofs.Ythkjiclplecljaa.Sym Go.Proofs.Ythkjiclplecljaa.Tab
set_option linter.unusedVariables false
set_option linter.unusedSimpArgs false
set_option maxHeartbeats 4000000
set_option maxRecDepth 20000
theorem lead1_a (k : Nat) (t : List (Option Ah)) (tgt : Nat) (hto : tgt < t.length) (hs : (som t).length < 300) (ht : AllIn t) (a : Ah) (ha : a.In) :
    acall T (k + 14) 51 1 [.view 0 0 t.length 1 (some t.length), .v (.int .i64 tgt), .agg a.c] (canT t false) = some ⟨.v (.bool (lead1 t tgt a).2), canT (lead1 t tgt a).1 false, 2⟩ := by
  have hx : t[tgt]? = some t[tgt] := List.getElem?_eq_getElem hto
  unfold lead1
  rw [hx]
  generalize t[tgt] = x at hx
  cases x with
  | none => exact lead_new k t tgt hx hs a
  | some b => exact lead_put k t tgt b hx hs a ha (ht tgt b hx).1
theorem lead1_call (k : Nat) {Ω : List Sym.Obj} {ps : List Nat} {t : List (Option Ah)} (h : HasT Ω ps t true) (tgt : Nat) (hto : tgt < t.length) (hs : (som t).length < 300) (ht : AllIn t) (a : Ah) (ha : a.In) :
    aCall (acall T (k + 14)) Ω (.fn 51 []) [.view 0 0 t.length 1 (some t.length), .v (.int .i64 tgt), .agg a.c] = some (.v (.bool (lead1 t tgt a).2), after Ω ps (lead1 t tgt a).1, 1) :=
  lead_call h t.length tgt a _ (lead1_a k t tgt hto hs ht a ha)
theorem flat_call {C : CT} {g : Nat} {i : Ins} {b : Bool} (h : C g 0 [.agg i.c] [] = some ⟨.v (.bool b), [], 1⟩) (Ω : List Sym.Obj) : aCall C Ω (.fn g []) [.agg i.c] = some (.v (.bool b), Ω, 1) := by
  obtain ⟨op, ik, ar, at_, nn⟩ := i
  simp only [Ins.c] at h ⊢
  simp -implicitDefEqProofs only [eqs, eqd, eqe, lh_some, ↓reduceIte, reduceCtorEq, Nat.reduceEqDiff, Nat.reduceAdd, Nat.reduceSub, Nat.reduceMul, Nat.reduceLT, Nat.reduceLeDiff, Nat.reduceBEq, Nat.reduceBNe, Nat.reduceGT, Int.reduceEq, Int.reduceLT, Int.reduceLE, Int.reduceToNat, Int.reduceAdd, Int.reduceSub, Int.reduceMul, Int.reduceNeg, Int.reduceBEq, Int.reduceBNe, h, r0, s0]
end Go.Proofs.Ythkjiclplecljaa.Ver

/- The program's all: an instruction that leads on. -/
namespace Go.Proofs.Ythkjiclplecljaa.Ver
open Go Go.Proofs.Ythkjiclplecljaa.Sym Go.Proofs.Ythkjiclplecljaa.Tab
set_option linter.unusedVariables false
set_option linter.unusedSimpArgs false
set_option maxHeartbeats 4000000
set_option maxRecDepth 20000
theorem after_X (t t' : List (Option Ah)) (hs : (som t).length ≤ 300) (o7 o8 : Sym.Obj) : (after (canT t true ++ [o7] ++ [o8]) (List.range' 1 (som t).length) t')[(canT t true).length]? = some o7 ∧ (after (canT t true ++ [o7] ++ [o8]) (List.range' 1 (som t).length) t')[(canT t true ++ [o7]).length]? = some o8 := by
  have hl := canT_len t true
  constructor
  · rw [after_other (by omega) (by rw [List.mem_range'_1]; omega) (by simp)]
    exact wz3 _ _ _
  · rw [after_other (by simp) (by rw [List.mem_range'_1, List.length_append]; simp; omega) (by simp)]
    exact wz1 _ _
theorem has_more2 (t : List (Option Ah)) (hs : (som t).length ≤ 300) (o7 o8 : Sym.Obj) : HasT (canT t true ++ [o7] ++ [o8]) (List.range' 1 (som t).length) t true := by
  rw [List.append_assoc]
  exact has_more t hs _
theorem all_on (k lf : Nat) (L : List Ins) (hL : L.length ≤ 200) (t : List (Option Ah)) (hA : AllIn t) (hlen : t.length = L.length + 1) (i : Nat) (hi : i < L.length) (hr : right L[i] = true) (a : Ah) (hx : t[i]? = some (some a)) (b : Ah) (hbi : b.In) (on : onI L[i] = true) (jm : jmp L[i] = false)
    (hb : acall T (k + 16) 49 0 [.agg a.c, .agg L[i].c] [] = some ⟨.tup [.agg b.c, .v (.int .i64 0)], [], 1⟩) (N : Nat) :
    ((lead1 t (i + 1) b).2 = true → pfin k lf L t i (N + 1) = pfin k lf L (lead1 t (i + 1) b).1 (i + 1) N) ∧
    ((lead1 t (i + 1) b).2 = false → pfin k lf L t i (N + 1) = some ⟨.tup [.v (.slice none 0 0), .v (.int .i64 7), .v (.int .i64 i)], [], 1⟩) := by
  have c1 : (i : Int) < L.length := by omega
  have c0 : (0 : Int) ≤ i := by omega
  have c2 : (i : Int) < ((L.length + 1 : Nat) : Int) := by omega
  have w : IntKind.i64.wrap ((i : Int) + 1) = i + 1 := w64 (by omega) (by omega)
  have h5 := ins_at L i hi
  have l5 : i * 5 + 5 ≤ L.length * 5 := by omega
  have hri := right_a (k + 11) L[i]
  rw [hr] at hri
  have hja := jumps_a (k + 15) L[i]
  rw [jm] at hja
  have hoa := on_a (k + 15) L[i]
  rw [on] at hoa
  have hri := flat_call hri
  have hja := flat_call hja
  have hoa := flat_call hoa
  have hs := som_le t
  have hs1 := som_le (lead1 t (i + 1) b).1
  rw [lead1_len] at hs1
  obtain ⟨p, hp, ht, hso⟩ := tcl_some (List.range' 1 (som t).length) t i a (by simp) hx
  have htl := tcl_len (List.range' 1 (som t).length) t
  rw [hlen] at htl
  have l1 : i + 1 ≤ L.length + 1 := by omega
  have m3 := more_tab t
  have m4 := more_obj t (by omega) hp hso
  have hT := has_more2 t (by omega) ⟨true, true, true, L[i].c⟩ ⟨true, true, true, b.c⟩
  have hld := lead1_call (k + 2) hT (i + 1) (by omega) (by omega) hA b hbi
  rw [hlen] at hld
  have hX := after_X t (lead1 t (i + 1) b).1 (by omega) ⟨true, true, true, L[i].c⟩ ⟨true, true, true, b.c⟩
  have hT2 := after_has (t' := (lead1 t (i + 1) b).1) hT (by omega) (by simp)
  have hX7 := hX.1
  have q1 := hT2.reach
  have q2 := hT2.sub true (fun _ => rfl)
  rw [Bool.and_true] at q2
  clear hx hp hso hT hT2 hX
  unfold pfin pst penv plive
  rw [lh_as l_verify_all_0.eq_1]
  generalize (lead1 t (i + 1) b).1 = t' at *
  generalize (lead1 t (i + 1) b).2 = r at *
  generalize L[i] = ins at *
  generalize hM : L.length + 1 = M at *
  generalize after (canT t true ++ [(⟨true, true, true, ins.c⟩ : Sym.Obj)] ++ [(⟨true, true, true, b.c⟩ : Sym.Obj)]) (List.range' 1 (som t).length) t' = X at *
  generalize canT t true = W at *
  generalize canT t' true = Y at *
  generalize tcl (List.range' 1 (som t).length) t = tc at *
  generalize List.range' _ (som t').length = ps' at *
  obtain ⟨ak, an, as1⟩ := a
  obtain ⟨bk, bn, bs⟩ := b
  simp only [Ins.c] at hri hja hoa hb hX7 hld
  refine ⟨fun hr => ?_, fun hr => ?_⟩
  · rw [hr] at hld
    cases an <;> cases bn <;> simp only [Ah.c, openA, Bool.false_eq_true, if_false, if_true, Int.natCast_add, Int.natCast_one] at hb m4 hld <;>
    simp -implicitDefEqProofs only [eqs, eqd, Sym.pos, ↓reduceIte, reduceCtorEq, Nat.reduceEqDiff, Nat.reduceAdd, Nat.reduceSub, Nat.reduceMul, Nat.reduceLT, Nat.reduceLeDiff, Nat.reduceBEq, Nat.reduceBNe, Nat.reduceGT, Int.reduceEq, Int.reduceLT, Int.reduceLE, Int.reduceToNat, Int.reduceAdd, Int.reduceSub, Int.reduceMul, Int.reduceNeg, Int.reduceBEq, Int.reduceBNe, nx_nil, Ins.c, nilp, c0, c1, c2, w, h5, l5, l1, ins_len, hri, hja, hoa, hb, hld, hX7, q1, q2, ht, htl, m3, m4, Int.toNat_natCast, Int.natCast_add, r0, s0, wz1, wz2, wz3]
  · rw [hr] at hld
    cases an <;> cases bn <;> simp only [Ah.c, openA, Bool.false_eq_true, if_false, if_true, Int.natCast_add, Int.natCast_one] at hb m4 hld <;>
    simp -implicitDefEqProofs only [eqs, eqd, Sym.pos, ↓reduceIte, reduceCtorEq, Nat.reduceEqDiff, Nat.reduceAdd, Nat.reduceSub, Nat.reduceMul, Nat.reduceLT, Nat.reduceLeDiff, Nat.reduceBEq, Nat.reduceBNe, Nat.reduceGT, Int.reduceEq, Int.reduceLT, Int.reduceLE, Int.reduceToNat, Int.reduceAdd, Int.reduceSub, Int.reduceMul, Int.reduceNeg, Int.reduceBEq, Int.reduceBNe, nx_nil, Ins.c, nilp, c0, c1, c2, w, h5, l5, l1, ins_len, hri, hja, hoa, hb, hld, hX7, q1, q2, ht, htl, m3, m4, Int.toNat_natCast, Int.natCast_add, r0, s0, wz1, wz2, wz3]
end Go.Proofs.Ythkjiclplecljaa.Ver

/- The program's all: an instruction that only jumps, and one that ends. -/
namespace Go.Proofs.Ythkjiclplecljaa.Ver
open Go Go.Proofs.Ythkjiclplecljaa.Sym Go.Proofs.Ythkjiclplecljaa.Tab
set_option linter.unusedVariables false
set_option linter.unusedSimpArgs false
set_option maxHeartbeats 4000000
set_option maxRecDepth 20000
theorem all_to (k lf : Nat) (L : List Ins) (hL : L.length ≤ 200) (t : List (Option Ah)) (hA : AllIn t) (hlen : t.length = L.length + 1) (i : Nat) (hi : i < L.length) (hr : right L[i] = true) (a : Ah) (hx : t[i]? = some (some a)) (b : Ah) (hbi : b.In) (on : onI L[i] = false) (jm : jmp L[i] = true) (J : Nat) (hJ : L[i].at_ = J) (hj : i < J ∧ J ≤ L.length)
    (hb : acall T (k + 16) 49 0 [.agg a.c, .agg L[i].c] [] = some ⟨.tup [.agg b.c, .v (.int .i64 0)], [], 1⟩) (N : Nat) :
    ((lead1 t J b).2 = true → pfin k lf L t i (N + 1) = pfin k lf L (lead1 t J b).1 (i + 1) N) ∧
    ((lead1 t J b).2 = false → pfin k lf L t i (N + 1) = some ⟨.tup [.v (.slice none 0 0), .v (.int .i64 7), .v (.int .i64 i)], [], 1⟩) := by
  have c1 : (i : Int) < L.length := by omega
  have c0 : (0 : Int) ≤ i := by omega
  have c2 : (i : Int) < ((L.length + 1 : Nat) : Int) := by omega
  have d1 : ¬ (J : Int) ≤ i := by omega
  have d2 : ¬ (L.length : Int) < J := by omega
  have w : IntKind.i64.wrap ((i : Int) + 1) = i + 1 := w64 (by omega) (by omega)
  have h5 := ins_at L i hi
  have l5 : i * 5 + 5 ≤ L.length * 5 := by omega
  have hri := right_a (k + 11) L[i]
  rw [hr] at hri
  have hja := jumps_a (k + 15) L[i]
  rw [jm] at hja
  have hoa := on_a (k + 15) L[i]
  rw [on] at hoa
  have hri := flat_call hri
  have hja := flat_call hja
  have hoa := flat_call hoa
  have hs := som_le t
  have hs1 := som_le (lead1 t J b).1
  rw [lead1_len] at hs1
  obtain ⟨p, hp, ht, hso⟩ := tcl_some (List.range' 1 (som t).length) t i a (by simp) hx
  have htl := tcl_len (List.range' 1 (som t).length) t
  rw [hlen] at htl
  have l1 : i + 1 ≤ L.length + 1 := by omega
  have m3 := more_tab t
  have m4 := more_obj t (by omega) hp hso
  have hT := has_more2 t (by omega) ⟨true, true, true, L[i].c⟩ ⟨true, true, true, b.c⟩
  have hld := lead1_call (k + 2) hT J (by omega) (by omega) hA b hbi
  rw [hlen] at hld
  have hX := after_X t (lead1 t J b).1 (by omega) ⟨true, true, true, L[i].c⟩ ⟨true, true, true, b.c⟩
  have hT2 := after_has (t' := (lead1 t J b).1) hT (by omega) (by simp)
  have hX7 := hX.1
  have q1 := hT2.reach
  have q2 := hT2.sub true (fun _ => rfl)
  rw [Bool.and_true] at q2
  clear hx hp hso hT hT2 hX
  unfold pfin pst penv plive
  rw [lh_as l_verify_all_0.eq_1]
  generalize (lead1 t J b).1 = t' at *
  generalize (lead1 t J b).2 = r at *
  generalize L[i] = ins at *
  generalize hM : L.length + 1 = M at *
  generalize after (canT t true ++ [(⟨true, true, true, ins.c⟩ : Sym.Obj)] ++ [(⟨true, true, true, b.c⟩ : Sym.Obj)]) (List.range' 1 (som t).length) t' = X at *
  generalize canT t true = W at *
  generalize canT t' true = Y at *
  generalize tcl (List.range' 1 (som t).length) t = tc at *
  generalize List.range' _ (som t').length = ps' at *
  obtain ⟨ak, an, as1⟩ := a
  obtain ⟨bk, bn, bs⟩ := b
  simp only [Ins.c, hJ] at hri hja hoa hb hX7 hld
  refine ⟨fun hr => ?_, fun hr => ?_⟩
  · rw [hr] at hld
    cases an <;> cases bn <;> simp only [Ah.c, openA, Bool.false_eq_true, if_false, if_true, Int.natCast_add, Int.natCast_one] at hb m4 hld <;>
    simp -implicitDefEqProofs only [eqs, eqd, Sym.pos, ↓reduceIte, reduceCtorEq, Nat.reduceEqDiff, Nat.reduceAdd, Nat.reduceSub, Nat.reduceMul, Nat.reduceLT, Nat.reduceLeDiff, Nat.reduceBEq, Nat.reduceBNe, Nat.reduceGT, Int.reduceEq, Int.reduceLT, Int.reduceLE, Int.reduceToNat, Int.reduceAdd, Int.reduceSub, Int.reduceMul, Int.reduceNeg, Int.reduceBEq, Int.reduceBNe, nx_nil, Ins.c, hJ, d1, d2, nilp, c0, c1, c2, w, h5, l5, l1, ins_len, hri, hja, hoa, hb, hld, hX7, q1, q2, ht, htl, m3, m4, Int.toNat_natCast, Int.natCast_add, r0, s0, wz1, wz2, wz3]
  · rw [hr] at hld
    cases an <;> cases bn <;> simp only [Ah.c, openA, Bool.false_eq_true, if_false, if_true, Int.natCast_add, Int.natCast_one] at hb m4 hld <;>
    simp -implicitDefEqProofs only [eqs, eqd, Sym.pos, ↓reduceIte, reduceCtorEq, Nat.reduceEqDiff, Nat.reduceAdd, Nat.reduceSub, Nat.reduceMul, Nat.reduceLT, Nat.reduceLeDiff, Nat.reduceBEq, Nat.reduceBNe, Nat.reduceGT, Int.reduceEq, Int.reduceLT, Int.reduceLE, Int.reduceToNat, Int.reduceAdd, Int.reduceSub, Int.reduceMul, Int.reduceNeg, Int.reduceBEq, Int.reduceBNe, nx_nil, Ins.c, hJ, d1, d2, nilp, c0, c1, c2, w, h5, l5, l1, ins_len, hri, hja, hoa, hb, hld, hX7, q1, q2, ht, htl, m3, m4, Int.toNat_natCast, Int.natCast_add, r0, s0, wz1, wz2, wz3]
theorem all_end (k lf : Nat) (L : List Ins) (hL : L.length ≤ 200) (t : List (Option Ah)) (hA : AllIn t) (hlen : t.length = L.length + 1) (i : Nat) (hi : i < L.length) (hr : right L[i] = true) (a : Ah) (hx : t[i]? = some (some a)) (b : Ah) (hbi : b.In) (on : onI L[i] = false) (jm : jmp L[i] = false)
    (hb : acall T (k + 16) 49 0 [.agg a.c, .agg L[i].c] [] = some ⟨.tup [.agg b.c, .v (.int .i64 0)], [], 1⟩) (N : Nat) :
    pfin k lf L t i (N + 1) = pfin k lf L t (i + 1) N := by
  have c1 : (i : Int) < L.length := by omega
  have c0 : (0 : Int) ≤ i := by omega
  have c2 : (i : Int) < ((L.length + 1 : Nat) : Int) := by omega
  have w : IntKind.i64.wrap ((i : Int) + 1) = i + 1 := w64 (by omega) (by omega)
  have h5 := ins_at L i hi
  have l5 : i * 5 + 5 ≤ L.length * 5 := by omega
  have hri := right_a (k + 11) L[i]
  rw [hr] at hri
  have hja := jumps_a (k + 15) L[i]
  rw [jm] at hja
  have hoa := on_a (k + 15) L[i]
  rw [on] at hoa
  have hri := flat_call hri
  have hja := flat_call hja
  have hoa := flat_call hoa
  have hs := som_le t
  obtain ⟨p, hp, ht, hso⟩ := tcl_some (List.range' 1 (som t).length) t i a (by simp) hx
  have htl := tcl_len (List.range' 1 (som t).length) t
  rw [hlen] at htl
  have l1 : i + 1 ≤ L.length + 1 := by omega
  have m3 := more_tab t
  have m4 := more_obj t (by omega) hp hso
  have hT := has_more2 t (by omega) ⟨true, true, true, L[i].c⟩ ⟨true, true, true, b.c⟩
  have q1 := hT.reach
  have q2 := hT.sub true (fun _ => rfl)
  rw [Bool.and_true] at q2
  clear hx hp hso hT
  unfold pfin pst penv plive
  rw [lh_as l_verify_all_0.eq_1]
  generalize L[i] = ins at *
  generalize hM : L.length + 1 = M at *
  generalize canT t true = W at *
  generalize tcl (List.range' 1 (som t).length) t = tc at *
  obtain ⟨ak, an, as1⟩ := a
  obtain ⟨bk, bn, bs⟩ := b
  simp only [Ins.c] at hri hja hoa hb q1 q2
  cases an <;> cases bn <;> simp only [Ah.c, openA, Bool.false_eq_true, if_false, if_true] at hb m4 q1 q2 <;>
  simp -implicitDefEqProofs only [eqs, eqd, Sym.pos, ↓reduceIte, reduceCtorEq, Nat.reduceEqDiff, Nat.reduceAdd, Nat.reduceSub, Nat.reduceMul, Nat.reduceLT, Nat.reduceLeDiff, Nat.reduceBEq, Nat.reduceBNe, Nat.reduceGT, Int.reduceEq, Int.reduceLT, Int.reduceLE, Int.reduceToNat, Int.reduceAdd, Int.reduceSub, Int.reduceMul, Int.reduceNeg, Int.reduceBEq, Int.reduceBNe, nx_nil, Ins.c, nilp, c0, c1, c2, w, h5, l5, l1, ins_len, hri, hja, hoa, hb, q1, q2, ht, htl, m3, m4, Int.toNat_natCast, Int.natCast_add, r0, s0, wz1, wz2, wz3]
end Go.Proofs.Ythkjiclplecljaa.Ver

/- The program's all: an instruction that leads on and jumps. -/
namespace Go.Proofs.Ythkjiclplecljaa.Ver
open Go Go.Proofs.Ythkjiclplecljaa.Sym Go.Proofs.Ythkjiclplecljaa.Tab
set_option linter.unusedVariables false
set_option linter.unusedSimpArgs false
set_option maxHeartbeats 4000000
set_option maxRecDepth 20000
theorem all_both (k lf : Nat) (L : List Ins) (hL : L.length ≤ 200) (t : List (Option Ah)) (hA : AllIn t) (hlen : t.length = L.length + 1) (i : Nat) (hi : i < L.length) (hr : right L[i] = true) (a : Ah) (hx : t[i]? = some (some a)) (b : Ah) (hbi : b.In ∧ BrIn b.bs) (on : onI L[i] = true) (jm : jmp L[i] = true) (J : Nat) (hJ : L[i].at_ = J) (hj : i < J ∧ J ≤ L.length)
    (hb : acall T (k + 16) 49 0 [.agg a.c, .agg L[i].c] [] = some ⟨.tup [.agg b.c, .v (.int .i64 0)], [], 1⟩) (N : Nat) :
    ((lead1 t (i + 1) b).2 = true → (lead1 (lead1 t (i + 1) b).1 J b).2 = true → pfin k lf L t i (N + 1) = pfin k lf L (lead1 (lead1 t (i + 1) b).1 J b).1 (i + 1) N) ∧
    ((lead1 t (i + 1) b).2 = true → (lead1 (lead1 t (i + 1) b).1 J b).2 = false → pfin k lf L t i (N + 1) = some ⟨.tup [.v (.slice none 0 0), .v (.int .i64 7), .v (.int .i64 i)], [], 1⟩) ∧
    ((lead1 t (i + 1) b).2 = false → pfin k lf L t i (N + 1) = some ⟨.tup [.v (.slice none 0 0), .v (.int .i64 7), .v (.int .i64 i)], [], 1⟩) := by
  have c1 : (i : Int) < L.length := by omega
  have c0 : (0 : Int) ≤ i := by omega
  have c2 : (i : Int) < ((L.length + 1 : Nat) : Int) := by omega
  have d1 : ¬ (J : Int) ≤ i := by omega
  have d2 : ¬ (L.length : Int) < J := by omega
  have w : IntKind.i64.wrap ((i : Int) + 1) = i + 1 := w64 (by omega) (by omega)
  have h5 := ins_at L i hi
  have l5 : i * 5 + 5 ≤ L.length * 5 := by omega
  have hri := right_a (k + 11) L[i]
  rw [hr] at hri
  have hja := jumps_a (k + 15) L[i]
  rw [jm] at hja
  have hoa := on_a (k + 15) L[i]
  rw [on] at hoa
  have hri := flat_call hri
  have hja := flat_call hja
  have hoa := flat_call hoa
  have hs := som_le t
  have hs1 := som_le (lead1 t (i + 1) b).1
  rw [lead1_len] at hs1
  obtain ⟨p, hp, ht, hso⟩ := tcl_some (List.range' 1 (som t).length) t i a (by simp) hx
  have htl := tcl_len (List.range' 1 (som t).length) t
  rw [hlen] at htl
  have l1 : i + 1 ≤ L.length + 1 := by omega
  have m3 := more_tab t
  have m4 := more_obj t (by omega) hp hso
  have hT := has_more2 t (by omega) ⟨true, true, true, L[i].c⟩ ⟨true, true, true, b.c⟩
  have hld := lead1_call (k + 2) hT (i + 1) (by omega) (by omega) hA b hbi.1
  rw [hlen] at hld
  have hX := after_X t (lead1 t (i + 1) b).1 (by omega) ⟨true, true, true, L[i].c⟩ ⟨true, true, true, b.c⟩
  have hT2 := after_has (t' := (lead1 t (i + 1) b).1) hT (by omega) (by simp)
  have hX7 := hX.1
  have hX8 := hX.2
  have hl1 : (lead1 t (i + 1) b).1.length = L.length + 1 := by rw [lead1_len, hlen]
  have hs2 := som_le (lead1 (lead1 t (i + 1) b).1 J b).1
  rw [lead1_len, lead1_len] at hs2
  have hld2 := lead1_call (k + 2) hT2 J (by omega) (by omega) (hA.lead1 hbi) b hbi.1
  rw [hl1] at hld2
  have hT3 := after_has (t' := (lead1 (lead1 t (i + 1) b).1 J b).1) hT2 (by omega) (by rw [after_len]; simp; omega)
  have q1 := hT3.reach
  have q2 := hT3.sub true (fun _ => rfl)
  rw [Bool.and_true] at q2
  clear hx hp hso hT hT2 hT3 hX hl1
  unfold pfin pst penv plive
  rw [lh_as l_verify_all_0.eq_1]
  generalize (lead1 (lead1 t (i + 1) b).1 J b).1 = t2 at *
  generalize (lead1 (lead1 t (i + 1) b).1 J b).2 = r2 at *
  generalize (lead1 t (i + 1) b).1 = t' at *
  generalize (lead1 t (i + 1) b).2 = r at *
  generalize L[i] = ins at *
  generalize hM : L.length + 1 = M at *
  generalize after (canT t true ++ [(⟨true, true, true, ins.c⟩ : Sym.Obj)] ++ [(⟨true, true, true, b.c⟩ : Sym.Obj)]) (List.range' 1 (som t).length) t' = X at *
  generalize List.range' (canT t true ++ [(⟨true, true, true, ins.c⟩ : Sym.Obj)] ++ [(⟨true, true, true, b.c⟩ : Sym.Obj)]).length (som t').length = ps' at *
  generalize after X ps' t2 = X2 at *
  generalize canT t2 true = Y at *
  generalize List.range' X.length (som t2).length = ps2 at *
  generalize canT t true = W at *
  generalize tcl (List.range' 1 (som t).length) t = tc at *
  obtain ⟨ak, an, as1⟩ := a
  obtain ⟨bk, bn, bs⟩ := b
  simp only [Ins.c, hJ] at hri hja hoa hb hX7 hX8 hld
  refine ⟨fun hr hr2 => ?_, fun hr hr2 => ?_, fun hr => ?_⟩
  · rw [hr] at hld
    rw [hr2] at hld2
    cases an <;> cases bn <;> simp only [Ah.c, openA, Bool.false_eq_true, if_false, if_true, Int.natCast_add, Int.natCast_one] at hb m4 hld hld2 hX8 <;>
    simp -implicitDefEqProofs only [eqs, eqd, Sym.pos, ↓reduceIte, reduceCtorEq, Nat.reduceEqDiff, Nat.reduceAdd, Nat.reduceSub, Nat.reduceMul, Nat.reduceLT, Nat.reduceLeDiff, Nat.reduceBEq, Nat.reduceBNe, Nat.reduceGT, Int.reduceEq, Int.reduceLT, Int.reduceLE, Int.reduceToNat, Int.reduceAdd, Int.reduceSub, Int.reduceMul, Int.reduceNeg, Int.reduceBEq, Int.reduceBNe, nx_nil, Ins.c, hJ, d1, d2, nilp, c0, c1, c2, w, h5, l5, l1, ins_len, hri, hja, hoa, hb, hld, hld2, hX7, hX8, q1, q2, ht, htl, m3, m4, Int.toNat_natCast, Int.natCast_add, r0, s0, wz1, wz2, wz3]
  · rw [hr] at hld
    rw [hr2] at hld2
    cases an <;> cases bn <;> simp only [Ah.c, openA, Bool.false_eq_true, if_false, if_true, Int.natCast_add, Int.natCast_one] at hb m4 hld hld2 hX8 <;>
    simp -implicitDefEqProofs only [eqs, eqd, Sym.pos, ↓reduceIte, reduceCtorEq, Nat.reduceEqDiff, Nat.reduceAdd, Nat.reduceSub, Nat.reduceMul, Nat.reduceLT, Nat.reduceLeDiff, Nat.reduceBEq, Nat.reduceBNe, Nat.reduceGT, Int.reduceEq, Int.reduceLT, Int.reduceLE, Int.reduceToNat, Int.reduceAdd, Int.reduceSub, Int.reduceMul, Int.reduceNeg, Int.reduceBEq, Int.reduceBNe, nx_nil, Ins.c, hJ, d1, d2, nilp, c0, c1, c2, w, h5, l5, l1, ins_len, hri, hja, hoa, hb, hld, hld2, hX7, hX8, q1, q2, ht, htl, m3, m4, Int.toNat_natCast, Int.natCast_add, r0, s0, wz1, wz2, wz3]
  · rw [hr] at hld
    clear hld2 q1 q2
    cases an <;> cases bn <;> simp only [Ah.c, openA, Bool.false_eq_true, if_false, if_true, Int.natCast_add, Int.natCast_one] at hb m4 hld <;>
    simp -implicitDefEqProofs only [eqs, eqd, Sym.pos, ↓reduceIte, reduceCtorEq, Nat.reduceEqDiff, Nat.reduceAdd, Nat.reduceSub, Nat.reduceMul, Nat.reduceLT, Nat.reduceLeDiff, Nat.reduceBEq, Nat.reduceBNe, Nat.reduceGT, Int.reduceEq, Int.reduceLT, Int.reduceLE, Int.reduceToNat, Int.reduceAdd, Int.reduceSub, Int.reduceMul, Int.reduceNeg, Int.reduceBEq, Int.reduceBNe, nx_nil, Ins.c, hJ, d1, d2, nilp, c0, c1, c2, w, h5, l5, l1, ins_len, hri, hja, hoa, hb, hld, hX7, ht, htl, m3, m4, Int.toNat_natCast, Int.natCast_add, r0, s0, wz1, wz2, wz3]
end Go.Proofs.Ythkjiclplecljaa.Ver

/- The program's all: each round is a step. -/
namespace Go.Proofs.Ythkjiclplecljaa.Ver
open Go Go.Proofs.Ythkjiclplecljaa.Sym Go.Proofs.Ythkjiclplecljaa.Tab
set_option linter.unusedVariables false
set_option linter.unusedSimpArgs false
set_option maxHeartbeats 4000000
theorem all_step (k lf : Nat) (L : List Ins) (hL : L.length ≤ 200) (t : List (Option Ah)) (ht : AllIn t) (hlen : t.length = L.length + 1) (i : Nat) (hi : i < L.length) (hin : L[i].In) (N : Nat) :
    ((stp L.length i t L[i]).1 = 0 → pfin k lf L t i (N + 1) = pfin k lf L (stp L.length i t L[i]).2 (i + 1) N ∧ AllIn (stp L.length i t L[i]).2 ∧ (stp L.length i t L[i]).2.length = L.length + 1) ∧
    ((stp L.length i t L[i]).1 ≠ 0 → pfin k lf L t i (N + 1) = some ⟨.tup [.v (.slice none 0 0), .v (.int .i64 (stp L.length i t L[i]).1), .v (.int .i64 i)], [], 1⟩) := by
  unfold stp
  by_cases hr : right L[i] = false
  · rw [if_pos hr]
    exact ⟨fun h => absurd h (by simp), fun _ => all_bad k lf L hL t hlen i hi hin hr (N + 1)⟩
  rw [if_neg hr]
  have hr : right L[i] = true := by simpa using hr
  have hop := right_op hr
  have hx : t[i]? = some t[i] := List.getElem?_eq_getElem (by omega)
  rw [hx]
  generalize hxx : t[i] = x at hx
  cases x with
  | none => exact ⟨fun _ => ⟨congrArg _ (all_skip k lf L hL t hlen i hi hin hr hx N _), ht, hlen⟩, fun h => absurd rfl h⟩
  | some a =>
    have ha := ht i a hx
    simp only
    by_cases hj : jmp L[i] = true ∧ ¬ ((i : Int) < L[i].at_ ∧ L[i].at_ ≤ L.length)
    · rw [if_pos hj]
      have hjo : 25 ≤ L[i].op ∧ L[i].op ≤ 27 := by have := hj.1; unfold jmp at this; simpa using this
      exact ⟨fun h => absurd h (by simp), fun _ => all_jump k lf L hL t hlen i hi hr a hx hj.1 hj.2 (N + 1)⟩
    rw [if_neg hj]
    have hj' : 25 ≤ L[i].op ∧ L[i].op ≤ 27 → (i : Int) < L[i].at_ ∧ L[i].at_ ≤ L.length := fun h => by
      refine Classical.byContradiction fun hc => hj ⟨?_, hc⟩
      unfold jmp
      simp [h.1, h.2]
    have hok : okJ L.length i L[i] := fun h => hj' (by unfold jmp at h; simpa using h)
    have hb := beh_a (k + 11) a L[i] ha.1 hop
    by_cases he : (beh a L[i]).2 ≠ 0
    · rw [if_pos he]
      exact ⟨fun h => absurd h he, fun _ => all_err k lf L hL t hlen i hi hr a hx hok _ _ he hb (N + 1)⟩
    rw [if_neg he]
    have he : (beh a L[i]).2 = 0 := by simpa using he
    have hbin := beh_in ha L[i] he
    rw [he] at hb
    generalize (beh a L[i]).1 = b at *
    unfold lead2
    have fin : ∀ {r : List (Option Ah) × Bool}, (r.2 = true → pfin k lf L t i (N + 1) = pfin k lf L r.1 (i + 1) N ∧ AllIn r.1 ∧ r.1.length = L.length + 1) → (r.2 = false → pfin k lf L t i (N + 1) = some ⟨.tup [.v (.slice none 0 0), .v (.int .i64 7), .v (.int .i64 i)], [], 1⟩) →
        ((if r.2 = true then ((0 : Int), r.1) else (7, t)).1 = 0 → pfin k lf L t i (N + 1) = pfin k lf L (if r.2 = true then ((0 : Int), r.1) else (7, t)).2 (i + 1) N ∧ AllIn (if r.2 = true then ((0 : Int), r.1) else (7, t)).2 ∧ (if r.2 = true then ((0 : Int), r.1) else (7, t)).2.length = L.length + 1) ∧
        ((if r.2 = true then ((0 : Int), r.1) else (7, t)).1 ≠ 0 → pfin k lf L t i (N + 1) = some ⟨.tup [.v (.slice none 0 0), .v (.int .i64 (if r.2 = true then ((0 : Int), r.1) else (7, t)).1), .v (.int .i64 i)], [], 1⟩) := fun {r} h1 h2 => by
      obtain ⟨r1, r2⟩ := r
      cases r2
      · exact ⟨fun h => absurd h (by simp), fun _ => h2 rfl⟩
      · exact ⟨fun _ => h1 rfl, fun h => absurd rfl h⟩
    by_cases o25 : L[i].op = 25
    · have on : onI L[i] = false := by unfold onI; rw [o25]; rfl
      have jm : jmp L[i] = true := by unfold jmp; rw [o25]; rfl
      obtain ⟨j1, j2⟩ := hj' (by omega)
      obtain ⟨J, hJ⟩ : ∃ J : Nat, L[i].at_ = J := ⟨L[i].at_.toNat, by omega⟩
      obtain ⟨key, key2⟩ := all_to k lf L hL t ht hlen i hi hr a hx b hbin.1 on jm J hJ (by omega) hb N
      simp only [on, jm, hJ, Bool.false_eq_true, if_false, if_true, and_self, Int.toNat_natCast]
      exact fin (fun h => ⟨key h, ht.lead1 hbin, by rw [lead1_len, hlen]⟩) key2
    by_cases o28 : L[i].op = 28
    · have on : onI L[i] = false := by unfold onI; rw [o28]; rfl
      have jm : jmp L[i] = false := by unfold jmp; rw [o28]; rfl
      simp only [on, jm, Bool.false_eq_true, if_false, and_false]
      exact fin (r := (t, true)) (fun _ => ⟨all_end k lf L hL t ht hlen i hi hr a hx b hbin.1 on jm hb N, ht, hlen⟩) (fun h => by cases h)
    have on : onI L[i] = true := by unfold onI; simp [o25, o28]
    by_cases o67 : L[i].op = 26 ∨ L[i].op = 27
    · have jm : jmp L[i] = true := by unfold jmp; rcases o67 with h | h <;> rw [h] <;> rfl
      obtain ⟨j1, j2⟩ := hj' (by omega)
      obtain ⟨J, hJ⟩ : ∃ J : Nat, L[i].at_ = J := ⟨L[i].at_.toNat, by omega⟩
      obtain ⟨key, key21, key22⟩ := all_both k lf L hL t ht hlen i hi hr a hx b hbin on jm J hJ (by omega) hb N
      simp only [on, jm, hJ, if_true, and_true, Int.toNat_natCast]
      by_cases q : (lead1 t (i + 1) b).2 = true
      · simp only [q, if_true]
        exact fin (fun h => ⟨key q h, (ht.lead1 hbin).lead1 hbin, by rw [lead1_len, lead1_len, hlen]⟩) (fun h => key21 q h)
      · have q' : (lead1 t (i + 1) b).2 = false := by simpa using q
        rw [if_neg q]
        exact fin (fun h => absurd h q) (fun _ => key22 q')
    · have jm : jmp L[i] = false := by
        unfold jmp
        cases h1 : decide (25 ≤ L[i].op)
        · rfl
        · have : ¬ L[i].op ≤ 27 := by have := of_decide_eq_true h1; omega
          simp [this]
      obtain ⟨key, key2⟩ := all_on k lf L hL t ht hlen i hi hr a hx b hbin.1 on jm hb N
      simp only [on, jm, Bool.false_eq_true, if_true, if_false, and_false]
      exact fin (fun h => ⟨key h, ht.lead1 hbin, by rw [lead1_len, hlen]⟩) key2
end Go.Proofs.Ythkjiclplecljaa.Ver

/- The program's all. -/
namespace Go.Proofs.Ythkjiclplecljaa.Ver
open Go Go.Proofs.Ythkjiclplecljaa.Sym Go.Proofs.Ythkjiclplecljaa.Tab
set_option linter.unusedVariables false
set_option linter.unusedSimpArgs false
set_option maxHeartbeats 4000000
set_option maxRecDepth 20000
def pres (n : Nat) (r : Int × Int × List (Option Ah)) : Res := if r.1 = 0 then ⟨.tup [.view 0 0 (n + 1) 1 (some (n + 1)), .v (.int .i64 0), .v (.int .i64 0)], canT r.2.2 true, 1⟩ else ⟨.tup [.v (.slice none 0 0), .v (.int .i64 r.1), .v (.int .i64 r.2.1)], [], 1⟩
theorem all_fin (k lf : Nat) (L : List Ins) (hL : L.length ≤ 200) (t : List (Option Ah)) (hA : AllIn t) (hlen : t.length = L.length + 1) (N : Nat) : pfin k lf L t L.length N = some (pres L.length ((endE L.length t).1, (endE L.length t).2, t)) := by
  have c1 : ¬ (L.length : Int) < L.length := by omega
  have c0 : (0 : Int) ≤ L.length := by omega
  have c2 : (L.length : Int) < ((L.length + 1 : Nat) : Int) := by omega
  have hx : t[L.length]? = some t[L.length] := List.getElem?_eq_getElem (by omega)
  have hs := som_le t
  have htl := tcl_len (List.range' 1 (som t).length) t
  rw [hlen] at htl
  have m1 := more_reach t (by omega) []
  have m2 := more_sub t (by omega) []
  have m3 := more_tab t []
  rw [List.append_nil] at m1 m2 m3
  have l1 : L.length + 1 ≤ L.length + 1 := Nat.le_refl _
  unfold pfin pst penv plive endE
  rw [hx, lh_as l_verify_all_0.eq_1]
  generalize t[L.length] = x at *
  cases x with
  | none =>
    have ht := tcl_none (List.range' 1 (som t).length) t _ hx
    unfold pres
    simp only [if_true]
    generalize hM : L.length + 1 = M at *
    generalize canT t true = W at *
    generalize tcl (List.range' 1 (som t).length) t = tc at *
    generalize List.range' 1 (som t).length = ps at *
    simp -implicitDefEqProofs only [eqs, eqd, aCall, Sym.pos, ↓reduceIte, reduceCtorEq, Nat.reduceEqDiff, Nat.reduceAdd, Nat.reduceSub, Nat.reduceMul, Nat.reduceLT, Nat.reduceLeDiff, Nat.reduceBEq, Nat.reduceBNe, Nat.reduceGT, Int.reduceEq, Int.reduceLT, Int.reduceLE, Int.reduceToNat, Int.reduceAdd, Int.reduceSub, Int.reduceMul, Int.reduceNeg, Int.reduceBEq, Int.reduceBNe, l_verify_all_1, nilp, c0, c1, c2, l1, ht, htl, m1, m2, m3, Int.toNat_natCast, r0, s0]
  | some a =>
    obtain ⟨p, hp, ht, hso⟩ := tcl_some (List.range' 1 (som t).length) t _ a (by simp) hx
    have m4 := more_obj t (by omega) hp hso []
    rw [List.append_nil] at m4
    have hn := (hA _ a hx).1.nil
    clear hp hso
    obtain ⟨ak, an, bs⟩ := a
    simp only at hn
    by_cases c : bs = []
    · subst c
      unfold pres
      simp only [if_true]
      generalize hM : L.length + 1 = M at *
      generalize canT t true = W at *
      generalize tcl (List.range' 1 (som t).length) t = tc at *
      generalize List.range' 1 (som t).length = ps at *
      cases an <;> simp only [Ah.c, openA, Bool.false_eq_true, if_false, if_true] at m4 <;>
      simp -implicitDefEqProofs only [eqs, eqd, aCall, Sym.pos, ↓reduceIte, reduceCtorEq, Nat.reduceEqDiff, Nat.reduceAdd, Nat.reduceSub, Nat.reduceMul, Nat.reduceLT, Nat.reduceLeDiff, Nat.reduceBEq, Nat.reduceBNe, Nat.reduceGT, Int.reduceEq, Int.reduceLT, Int.reduceLE, Int.reduceToNat, Int.reduceAdd, Int.reduceSub, Int.reduceMul, Int.reduceNeg, Int.reduceBEq, Int.reduceBNe, l_verify_all_1, nilp, c0, c1, c2, l1, ht, htl, m1, m2, m3, m4, Int.toNat_natCast, r0, s0]
    · have h0 : (0 : Int) < bs.length := by have := List.length_pos_iff.2 c; omega
      have an0 : an = false := by cases an; rfl; exact absurd (hn rfl) c
      subst an0
      simp only [c, if_false]
      unfold pres
      rw [if_neg (by simp)]
      generalize hM : L.length + 1 = M at *
      generalize canT t true = W at *
      generalize tcl (List.range' 1 (som t).length) t = tc at *
      generalize List.range' 1 (som t).length = ps at *
      simp only [Ah.c, openA, Bool.false_eq_true, if_false, if_true] at m4
      simp -implicitDefEqProofs only [eqs, eqd, aCall, Sym.pos, ↓reduceIte, reduceCtorEq, Nat.reduceEqDiff, Nat.reduceAdd, Nat.reduceSub, Nat.reduceMul, Nat.reduceLT, Nat.reduceLeDiff, Nat.reduceBEq, Nat.reduceBNe, Nat.reduceGT, Int.reduceEq, Int.reduceLT, Int.reduceLE, Int.reduceToNat, Int.reduceAdd, Int.reduceSub, Int.reduceMul, Int.reduceNeg, Int.reduceBEq, Int.reduceBNe, l_verify_all_1, nilp, c0, c1, c2, l1, ht, htl, h0, m3, m4, Int.toNat_natCast, r0, s0]
theorem all_run (k lf : Nat) (L : List Ins) (hL : L.length ≤ 200) (hin : ∀ (i : Nat) (h : i < L.length), L[i].In) : ∀ (m i N : Nat) (t : List (Option Ah)), i + m = L.length → m ≤ N → AllIn t → t.length = L.length + 1 → pfin k lf L t i N = some (pres L.length (run L m i t))
  | 0, i, N, t, hi, hN, ht, hlen => by
    obtain rfl : i = L.length := by omega
    exact all_fin k lf L hL t ht hlen N
  | m + 1, i, N, t, hi, hN, ht, hlen => by
    obtain ⟨N, rfl⟩ : ∃ M, N = M + 1 := ⟨N - 1, by omega⟩
    have h : i < L.length := by omega
    obtain ⟨h1, h2⟩ := all_step k lf L hL t ht hlen i h (hin i h) N
    rw [run, dif_pos h]
    by_cases c : (stp L.length i t L[i]).1 = 0
    · rw [if_pos c]
      obtain ⟨e, a1, a2⟩ := h1 c
      rw [e]
      exact all_run k lf L hL hin m (i + 1) N _ (by omega) (by omega) a1 a2
    · rw [if_neg c, h2 c]
      unfold pres
      rw [if_neg c]
end Go.Proofs.Ythkjiclplecljaa.Ver

/- The program's all, from its beginning. -/
namespace Go.Proofs.Ythkjiclplecljaa.Ver
open Go Go.Proofs.Ythkjiclplecljaa.Sym Go.Proofs.Ythkjiclplecljaa.Tab
set_option linter.unusedVariables false
set_option linter.unusedSimpArgs false
set_option maxHeartbeats 4000000
set_option maxRecDepth 20000
theorem all_long (k : Nat) (L : List Ins) (hL : 200 < L.length) : acall T (k + 17) 31 0 [.shr L.length false (L.flatMap Ins.c)] [] = some ⟨.tup [.v (.slice none 0 0), .v (.int .i64 2), .v (.int .i64 200)], [], 0⟩ := by
  rw [acall_go (body := b_verify_all) rfl rfl (Nat.zero_le _)]
  have c : (200 : Int) < L.length := by omega
  simp -implicitDefEqProofs only [eqs, eqd, eqe, ↓reduceIte, reduceCtorEq, Nat.reduceEqDiff, Nat.reduceAdd, Nat.reduceSub, Nat.reduceMul, Nat.reduceLT, Nat.reduceLeDiff, Nat.reduceBEq, Nat.reduceBNe, Nat.reduceGT, Int.reduceEq, Int.reduceLT, Int.reduceLE, Int.reduceToNat, Int.reduceAdd, Int.reduceSub, Int.reduceMul, Int.reduceNeg, Int.reduceBEq, Int.reduceBNe, b_verify_all, c]
theorem tcl_rep : ∀ (n : Nat) (ps : List Nat), tcl ps (List.replicate n none) = List.replicate n nilp
  | 0, ps => by rw [List.replicate_zero, tcl, List.replicate_zero]
  | n + 1, ps => by rw [List.replicate_succ, tcl, tcl_rep n ps, List.replicate_succ]
theorem som_00 (n : Nat) : som (t00 n) = [⟨0, true, []⟩] := by
  unfold t00 som
  rw [List.filterMap_cons]
  simp
theorem canT_00 (n : Nat) : canT (t00 n) true = [⟨true, true, false, (List.replicate (n + 1) nilp).set 0 (.ptr 1 0)⟩, ⟨true, true, true, [.v (.int .i64 0), .v (.slice none 0 0)]⟩] := by
  unfold canT
  rw [som_00]
  have : tcl [1] (t00 n) = (List.replicate (n + 1) nilp).set 0 (.ptr 1 0) := by
    unfold t00
    rw [tcl, tcl_rep, List.replicate_succ]
    rfl
  show (⟨true, true, false, tcl [1] (t00 n)⟩ : Sym.Obj) :: _ = _
  rw [this]
  rfl
theorem all_a (k : Nat) (hk : 200 ≤ k) (L : List Ins) (hL : L.length ≤ 200) (hin : ∀ (i : Nat) (h : i < L.length), L[i].In) : acall T (k + 17) 31 0 [.shr L.length false (L.flatMap Ins.c)] [] = some (pres L.length (run L L.length 0 (t00 L.length))) := by
  rw [acall_go (body := b_verify_all) rfl rfl (Nat.zero_le _)]
  have c : ¬ (200 : Int) < L.length := by omega
  have w : IntKind.i64.wrap ((L.length : Int) + 1) = ((L.length + 1 : Nat) : Int) := by rw [w64 (by omega) (by omega)]; omega
  have h := all_run k (k + 16) L hL hin L.length 0 (k + 15) (t00 L.length) (by omega) (by omega) (t00_in _) (t00_len _)
  have lp : ∀ (ks : List It) (s : St), Lp (acall T (k + 16)) (k + 16) [0, 5, 22, 23, 24] l_verify_all_0 (k + 16) ks s = Lh (acall T (k + 16)) (k + 16) (canon [0, 5, 22, 23, 24] s) [0, 5, 22, 23, 24] l_verify_all_0 (k + 15) ks := fun ks s => lp_succ (n := k + 15)
  have n1 : (0 : Int) ≤ ((L.length + 1 : Nat) : Int) := by omega
  have n2 : ((L.length + 1 : Nat) : Int) ≤ ((L.length + 1 : Nat) : Int) := Int.le_refl _
  have n3 : (L.length + 1) * 8 ≤ 140737488355328 := by omega
  have n4 : L.length + 1 ≤ 9223372036854775807 := by omega
  have n5 : (0 : Int) < ((L.length + 1 : Nat) : Int) := by omega
  have n6 : 1 ≤ L.length + 1 := by omega
  have hT := canT_has (t00 L.length) true (by rw [som_00]; decide)
  have q1 := hT.reach
  have q2 := hT.sub true (fun _ => rfl)
  rw [Bool.and_true] at q2
  rw [som_00] at q1 q2
  rw [canT_00] at q1 q2
  rw [← h]
  unfold pfin pst penv plive
  rw [canT_00]
  clear h hT
  simp only [List.length_singleton, List.range'_one, nilp] at q1 q2
  generalize hM : L.length + 1 = M at *
  simp -implicitDefEqProofs only [eqs, eqd, aCall, Sym.pos, ↓reduceIte, reduceCtorEq, Nat.reduceEqDiff, Nat.reduceAdd, Nat.reduceSub, Nat.reduceMul, Nat.reduceLT, Nat.reduceLeDiff, Nat.reduceBEq, Nat.reduceBNe, Nat.reduceGT, Int.reduceEq, Int.reduceLT, Int.reduceLE, Int.reduceToNat, Int.reduceAdd, Int.reduceSub, Int.reduceMul, Int.reduceNeg, Int.reduceBEq, Int.reduceBNe, b_verify_all, c, w, r0, s0, q1, q2, n1, n2, n3, n4, n5, n6, nilp, lp, Int.toNat_natCast, Int.natCast_zero, List.length_replicate]
end Go.Proofs.Ythkjiclplecljaa.Ver

/- Check, the program's. -/
namespace Go.Proofs.Ythkjiclplecljaa.Ver
open Go Go.Proofs.Ythkjiclplecljaa.Sym Go.Proofs.Ythkjiclplecljaa.Tab
set_option linter.unusedVariables false
set_option linter.unusedSimpArgs false
set_option maxHeartbeats 4000000
set_option maxRecDepth 20000
theorem check_err (k : Nat) (y : AV) (e p : Int) (d : Nat) (hd : d ≤ 1) (x : AV) (hx : ∃ n cs, x = .shr n false cs ∧ cs.all atom = true ∧ cs.all flat0 = true) (h : acall T (k + 17) 31 0 [x] [] = some ⟨.tup [.v (.slice none 0 0), .v (.int .i64 e), .v (.int .i64 p)], [], d⟩) :
    ∃ d', acall T (k + 18) 21 0 [x] [] = some ⟨.tup [.v (.int .i64 e), .v (.int .i64 p)], [], d'⟩ ∧ d' ≤ 1 := by
  obtain ⟨n, cs, rfl, h1, h2⟩ := hx
  refine ⟨d, ?_, hd⟩
  rw [acall_go (body := b_verify_Check) rfl rfl (Nat.zero_le _)]
  have hdd : d = 0 ∨ d = 1 := by omega
  rcases hdd with rfl | rfl <;> simp -implicitDefEqProofs only [eqs, eqd, aCall, Sym.reach, Sym.pos, ↓reduceIte, reduceCtorEq, Nat.reduceEqDiff, Nat.reduceAdd, Nat.reduceSub, Nat.reduceMul, Nat.reduceLT, Nat.reduceLeDiff, Nat.reduceBEq, Nat.reduceBNe, Nat.reduceGT, Int.reduceEq, Int.reduceLT, Int.reduceLE, Int.reduceToNat, Int.reduceAdd, Int.reduceSub, Int.reduceMul, Int.reduceNeg, Int.reduceBEq, Int.reduceBNe, b_verify_Check, h, r0, s0]
theorem check_ok (k : Nat) (n M : Nat) (cs : List AV) (W : List Sym.Obj) (h : acall T (k + 17) 31 0 [.shr n false cs] [] = some ⟨.tup [.view 0 0 M 1 (some M), .v (.int .i64 0), .v (.int .i64 0)], W, 1⟩) :
    acall T (k + 18) 21 0 [.shr n false cs] [] = some ⟨.tup [.v (.int .i64 0), .v (.int .i64 0)], [], 1⟩ := by
  rw [acall_go (body := b_verify_Check) rfl rfl (Nat.zero_le _)]
  simp -implicitDefEqProofs only [eqs, eqd, aCall, Sym.pos, ↓reduceIte, reduceCtorEq, Nat.reduceEqDiff, Nat.reduceAdd, Nat.reduceSub, Nat.reduceMul, Nat.reduceLT, Nat.reduceLeDiff, Nat.reduceBEq, Nat.reduceBNe, Nat.reduceGT, Int.reduceEq, Int.reduceLT, Int.reduceLE, Int.reduceToNat, Int.reduceAdd, Int.reduceSub, Int.reduceMul, Int.reduceNeg, Int.reduceBEq, Int.reduceBNe, b_verify_Check, h, r0, s0]
end Go.Proofs.Ythkjiclplecljaa.Ver

/- The law's first lines. -/
namespace Go.Proofs.Ythkjiclplecljaa.Vm
open Go Go.Proofs.Ythkjiclplecljaa.Sym Go.Proofs.Ythkjiclplecljaa.Tab
set_option maxHeartbeats 4000000
set_option maxRecDepth 100000
theorem awake_a : acall T 299 8 0 [] [] = some ⟨.v (.bool true), [], 1⟩ := by kernel_rfl
end Go.Proofs.Ythkjiclplecljaa.Vm

/- What the laws are given. Written by a program for this claim. -/
namespace Go.Proofs.Ythkjiclplecljaa.Args
open Go Go.Proofs.Ythkjiclplecljaa.Sym
set_option linter.unusedVariables false
/-- api.Instr = fugleman/api.Instr -/
structure S48 where
  f0 : Int
  f1 : Int
  f2 : Int
  f3 : Int
  f4 : Int
def S48.av (v : S48) : List AV := [.v (.int .i64 v.f0), .v (.int .i64 v.f1), .v (.int .i64 v.f2), .v (.int .i64 v.f3), .v (.int .i64 v.f4)]
structure S48.In (v : S48) : Prop where
  f0 : (-9223372036854775808 ≤ v.f0 ∧ v.f0 ≤ 9223372036854775807)
  f1 : (-9223372036854775808 ≤ v.f1 ∧ v.f1 ≤ 9223372036854775807)
  f2 : (-9223372036854775808 ≤ v.f2 ∧ v.f2 ≤ 9223372036854775807)
  f3 : (-9223372036854775808 ≤ v.f3 ∧ v.f3 ≤ 9223372036854775807)
  f4 : (-9223372036854775808 ≤ v.f4 ∧ v.f4 ≤ 9223372036854775807)
theorem rd48 : Rd Try.prog 48 5 S48.av S48.In := rd_struct (rdF_cons 3 0 (rd_imp (rd_int Try.underlying3) fun v h => rng_i64 h) (by kernel_rfl) (rdF_cons 3 1 (rd_imp (rd_int Try.underlying3) fun v h => rng_i64 h) (by kernel_rfl) (rdF_cons 3 2 (rd_imp (rd_int Try.underlying3) fun v h => rng_i64 h) (by kernel_rfl) (rdF_cons 3 3 (rd_imp (rd_int Try.underlying3) fun v h => rng_i64 h) (by kernel_rfl) (rdF_one 2 4 (rd_imp (rd_int Try.underlying2) fun v h => rng_i64 h) (by kernel_rfl)))))) Try.underlying48 rfl (fun v => ⟨v.1, v.2.1, v.2.2.1, v.2.2.2.1, v.2.2.2.2⟩) (fun _ => rfl) (fun _ => rfl) (fun v h => ⟨h.1, h.2.1, h.2.2.1, h.2.2.2.1, h.2.2.2.2⟩) (by kernel_rfl)
/-- api.Image = fugleman/api.Image -/
structure S24 where
  f0 : ByteArray
  f1 : ByteArray
  f2 : ByteArray
  f3 : ByteArray
def S24.av (v : S24) : List AV := [.v (.string v.f0), .v (.string v.f1), .v (.string v.f2), .v (.string v.f3)]
structure S24.In (v : S24) : Prop where
  f0 : v.f0.size ≤ 140737488351232
  f1 : v.f1.size ≤ 140737488351232
  f2 : v.f2.size ≤ 140737488351232
  f3 : v.f3.size ≤ 140737488351232
theorem rVmLoads0 : Rd Try.prog 22 1 (fun x : List (S48) => [.shr x.length false (x.flatMap S48.av)]) (fun v : List (S48) => (v.length ≤ 140737488351232 ∧ ∀ (i0 : Nat) x0, v[i0]? = some x0 → S48.In x0)) := (rd_slice Try.underlying22 rd48 (by kernel_rfl) (by kernel_rfl))
end Go.Proofs.Ythkjiclplecljaa.Args

/- Programs that are loaded. -/
namespace Go.Proofs.Ythkjiclplecljaa.Vm
open Go Go.Proofs.Ythkjiclplecljaa.Sym Go.Proofs.Ythkjiclplecljaa.Tab Go.Proofs.Ythkjiclplecljaa.Ver Go.Proofs.Ythkjiclplecljaa.Args
set_option linter.unusedVariables false
set_option linter.unusedSimpArgs false
set_option maxHeartbeats 4000000
set_option maxRecDepth 20000
theorem cl_ok (L : List Ins) : ∃ n cs, AV.shr L.length false (L.flatMap Ins.c) = .shr n false cs ∧ cs.all atom = true ∧ cs.all flat0 = true := by
  refine ⟨_, _, rfl, ?_, ?_⟩
  · induction L with
    | nil => rfl
    | cons x L ih => rw [List.flatMap_cons, List.all_append, ih]; rfl
  · induction L with
    | nil => rfl
    | cons x L ih => rw [List.flatMap_cons, List.all_append, ih]; rfl
theorem cl_atom (L : List Ins) : (L.flatMap Ins.c).all atom = true := by
  obtain ⟨n, cs, h, h1, h2⟩ := cl_ok L
  cases h
  exact h1
theorem cl_flat (L : List Ins) : (L.flatMap Ins.c).all flat0 = true := by
  obtain ⟨n, cs, h, h1, h2⟩ := cl_ok L
  cases h
  exact h2
/-- What may run: the first error, and where. -/
def chk (L : List Ins) : Int × Int := if 200 < L.length then (2, 200) else if (run L L.length 0 (t00 L.length)).1 = 0 then (0, 0) else ((run L L.length 0 (t00 L.length)).1, (run L L.length 0 (t00 L.length)).2.1)
theorem chk_a (k : Nat) (hk : 200 ≤ k) (L : List Ins) (hin : ∀ (i : Nat) (h : i < L.length), L[i].In) : ∃ d, (d = 0 ∨ d = 1) ∧ acall T (k + 18) 21 0 [.shr L.length false (L.flatMap Ins.c)] [] = some ⟨.tup [.v (.int .i64 (chk L).1), .v (.int .i64 (chk L).2)], [], d⟩ := by
  unfold chk
  by_cases c2 : 200 < L.length
  · rw [if_pos c2]
    obtain ⟨d, h1, h2⟩ := check_err k (.v (.int .i64 0)) 2 200 0 (by omega) _ (cl_ok L) (all_long k L c2)
    exact ⟨d, by omega, h1⟩
  · rw [if_neg c2]
    have h1 := all_a k hk L (by omega) hin
    generalize run L L.length 0 (t00 L.length) = r at *
    obtain ⟨e, p, t⟩ := r
    unfold pres at h1
    simp only at h1 ⊢
    by_cases he : e = 0
    · rw [if_pos he] at h1 ⊢
      exact ⟨1, Or.inr rfl, check_ok k _ _ _ _ h1⟩
    · rw [if_neg he] at h1 ⊢
      obtain ⟨d, g1, g2⟩ := check_err k (.v (.int .i64 0)) e p 1 (by omega) _ (cl_ok L) h1
      exact ⟨d, by omega, g1⟩
theorem rchk_a (k : Nat) (hk : 200 ≤ k) (L : List Ins) (hin : ∀ (i : Nat) (h : i < L.length), L[i].In) :
    ((chk L).1 ≠ 0 ∧ ∃ d, (d = 0 ∨ d = 1) ∧ acall T (k + 13) 18 0 [.shr L.length false (L.flatMap Ins.c)] [] = some ⟨.tup [.v (.slice none 0 0), .v (.int .i64 (chk L).1), .v (.int .i64 (chk L).2)], [], d⟩)
    ∨ ((chk L).1 = 0 ∧ (chk L).2 = 0 ∧ ∃ n cs, cs.all flat0 = true ∧ acall T (k + 13) 18 0 [.shr L.length false (L.flatMap Ins.c)] [] = some ⟨.tup [.view 0 0 n 3 (some n), .v (.int .i64 0), .v (.int .i64 0)], [⟨true, true, true, cs⟩], 1⟩) := by
  unfold chk
  by_cases c2 : 200 < L.length
  · rw [if_pos c2]
    refine Or.inl ⟨by decide, 0, Or.inl rfl, rall_long k L c2⟩
  · rw [if_neg c2]
    have h1 := rall_a k hk L (by omega) hin
    generalize run L L.length 0 (t00 L.length) = r at *
    obtain ⟨e, p, t⟩ := r
    unfold rres at h1
    simp only at h1 ⊢
    by_cases he : e = 0
    · rw [if_pos he] at h1 ⊢
      exact Or.inr ⟨rfl, rfl, _, _, rr_flat t, h1⟩
    · rw [if_neg he] at h1 ⊢
      exact Or.inl ⟨he, 1, Or.inr rfl, h1⟩
theorem clone_a (k : Nat) (L : List Ins) (hL : L.length ≤ 300) : acall T (k + 1) 22 0 [.shr L.length false (L.flatMap Ins.c)] [] = some ⟨.shr L.length false (L.flatMap Ins.c), [], 1⟩ := by
  show Ext.ext 22 0 [.shr L.length false (L.flatMap Ins.c)] [] = _
  cases L with
  | nil => rfl
  | cons x M =>
    have e : Ext.ext 22 0 [.shr (x :: M).length false ((x :: M).flatMap Ins.c)] [] = acall Ext.T0 3 22 0 [.shr (x :: M).length false ((x :: M).flatMap Ins.c)] [] := rfl
    rw [e, acall_go (T := Ext.T0) (body := Ext.b_cl) rfl rfl (Nat.zero_le _)]
    have a1 := cl_atom (x :: M)
    have a2 := cl_flat (x :: M)
    have hl := ins_len (x :: M)
    have hn : (x :: M).length = M.length + 1 := rfl
    have m1 : M.length + 1 ≤ 9223372036854775807 := by simp at hL; omega
    have m2 : (M.length + 1) * 40 ≤ 140737488355328 := by simp at hL; omega
    have m3 : ¬ (M.length + 1 = 0) := by omega
    have m4 : ¬ (M.length + 1 ≤ 0) := by omega
    have t1 : ((x :: M).flatMap Ins.c).take ((M.length + 1) * 5) = (x :: M).flatMap Ins.c := List.take_of_length_le (by rw [hl, hn]; exact Nat.le_refl _)
    rw [hn] at hl ⊢
    have hq : aEqS (.shr (M.length + 1) false ((x :: M).flatMap Ins.c)) (.v (.slice none 0 0)) = some false := rfl
    generalize (x :: M).flatMap Ins.c = cs at *
    generalize M.length = q at *
    have m5 : q ≤ 9223372036854775806 := by omega
    simp -implicitDefEqProofs only [eqs, eqd, eqe, lh_some, ↓reduceIte, reduceCtorEq, Nat.reduceEqDiff, Nat.reduceAdd, Nat.reduceSub, Nat.reduceMul, Nat.reduceLT, Nat.reduceLeDiff, Nat.reduceBEq, Nat.reduceBNe, Nat.reduceGT, Int.reduceEq, Int.reduceLT, Int.reduceLE, Int.reduceToNat, Int.reduceAdd, Int.reduceSub, Int.reduceMul, Int.reduceNeg, Int.reduceBEq, Int.reduceBNe, Ext.b_cl, a1, a2, hl, m1, m2, m3, m4, m5, t1]
end Go.Proofs.Ythkjiclplecljaa.Vm

/- Bits, one by one: plain. -/
namespace Go.Proofs.Ythkjiclplecljaa.Vm
open Go Go.Proofs.Ythkjiclplecljaa.Sym
set_option linter.unusedVariables false
set_option linter.unusedSimpArgs false
end Go.Proofs.Ythkjiclplecljaa.Vm

/- Values of kinds: all bits turned, brought into a kind, of both. -/
namespace Go.Proofs.Ythkjiclplecljaa.Vm
open Go Go.Proofs.Ythkjiclplecljaa.Sym Go.Proofs.Ythkjiclplecljaa.Tab Go.Proofs.Ythkjiclplecljaa.Ver
set_option linter.unusedVariables false
set_option linter.unusedSimpArgs false
set_option maxHeartbeats 4000000
set_option maxRecDepth 20000
end Go.Proofs.Ythkjiclplecljaa.Vm

/- Operations on values of a kind: both. -/
namespace Go.Proofs.Ythkjiclplecljaa.Vm
open Go Go.Proofs.Ythkjiclplecljaa.Sym Go.Proofs.Ythkjiclplecljaa.Tab Go.Proofs.Ythkjiclplecljaa.Ver
set_option linter.unusedVariables false
set_option linter.unusedSimpArgs false
set_option maxHeartbeats 4000000
set_option maxRecDepth 20000
/-! an operation, plain -/
end Go.Proofs.Ythkjiclplecljaa.Vm

/- Operations on values of a kind: both, whole. -/
namespace Go.Proofs.Ythkjiclplecljaa.Vm
open Go Go.Proofs.Ythkjiclplecljaa.Sym Go.Proofs.Ythkjiclplecljaa.Tab Go.Proofs.Ythkjiclplecljaa.Ver
set_option linter.unusedVariables false
set_option linter.unusedSimpArgs false
set_option maxHeartbeats 4000000
set_option maxRecDepth 20000
end Go.Proofs.Ythkjiclplecljaa.Vm

/- Operations on values of a kind: the same of both. -/
namespace Go.Proofs.Ythkjiclplecljaa.Vm
open Go Go.Proofs.Ythkjiclplecljaa.Sym Go.Proofs.Ythkjiclplecljaa.Tab Go.Proofs.Ythkjiclplecljaa.Ver
set_option linter.unusedVariables false
set_option linter.unusedSimpArgs false
set_option maxHeartbeats 4000000
set_option maxRecDepth 20000
end Go.Proofs.Ythkjiclplecljaa.Vm

/- Operations on values of a kind: the document's. -/
namespace Go.Proofs.Ythkjiclplecljaa.Vm
open Go Go.Proofs.Ythkjiclplecljaa.Sym Go.Proofs.Ythkjiclplecljaa.Tab Go.Proofs.Ythkjiclplecljaa.Ver
set_option linter.unusedVariables false
set_option linter.unusedSimpArgs false
set_option maxHeartbeats 4000000
set_option maxRecDepth 20000
end Go.Proofs.Ythkjiclplecljaa.Vm

/- Values in an area's bytes: the program's. -/
namespace Go.Proofs.Ythkjiclplecljaa.Vm
open Go Go.Proofs.Ythkjiclplecljaa.Sym Go.Proofs.Ythkjiclplecljaa.Tab Go.Proofs.Ythkjiclplecljaa.Ver
set_option linter.unusedVariables false
set_option linter.unusedSimpArgs false
set_option maxHeartbeats 4000000
set_option maxRecDepth 20000
/-- Bytes. -/
def By (l : List Int) : Prop := ∀ x ∈ l, 0 ≤ x ∧ x ≤ 255
theorem By.take {a : List Int} (h : By a) (n : Nat) : By (a.take n) := fun x hx => h x (List.mem_of_mem_take hx)
theorem By.drop {a : List Int} (h : By a) (n : Nat) : By (a.drop n) := fun x hx => h x (List.mem_of_mem_drop hx)
theorem By.app {a b : List Int} (ha : By a) (hb : By b) : By (a ++ b) := fun x hx => by
  rcases List.mem_append.1 hx with h | h
  · exact ha x h
  · exact hb x h
theorem By.rep (n : Nat) : By (List.replicate n 0) := fun x hx => by rw [List.eq_of_mem_replicate hx]; decide
theorem By.get {l : List Int} (h : By l) {i : Nat} (hi : i < l.length) : 0 ≤ l[i] ∧ l[i] ≤ 255 := h _ (List.getElem_mem hi)
theorem By.set {l : List Int} (h : By l) (i : Nat) {x : Int} (hx : 0 ≤ x ∧ x ≤ 255) : By (l.set i x) := fun y hy => by
  rcases List.mem_or_eq_of_mem_set hy with e | e
  · exact h y e
  · rw [e]; exact hx
theorem so_size (l : List Int) : (strOfNums l).size = l.length := by simp [strOfNums, ByteArray.size]
theorem so_app (a b : List Int) : strOfNums a ++ strOfNums b = strOfNums (a ++ b) := by
  apply ByteArray.ext
  simp [strOfNums]
theorem so_ext (l : List Int) (i j : Nat) (h : j ≤ l.length) : (strOfNums l).extract i j = strOfNums ((l.take j).drop i) := by
  apply ByteArray.ext
  simp only [strOfNums, ByteArray.data_extract, List.extract_toArray, List.extract_eq_take_drop, List.map_take, List.map_drop, List.drop_take]
abbrev sv (l : List Int) : AV := .v (.string (strOfNums l))
abbrev ro (l : List Int) : Sym.Obj := ⟨true, false, true, bytesV l⟩
/-- A number of bytes, the highest first. -/
def bn (l : List Int) (v : Nat) : Nat := l.foldl (fun n c => n * 256 + c.toNat) v
def szN (k : Int) : Nat := (ksz k).toNat
def putR (l : List Int) (a : Nat) (v : Int) : Nat → List Int
  | 0 => l
  | m + 1 => putR (l.set (a + m) (v % 256)) a (v / 256) m
def putB (l : List Int) (a : Nat) (k v : Int) : List Int := putR l a (wrapK k v) (szN k)
theorem putR_len : ∀ (m : Nat) (l : List Int) (a : Nat) (v : Int), (putR l a v m).length = l.length
  | 0, l, a, v => rfl
  | m + 1, l, a, v => by rw [putR, putR_len m, List.length_set]
theorem putB_len (l : List Int) (a : Nat) (k v : Int) : (putB l a k v).length = l.length := putR_len _ _ _ _
theorem putR_by : ∀ (m : Nat) {l : List Int} (h : By l) (a : Nat) (v : Int), By (putR l a v m)
  | 0, l, h, a, v => h
  | m + 1, l, h, a, v => putR_by m (h.set _ ⟨by omega, by omega⟩) a _
theorem putB_by {l : List Int} (h : By l) (a : Nat) (k v : Int) : By (putB l a k v) := putR_by _ h _ _
theorem szN_eq (k : Int) : ((szN k : Nat) : Int) = ksz k := by
  have := ksz_in k
  unfold szN
  omega
theorem szN_pos {k : Int} (h : 1 ≤ k ∧ k ≤ 7) : 0 < szN k := by
  rcases seven h with rfl | rfl | rfl | rfl | rfl | rfl | rfl <;> decide
theorem there_a (k : Nat) (n : Int) (hn : 1 ≤ n ∧ n ≤ 7) (a : Nat) (h : a + szN n ≤ 64) : acall T (k + 4) 102 0 [.v (.int .i64 64), .v (.int .i64 a), .v (.int .i64 n)] [] = some ⟨.v (.bool true), [], 1⟩ := by
  have h1 := ksize_a k n
  have hp := szN_pos hn
  rw [← szN_eq] at h1
  rw [acall_go (body := b_iec_there) rfl rfl (Nat.zero_le _)]
  have c1 : (0 : Int) < (szN n : Nat) := by omega
  have c2 : (0 : Int) ≤ a := by omega
  have c3 : (a : Int) ≤ 64 := by omega
  have w1 : IntKind.i64.wrap (64 - (a : Int)) = 64 - a := w64 (by omega) (by omega)
  have c4 : ((szN n : Nat) : Int) ≤ 64 - a := by omega
  generalize ((szN n : Nat) : Int) = s at *
  simp -implicitDefEqProofs only [eqs, eqd, eqe, lh_some, ↓reduceIte, reduceCtorEq, Nat.reduceEqDiff, Nat.reduceAdd, Nat.reduceSub, Nat.reduceMul, Nat.reduceLT, Nat.reduceLeDiff, Nat.reduceBEq, Nat.reduceBNe, Nat.reduceGT, Int.reduceEq, Int.reduceLT, Int.reduceLE, Int.reduceToNat, Int.reduceAdd, Int.reduceSub, Int.reduceMul, Int.reduceNeg, Int.reduceBEq, Int.reduceBNe, b_iec_there, h1, c1, c2, c3, c4, w1]
end Go.Proofs.Ythkjiclplecljaa.Vm

/- Values put into an area's bytes: the program's; the document's. -/
namespace Go.Proofs.Ythkjiclplecljaa.Vm
open Go Go.Proofs.Ythkjiclplecljaa.Sym Go.Proofs.Ythkjiclplecljaa.Tab Go.Proofs.Ythkjiclplecljaa.Ver
set_option linter.unusedVariables false
set_option linter.unusedSimpArgs false
set_option maxHeartbeats 4000000
set_option maxRecDepth 20000
def pst (l : List Int) (a : Nat) (v j : Int) (d : Nat) : St := ⟨[(0, .view 0 0 64 1 none), (1, .v (.int .i64 a)), (3, .v (.int .i64 v)), (9, .v (.int .i64 j))], [ro l], d, [0]⟩
noncomputable abbrev pfin (C : CT) (lf : Nat) (s : St) (N : Nat) : Option Res := FnR [.t 8] false true (Lh C lf (some s) [0, 1, 3, 9] l_iec_Put_0 N [.b 0, .c l_iec_Put_1])
end Go.Proofs.Ythkjiclplecljaa.Vm

/- What a run has, and its parts: the program's. -/
namespace Go.Proofs.Ythkjiclplecljaa.Vm
open Go Go.Proofs.Ythkjiclplecljaa.Sym Go.Proofs.Ythkjiclplecljaa.Tab Go.Proofs.Ythkjiclplecljaa.Ver
set_option linter.unusedVariables false
set_option linter.unusedSimpArgs false
set_option maxHeartbeats 4000000
set_option maxRecDepth 20000
/-- What a run has: areas, a result, open brackets (operation, kind, value), steps, divisions by 0, time that passed. -/
structure M where
  a1 : List Int
  a2 : List Int
  a3 : List Int
  a4 : List Int
  kd : Int
  vl : Int
  bs : List (Int × Int × Int)
  st : Int
  ze : Int
  ps : Int
def M.ar (m : M) (a : Int) : List Int := if a = 1 then m.a1 else if a = 2 then m.a2 else if a = 3 then m.a3 else m.a4
def M.put (m : M) (a : Int) (at_ : Nat) (k v : Int) : M := ⟨if a = 1 then putB m.a1 at_ k v else m.a1, if a = 2 then putB m.a2 at_ k v else m.a2, if a = 3 then putB m.a3 at_ k v else m.a3, if a = 4 then putB m.a4 at_ k v else m.a4, m.kd, m.vl, m.bs, m.st, m.ze, m.ps⟩
structure M.Ok (m : M) : Prop where
  b1 : By m.a1
  b2 : By m.a2
  b3 : By m.a3
  b4 : By m.a4
  l1 : m.a1.length = 64
  l2 : m.a2.length = 64
  l3 : m.a3.length = 64
  l4 : m.a4.length = 64
theorem M.Ok.put {m : M} (h : m.Ok) (a : Int) (at_ : Nat) (k v : Int) : (m.put a at_ k v).Ok := by
  unfold M.put
  refine ⟨?_, ?_, ?_, ?_, ?_, ?_, ?_, ?_⟩
  · show By (if a = 1 then _ else _); split; exact putB_by h.b1 _ _ _; exact h.b1
  · show By (if a = 2 then _ else _); split; exact putB_by h.b2 _ _ _; exact h.b2
  · show By (if a = 3 then _ else _); split; exact putB_by h.b3 _ _ _; exact h.b3
  · show By (if a = 4 then _ else _); split; exact putB_by h.b4 _ _ _; exact h.b4
  · show (if a = 1 then _ else _ : List Int).length = 64; split; rw [putB_len]; exact h.l1; exact h.l1
  · show (if a = 2 then _ else _ : List Int).length = 64; split; rw [putB_len]; exact h.l2; exact h.l2
  · show (if a = 3 then _ else _ : List Int).length = 64; split; rw [putB_len]; exact h.l3; exact h.l3
  · show (if a = 4 then _ else _ : List Int).length = 64; split; rw [putB_len]; exact h.l4; exact h.l4
theorem M.Ok.ar {m : M} (h : m.Ok) (a : Int) : By (m.ar a) ∧ (m.ar a).length = 64 := by
  unfold M.ar
  split
  · exact ⟨h.b1, h.l1⟩
  split
  · exact ⟨h.b2, h.l2⟩
  split
  · exact ⟨h.b3, h.l3⟩
  · exact ⟨h.b4, h.l4⟩
/-- How the open brackets stand in memory: no row yet; a row with so many cells behind them. -/
inductive Op_ where
  | nil
  | row (g : List AV)
/-- What stands behind the brackets leads nowhere. -/
def Op_.Ok (o : Op_) (bs : List (Int × Int × Int)) : Prop := match o with
  | .nil => bs = []
  | .row g => g.all flat0 = true ∧ g.all atom = true ∧ ∃ q, g.length = 3 * q
end Go.Proofs.Ythkjiclplecljaa.Vm

/- Programs that are loaded; areas that are fitted. -/
namespace Go.Proofs.Ythkjiclplecljaa.Vm
open Go Go.Proofs.Ythkjiclplecljaa.Sym Go.Proofs.Ythkjiclplecljaa.Tab Go.Proofs.Ythkjiclplecljaa.Ver Go.Proofs.Ythkjiclplecljaa.Args
set_option linter.unusedVariables false
set_option linter.unusedSimpArgs false
set_option maxHeartbeats 4000000
set_option maxRecDepth 20000
abbrev pO (fr : Bool) (L : List Ins) : Sym.Obj := ⟨true, fr, true, [.shr L.length false (L.flatMap Ins.c)]⟩
theorem load_ok (k : Nat) (hk : 200 ≤ k) (L : List Ins) (hL : L.length ≤ 300) (hin : ∀ (i : Nat) (h : i < L.length), L[i].In) (h0 : (chk L).1 = 0) : acall T (k + 19) 10 0 [.shr L.length false (L.flatMap Ins.c)] [] = some ⟨.tup [.ptr 0 0, .v (.int .i64 0), .v (.int .i64 0)], [pO true L], 1⟩ := by
  obtain ⟨d, hd, h1⟩ := chk_a k hk L hin
  have h2 := clone_a (k + 17) L hL
  rw [h0] at h1
  rw [acall_go (body := b_vm_Load) rfl rfl (Nat.zero_le _)]
  simp only [pO]
  clear hin
  generalize L.flatMap Ins.c = cs at *
  generalize L.length = n at *
  rcases hd with rfl | rfl
  · simp -implicitDefEqProofs only [eqs, eqd, eqe, lh_some, ↓reduceIte, reduceCtorEq, Nat.reduceEqDiff, Nat.reduceAdd, Nat.reduceSub, Nat.reduceMul, Nat.reduceLT, Nat.reduceLeDiff, Nat.reduceBEq, Nat.reduceBNe, Nat.reduceGT, Int.reduceEq, Int.reduceLT, Int.reduceLE, Int.reduceToNat, Int.reduceAdd, Int.reduceSub, Int.reduceMul, Int.reduceNeg, Int.reduceBEq, Int.reduceBNe, b_vm_Load, h1, h2]
  · simp -implicitDefEqProofs only [eqs, eqd, eqe, lh_some, ↓reduceIte, reduceCtorEq, Nat.reduceEqDiff, Nat.reduceAdd, Nat.reduceSub, Nat.reduceMul, Nat.reduceLT, Nat.reduceLeDiff, Nat.reduceBEq, Nat.reduceBNe, Nat.reduceGT, Int.reduceEq, Int.reduceLT, Int.reduceLE, Int.reduceToNat, Int.reduceAdd, Int.reduceSub, Int.reduceMul, Int.reduceNeg, Int.reduceBEq, Int.reduceBNe, b_vm_Load, h1, h2]
theorem load_err (k : Nat) (hk : 200 ≤ k) (L : List Ins) (hin : ∀ (i : Nat) (h : i < L.length), L[i].In) (h0 : (chk L).1 ≠ 0) : ∃ d, (d = 0 ∨ d = 1) ∧ acall T (k + 19) 10 0 [.shr L.length false (L.flatMap Ins.c)] [] = some ⟨.tup [.v (.pointer none), .v (.int .i64 (chk L).1), .v (.int .i64 (chk L).2)], [], d⟩ := by
  obtain ⟨d, hd, h1⟩ := chk_a k hk L hin
  refine ⟨d, hd, ?_⟩
  have hb : ((chk L).1 != 0) = true := by simpa using h0
  rw [acall_go (body := b_vm_Load) rfl rfl (Nat.zero_le _)]
  clear hin
  generalize L.flatMap Ins.c = cs at *
  generalize L.length = n at *
  generalize chk L = e at *
  rcases hd with rfl | rfl
  · simp -implicitDefEqProofs only [eqs, eqd, eqe, lh_some, ↓reduceIte, reduceCtorEq, Nat.reduceEqDiff, Nat.reduceAdd, Nat.reduceSub, Nat.reduceMul, Nat.reduceLT, Nat.reduceLeDiff, Nat.reduceBEq, Nat.reduceBNe, Nat.reduceGT, Int.reduceEq, Int.reduceLT, Int.reduceLE, Int.reduceToNat, Int.reduceAdd, Int.reduceSub, Int.reduceMul, Int.reduceNeg, Int.reduceBEq, Int.reduceBNe, b_vm_Load, h1, hb]
  · simp -implicitDefEqProofs only [eqs, eqd, eqe, lh_some, ↓reduceIte, reduceCtorEq, Nat.reduceEqDiff, Nat.reduceAdd, Nat.reduceSub, Nat.reduceMul, Nat.reduceLT, Nat.reduceLeDiff, Nat.reduceBEq, Nat.reduceBNe, Nat.reduceGT, Int.reduceEq, Int.reduceLT, Int.reduceLE, Int.reduceToNat, Int.reduceAdd, Int.reduceSub, Int.reduceMul, Int.reduceNeg, Int.reduceBEq, Int.reduceBNe, b_vm_Load, h1, hb]
theorem code_a (k : Nat) (L : List Ins) (hL : L.length ≤ 300) : acall T (k + 2) 19 1 [.ptr 0 0] [pO false L] = some ⟨.shr L.length false (L.flatMap Ins.c), [pO false L], 1⟩ := by
  have h2 := clone_a k L hL
  rw [acall_go (body := b_vm_Program_Code) rfl rfl (Nat.le_refl 1)]
  simp only [pO]
  generalize L.flatMap Ins.c = cs at *
  generalize L.length = n at *
  simp -implicitDefEqProofs only [eqs, eqd, eqe, lh_some, ↓reduceIte, reduceCtorEq, Nat.reduceEqDiff, Nat.reduceAdd, Nat.reduceSub, Nat.reduceMul, Nat.reduceLT, Nat.reduceLeDiff, Nat.reduceBEq, Nat.reduceBNe, Nat.reduceGT, Int.reduceEq, Int.reduceLT, Int.reduceLE, Int.reduceToNat, Int.reduceAdd, Int.reduceSub, Int.reduceMul, Int.reduceNeg, Int.reduceBEq, Int.reduceBNe, b_vm_Program_Code, h2]
theorem code_nil (k : Nat) : acall T (k + 1) 19 0 [.v (.pointer none)] [] = some ⟨.v (.slice none 0 0), [], 0⟩ := by
  rw [acall_go (body := b_vm_Program_Code) rfl rfl (Nat.zero_le _)]
  simp -implicitDefEqProofs only [eqs, eqd, eqe, lh_some, ↓reduceIte, reduceCtorEq, Nat.reduceEqDiff, Nat.reduceAdd, Nat.reduceSub, Nat.reduceMul, Nat.reduceLT, Nat.reduceLeDiff, Nat.reduceBEq, Nat.reduceBNe, Nat.reduceGT, Int.reduceEq, Int.reduceLT, Int.reduceLE, Int.reduceToNat, Int.reduceAdd, Int.reduceSub, Int.reduceMul, Int.reduceNeg, Int.reduceBEq, Int.reduceBNe, b_vm_Program_Code]
/-- An area brought to 64 bytes. -/
def fitL (l : List Int) : List Int := if 64 ≤ l.length then l.take 64 else l ++ List.replicate (64 - l.length) 0
theorem repL0 (c : Nat) : Lib.repeatL [(0 : UInt8)] c = List.replicate c 0 := by
  induction c with
  | zero => rfl
  | succ m ih => rw [Lib.repeatL, ih]; rfl
theorem rep_a (k : Nat) (c : Nat) (h : c ≤ 64) : acall T (k + 1) 40 0 [.v (.string ⟨#[0]⟩), .v (.int .i64 c)] [] = some ⟨sv (List.replicate c 0), [], 1⟩ := by
  have key : Ext.extR 40 0 [.v (.string ⟨#[0]⟩), .v (.int .i64 c)] [] = some ⟨sv (List.replicate c 0), [], 1⟩ := by
    show (if (40 = 40 ∧ 0 = 0 ∧ (0 : Int) ≤ (c : Int) ∧ (c : Int) ≤ 9223372036854775807 ∧ (1 : Nat) * (c : Int).toNat ≤ 140737488355328) then some (⟨.v (.string (Ext.rep ⟨#[0]⟩ (c : Int).toNat)), [], 1⟩ : Res) else none) = _
    rw [if_pos ⟨rfl, rfl, by omega, by omega, by rw [Int.toNat_natCast]; omega⟩, Int.toNat_natCast]
    have e : Ext.rep ⟨#[0]⟩ c = strOfNums (List.replicate c 0) := by
      show (⟨(Lib.repeatL [(0 : UInt8)] c).toArray⟩ : ByteArray) = ⟨((List.replicate c (0 : Int)).map _).toArray⟩
      rw [repL0, List.map_replicate]
      rfl
    rw [e]
  show Ext.ext 40 0 [.v (.string ⟨#[0]⟩), .v (.int .i64 c)] [] = _
  unfold Ext.ext
  rw [key]
theorem area_a (k : Nat) (l : List Int) (hl : By l) (hL : l.length ≤ 1000) : ∃ d, (d = 0 ∨ d = 1) ∧ acall T (k + 2) 26 0 [sv l] [] = some ⟨sv (fitL l), [], d⟩ := by
  have hs := so_size l
  unfold fitL
  by_cases c : 64 ≤ l.length
  · refine ⟨0, Or.inl rfl, ?_⟩
    have c1 : (64 : Int) ≤ l.length := by omega
    have e1 := so_ext l 0 64 c
    rw [List.drop_zero] at e1
    rw [if_pos c, acall_go (body := b_vm_area) rfl rfl (Nat.zero_le _)]
    simp only [sv]
    generalize strOfNums (l.take 64) = z at *
    generalize strOfNums l = y at *
    generalize l.length = n at *
    simp -implicitDefEqProofs only [eqs, eqd, eqe, lh_some, ↓reduceIte, reduceCtorEq, Nat.reduceEqDiff, Nat.reduceAdd, Nat.reduceSub, Nat.reduceMul, Nat.reduceLT, Nat.reduceLeDiff, Nat.reduceBEq, Nat.reduceBNe, Nat.reduceGT, Int.reduceEq, Int.reduceLT, Int.reduceLE, Int.reduceToNat, Int.reduceAdd, Int.reduceSub, Int.reduceMul, Int.reduceNeg, Int.reduceBEq, Int.reduceBNe, b_vm_area, hs, c1, c, e1]
  · refine ⟨1, Or.inr rfl, ?_⟩
    have c1 : ¬ (64 : Int) ≤ l.length := by omega
    have w1 : IntKind.i64.wrap (64 - (l.length : Int)) = ((64 - l.length : Nat) : Int) := by rw [w64 (by omega) (by omega)]; omega
    have h2 := rep_a k (64 - l.length) (by omega)
    have h3 := so_app l (List.replicate (64 - l.length) 0)
    have h4 : l.length + (strOfNums (List.replicate (64 - l.length) 0)).size ≤ 9223372036854775807 := by
      rw [so_size, List.length_replicate]
      omega
    rw [if_neg c, acall_go (body := b_vm_area) rfl rfl (Nat.zero_le _)]
    simp only [sv] at h2 ⊢
    generalize strOfNums (l ++ List.replicate (64 - l.length) 0) = z at *
    generalize strOfNums (List.replicate (64 - l.length) 0) = z2 at *
    generalize strOfNums l = y at *
    generalize 64 - l.length = u at *
    generalize l.length = n at *
    simp -implicitDefEqProofs only [eqs, eqd, eqe, lh_some, ↓reduceIte, reduceCtorEq, Nat.reduceEqDiff, Nat.reduceAdd, Nat.reduceSub, Nat.reduceMul, Nat.reduceLT, Nat.reduceLeDiff, Nat.reduceBEq, Nat.reduceBNe, Nat.reduceGT, Int.reduceEq, Int.reduceLT, Int.reduceLE, Int.reduceToNat, Int.reduceAdd, Int.reduceSub, Int.reduceMul, Int.reduceNeg, Int.reduceBEq, Int.reduceBNe, b_vm_area, hs, c1, w1, h2, h3, h4]
abbrev imC (l1 l2 l3 l4 : List Int) : List AV := [sv l1, sv l2, sv l3, sv l4]
theorem fit_a (k : Nat) (l1 l2 l3 l4 : List Int) (h1 : By l1) (h2 : By l2) (h3 : By l3) (h4 : By l4) (b1 : l1.length ≤ 1000) (b2 : l2.length ≤ 1000) (b3 : l3.length ≤ 1000) (b4 : l4.length ≤ 1000) : acall T (k + 3) 14 0 [.agg (imC l1 l2 l3 l4)] [] = some ⟨.agg (imC (fitL l1) (fitL l2) (fitL l3) (fitL l4)), [], 1⟩ := by
  obtain ⟨d1, e1, g1⟩ := area_a k l1 h1 b1
  obtain ⟨d2, e2, g2⟩ := area_a k l2 h2 b2
  obtain ⟨d3, e3, g3⟩ := area_a k l3 h3 b3
  obtain ⟨d4, e4, g4⟩ := area_a k l4 h4 b4
  rw [acall_go (body := b_vm_Fit) rfl rfl (Nat.zero_le _)]
  have q1 : d1 ≤ 1 := by omega
  have q2 : d2 ≤ 1 := by omega
  have q3 : d3 ≤ 1 := by omega
  have q4 : d4 ≤ 1 := by omega
  simp only [imC, sv] at g1 g2 g3 g4 ⊢
  rcases e1 with rfl | rfl <;> rcases e2 with rfl | rfl <;> rcases e3 with rfl | rfl <;> rcases e4 with rfl | rfl
  all_goals simp -implicitDefEqProofs only [eqs, eqd, eqe, lh_some, ↓reduceIte, reduceCtorEq, Nat.reduceEqDiff, Nat.reduceAdd, Nat.reduceSub, Nat.reduceMul, Nat.reduceLT, Nat.reduceLeDiff, Nat.reduceBEq, Nat.reduceBNe, Nat.reduceGT, Int.reduceEq, Int.reduceLT, Int.reduceLE, Int.reduceToNat, Int.reduceAdd, Int.reduceSub, Int.reduceMul, Int.reduceNeg, Int.reduceBEq, Int.reduceBNe, b_vm_Fit, g1, g2, g3, g4]
theorem run_nil (k : Nat) (l1 l2 l3 l4 : List Int) (h1 : By l1) (h2 : By l2) (h3 : By l3) (h4 : By l4) (b1 : l1.length ≤ 1000) (b2 : l2.length ≤ 1000) (b3 : l3.length ≤ 1000) (b4 : l4.length ≤ 1000) (x : Int) : acall T (k + 4) 11 0 [.v (.pointer none), .agg (imC l1 l2 l3 l4), .v (.int .i64 x)] [] = some ⟨.tup [.agg (imC (fitL l1) (fitL l2) (fitL l3) (fitL l4)), .agg [.v (.int .i64 0), .v (.int .i64 0), .v (.int .i64 0), .v (.int .i64 0)]], [], 1⟩ := by
  have g := fit_a k l1 l2 l3 l4 h1 h2 h3 h4 b1 b2 b3 b4
  rw [acall_go (body := b_vm_Program_Run) rfl rfl (Nat.zero_le _)]
  simp only [imC, sv] at g ⊢
  simp -implicitDefEqProofs only [eqs, eqd, eqe, lh_some, ↓reduceIte, reduceCtorEq, Nat.reduceEqDiff, Nat.reduceAdd, Nat.reduceSub, Nat.reduceMul, Nat.reduceLT, Nat.reduceLeDiff, Nat.reduceBEq, Nat.reduceBNe, Nat.reduceGT, Int.reduceEq, Int.reduceLT, Int.reduceLE, Int.reduceToNat, Int.reduceAdd, Int.reduceSub, Int.reduceMul, Int.reduceNeg, Int.reduceBEq, Int.reduceBNe, b_vm_Program_Run, g_vm_Program_Run_0, g]
end Go.Proofs.Ythkjiclplecljaa.Vm

/- One program and itself: the same. -/
namespace Go.Proofs.Ythkjiclplecljaa.Vm
open Go Go.Proofs.Ythkjiclplecljaa.Sym Go.Proofs.Ythkjiclplecljaa.Tab Go.Proofs.Ythkjiclplecljaa.Ver Go.Proofs.Ythkjiclplecljaa.Args
set_option linter.unusedVariables false
set_option linter.unusedSimpArgs false
set_option maxHeartbeats 4000000
set_option maxRecDepth 20000
def sst (L : List Ins) (d i : Nat) : St := ⟨[(0, .shr L.length false (L.flatMap Ins.c)), (1, .shr L.length false (L.flatMap Ins.c)), (5, .v (.int .i64 i))], [], d, []⟩
theorem same_next (C : CT) (lf : Nat) (L : List Ins) (hL : L.length ≤ 300) (d : Nat) (hd : d = 0 ∨ d = 1) (i : Nat) (hi : i < L.length) (N : Nat) (ks : List It) : Lh C lf (some (sst L d i)) [0, 1, 5] l_fuglemanref12_Same_0 (N + 1) ks = Lh C lf (some (sst L 1 (i + 1))) [0, 1, 5] l_fuglemanref12_Same_0 N ks := by
  have c1 : (i : Int) < L.length := by omega
  have c0 : (0 : Int) ≤ i := by omega
  have w1 : IntKind.i64.wrap ((i : Int) + 1) = ((i + 1 : Nat) : Int) := by rw [w64 (by omega) (by omega)]; omega
  have h5 := ins_at L i hi
  have hl := ins_len L
  have l5 : i * 5 + 5 ≤ L.length * 5 := by omega
  unfold sst
  rw [lh_as l_fuglemanref12_Same_0.eq_1]
  generalize L[i] = ins at *
  generalize L.flatMap Ins.c = cs at *
  generalize L.length = n at *
  obtain ⟨op, kd, ar, at_, nn⟩ := ins
  rcases hd with rfl | rfl <;> simp -implicitDefEqProofs only [eqs, eqd, eqe, ↓reduceIte, reduceCtorEq, Nat.reduceEqDiff, Nat.reduceAdd, Nat.reduceSub, Nat.reduceMul, Nat.reduceLT, Nat.reduceLeDiff, Nat.reduceBEq, Nat.reduceBNe, Nat.reduceGT, Int.reduceEq, Int.reduceLT, Int.reduceLE, Int.reduceToNat, Int.reduceAdd, Int.reduceSub, Int.reduceMul, Int.reduceNeg, Int.reduceBEq, Int.reduceBNe, nx_nil, Ins.c, c0, c1, w1, h5, hl, l5, Int.toNat_natCast, beq_self_eq_true]
noncomputable abbrev sfin (C : CT) (lf : Nat) (s : St) (N : Nat) : Option Res := FnR [.t 4] false false (Lh C lf (some s) [0, 1, 5] l_fuglemanref12_Same_0 N [.b 0, .c l_fuglemanref12_Same_1])
theorem same_end (C : CT) (lf : Nat) (L : List Ins) (d N : Nat) (hd : d = 0 ∨ d = 1) : sfin C lf (sst L d L.length) N = some ⟨.v (.bool true), [], d⟩ := by
  unfold sfin sst
  rw [lh_as l_fuglemanref12_Same_0.eq_1]
  generalize L.flatMap Ins.c = cs at *
  generalize L.length = n at *
  have c1 : ¬ (n : Int) < n := by omega
  rcases hd with rfl | rfl <;> simp -implicitDefEqProofs only [eqs, eqd, eqe, ↓reduceIte, reduceCtorEq, Nat.reduceEqDiff, Nat.reduceAdd, Nat.reduceSub, Nat.reduceMul, Nat.reduceLT, Nat.reduceLeDiff, Nat.reduceBEq, Nat.reduceBNe, Nat.reduceGT, Int.reduceEq, Int.reduceLT, Int.reduceLE, Int.reduceToNat, Int.reduceAdd, Int.reduceSub, Int.reduceMul, Int.reduceNeg, Int.reduceBEq, Int.reduceBNe, nx_nil, l_fuglemanref12_Same_1, c1]
theorem same_run (C : CT) (lf : Nat) (L : List Ins) (hL : L.length ≤ 300) : ∀ (m i d N : Nat), (d = 0 ∨ d = 1) → i + m = L.length → m ≤ N → ∃ d', (d' = 0 ∨ d' = 1) ∧ sfin C lf (sst L d i) N = some ⟨.v (.bool true), [], d'⟩
  | 0, i, d, N, hd, hi, hN => by
    obtain rfl : i = L.length := by omega
    exact ⟨d, hd, same_end C lf L d N hd⟩
  | m + 1, i, d, N, hd, hi, hN => by
    obtain ⟨N, rfl⟩ : ∃ M, N = M + 1 := ⟨N - 1, by omega⟩
    obtain ⟨d', h', h⟩ := same_run C lf L hL m (i + 1) 1 N (Or.inr rfl) (by omega) (by omega)
    refine ⟨d', h', ?_⟩
    unfold sfin at h ⊢
    rw [same_next C lf L hL d hd i (by omega) N, h]
theorem same_a (k : Nat) (L : List Ins) (hk : L.length ≤ k) (hL : L.length ≤ 300) : ∃ d, (d = 0 ∨ d = 1) ∧ acall T (k + 2) 20 0 [.shr L.length false (L.flatMap Ins.c), .shr L.length false (L.flatMap Ins.c)] [] = some ⟨.v (.bool true), [], d⟩ := by
  obtain ⟨d, hd, key⟩ := same_run (acall T (k + 1)) (k + 1) L hL L.length 0 0 k (Or.inl rfl) (by omega) (by omega)
  refine ⟨d, hd, ?_⟩
  rw [acall_go (body := b_fuglemanref12_Same) rfl rfl (Nat.zero_le _), ← key]
  clear key
  have lp : ∀ (ks : List It) (s : St), Lp (acall T (k + 1)) (k + 1) [0, 1, 5] l_fuglemanref12_Same_0 (k + 1) ks s = Lh (acall T (k + 1)) (k + 1) (canon [0, 1, 5] s) [0, 1, 5] l_fuglemanref12_Same_0 k ks := fun ks s => lp_succ (n := k)
  unfold sfin sst
  generalize L.flatMap Ins.c = cs at *
  generalize L.length = n at *
  simp -implicitDefEqProofs only [eqs, eqd, eqe, ↓reduceIte, reduceCtorEq, Nat.reduceEqDiff, Nat.reduceAdd, Nat.reduceSub, Nat.reduceMul, Nat.reduceLT, Nat.reduceLeDiff, Nat.reduceBEq, Nat.reduceBNe, Nat.reduceGT, Int.reduceEq, Int.reduceLT, Int.reduceLE, Int.reduceToNat, Int.reduceAdd, Int.reduceSub, Int.reduceMul, Int.reduceNeg, Int.reduceBEq, Int.reduceBNe, b_fuglemanref12_Same, lp, Int.natCast_zero]
end Go.Proofs.Ythkjiclplecljaa.Vm

/- The law VmLoads. -/
namespace Go.Proofs.Ythkjiclplecljaa.Said
open Go Go.Proofs.Ythkjiclplecljaa.Sym Go.Proofs.Ythkjiclplecljaa.Tab Go.Proofs.Ythkjiclplecljaa.Args Go.Proofs.Ythkjiclplecljaa.Ver Go.Proofs.Ythkjiclplecljaa.Vm
set_option linter.unusedVariables false
set_option linter.unusedSimpArgs false
set_option maxHeartbeats 4000000
set_option maxRecDepth 20000
def toI (v : S48) : Ins := ⟨v.f0, v.f1, v.f2, v.f3, v.f4⟩
theorem toI_c (l : List S48) : l.flatMap S48.av = (l.map toI).flatMap Ins.c := by
  rw [List.flatMap_map]
  rfl
theorem toI_in {l : List S48} (h : ∀ (i0 : Nat) x0, l[i0]? = some x0 → S48.In x0) (i : Nat) (hi : i < (l.map toI).length) : ((l.map toI)[i]).In := by
  rw [List.getElem_map]
  have hl : i < l.length := by simpa using hi
  have := h i l[i] (List.getElem?_eq_getElem hl)
  exact ⟨this.1, this.2, this.3, this.4, this.5⟩
theorem vl_err (L : List Ins) (hL : ¬ (210 : Int) < L.length) (e p : Int) (he : e ≠ 0) (d1 d2 : Nat) (h1 : d1 = 0 ∨ d1 = 1) (h2 : d2 = 0 ∨ d2 = 1)
    (c1 : acall T 299 10 0 [.shr L.length false (L.flatMap Ins.c)] [] = some ⟨.tup [.v (.pointer none), .v (.int .i64 e), .v (.int .i64 p)], [], d1⟩)
    (c2 : acall T 299 18 0 [.shr L.length false (L.flatMap Ins.c)] [] = some ⟨.tup [.v (.slice none 0 0), .v (.int .i64 e), .v (.int .i64 p)], [], d2⟩) :
    ∃ ob d, acall T 300 7 0 [.shr L.length false (L.flatMap Ins.c)] [] = some ⟨.v (.bool true), ob, d⟩ := by
  refine ⟨[], 1, ?_⟩
  have c3 := code_nil 298
  have b0 : By ([] : List Int) := by intro x hx; cases hx
  have bab : By ([97, 98] : List Int) := by intro x hx; simp at hx; omega
  have c4 := run_nil 295 [97, 98] [] [] [] bab b0 b0 b0 (by decide) (by decide) (by decide) (by decide) 5
  have c5 := fit_a 296 [97, 98] [] [] [] bab b0 b0 b0 (by decide) (by decide) (by decide) (by decide)
  have he' : (e == 0) = false := by simpa using he
  have he2 : (e != 0) = true := by simpa using he
  rw [acall_go (body := b_fuglemanlaw15_VmLoads) rfl rfl (Nat.zero_le _)]
  have x1 : sv [97, 98] = .v (.string ⟨#[97, 98]⟩) := rfl
  have x2 : sv [] = .v (.string ByteArray.empty) := rfl
  simp only [imC, x1, x2] at c4 c5
  simp only [sv] at c4 c5
  generalize strOfNums (fitL [97, 98]) = s1 at *
  generalize strOfNums (fitL []) = s2 at *
  generalize L.flatMap Ins.c = cs at *
  generalize L.length = n at *
  rcases h1 with rfl | rfl <;> rcases h2 with rfl | rfl <;> simp -implicitDefEqProofs only [eqs, eqd, eqe, ↓reduceIte, reduceCtorEq, Nat.reduceEqDiff, Nat.reduceAdd, Nat.reduceSub, Nat.reduceMul, Nat.reduceLT, Nat.reduceLeDiff, Nat.reduceBEq, Nat.reduceBNe, Nat.reduceGT, Int.reduceEq, Int.reduceLT, Int.reduceLE, Int.reduceToNat, Int.reduceAdd, Int.reduceSub, Int.reduceMul, Int.reduceNeg, Int.reduceBEq, Int.reduceBNe, g_fuglemanlaw15_VmLoads_0, b_fuglemanlaw15_VmLoads, g_fuglemanlaw15_VmLoads_0, awake_a, c1, c2, c3, c4, c5, he, he', he2, hL, beq_self_eq_true, bne_self_eq_false]
theorem vl_ok (L : List Ins) (hL : ¬ (210 : Int) < L.length) (n : Nat) (cc : List AV) (hcc : cc.all flat0 = true) (d : Nat) (hd : d = 0 ∨ d = 1)
    (c1 : acall T 299 10 0 [.shr L.length false (L.flatMap Ins.c)] [] = some ⟨.tup [.ptr 0 0, .v (.int .i64 0), .v (.int .i64 0)], [pO true L], 1⟩)
    (c2 : acall T 299 18 0 [.shr L.length false (L.flatMap Ins.c)] [] = some ⟨.tup [.view 0 0 n 3 (some n), .v (.int .i64 0), .v (.int .i64 0)], [⟨true, true, true, cc⟩], 1⟩)
    (c3 : acall T 299 20 0 [.shr L.length false (L.flatMap Ins.c), .shr L.length false (L.flatMap Ins.c)] [] = some ⟨.v (.bool true), [], d⟩) :
    ∃ ob d, acall T 300 7 0 [.shr L.length false (L.flatMap Ins.c)] [] = some ⟨.v (.bool true), ob, d⟩ := by
  refine ⟨[], 1, ?_⟩
  have c4 := code_a 297 L (by omega)
  rw [acall_go (body := b_fuglemanlaw15_VmLoads) rfl rfl (Nat.zero_le _)]
  simp only [pO] at c1 c4
  have a2 := cl_flat L
  have a3 := cl_atom L
  generalize L.flatMap Ins.c = cs at *
  generalize L.length = n at *
  rcases hd with rfl | rfl <;> simp -implicitDefEqProofs only [eqs, eqd, eqe, ↓reduceIte, reduceCtorEq, Nat.reduceEqDiff, Nat.reduceAdd, Nat.reduceSub, Nat.reduceMul, Nat.reduceLT, Nat.reduceLeDiff, Nat.reduceBEq, Nat.reduceBNe, Nat.reduceGT, Int.reduceEq, Int.reduceLT, Int.reduceLE, Int.reduceToNat, Int.reduceAdd, Int.reduceSub, Int.reduceMul, Int.reduceNeg, Int.reduceBEq, Int.reduceBNe, g_fuglemanlaw15_VmLoads_0, b_fuglemanlaw15_VmLoads, g_fuglemanlaw15_VmLoads_0, awake_a, c1, c2, c3, c4, hL, hcc, beq_self_eq_true, bne_self_eq_false]
theorem VmLoads : ∀ (a0 : List (S48)), (a0.length ≤ 140737488351232 ∧ ∀ (i0 : Nat) x0, a0[i0]? = some x0 → S48.In x0) → ∃ ob d, acall T 300 7 0 [.shr a0.length false (a0.flatMap S48.av)] [] = some ⟨.v (.bool true), ob, d⟩ := fun a0 ⟨_, h⟩ => by
  have hin := toI_in h
  rw [toI_c, show a0.length = (a0.map toI).length by simp]
  generalize a0.map toI = L at hin
  by_cases c : (210 : Int) < L.length
  · refine ⟨[], 1, ?_⟩
    rw [acall_go (body := b_fuglemanlaw15_VmLoads) rfl rfl (Nat.zero_le _)]
    simp -implicitDefEqProofs only [eqs, eqd, eqe, ↓reduceIte, reduceCtorEq, Nat.reduceEqDiff, Nat.reduceAdd, Nat.reduceSub, Nat.reduceMul, Nat.reduceLT, Nat.reduceLeDiff, Nat.reduceBEq, Nat.reduceBNe, Nat.reduceGT, Int.reduceEq, Int.reduceLT, Int.reduceLE, Int.reduceToNat, Int.reduceAdd, Int.reduceSub, Int.reduceMul, Int.reduceNeg, Int.reduceBEq, Int.reduceBNe, b_fuglemanlaw15_VmLoads, g_fuglemanlaw15_VmLoads_0, awake_a, c]
  rcases rchk_a 286 (by decide) L hin with ⟨h0, d2, hd2, h2⟩ | ⟨h0, h0', n, cc, hcc, h2⟩
  · obtain ⟨d1, hd1, h1⟩ := load_err 280 (by decide) L hin h0
    exact vl_err L c _ _ h0 d1 d2 hd1 hd2 h1 h2
  · have h1 := load_ok 280 (by decide) L (by omega) hin h0
    obtain ⟨d, hd, h3⟩ := same_a 297 L (by omega) (by omega)
    exact vl_ok L c n cc hcc d hd h1 h2 h3
end Go.Proofs.Ythkjiclplecljaa.Said
