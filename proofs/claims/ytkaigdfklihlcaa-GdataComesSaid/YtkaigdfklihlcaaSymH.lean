/- Operations that make or change memory. -/
import Derived.Test.YtkaigdfklihlcaaSymG
import Derived.Laws.Append
import Derived.Laws.IdiomStrings
import Derived.Laws.MakeOwn
namespace Go.Proofs.Ytkaigdfklihlcaa.Sym
open Go
set_option linter.unusedVariables false
set_option linter.unusedSimpArgs false

/-- What an operation that acts yields. -/
def YieldsE (P : Program) (Im : Imm) (ρ : List Loc) (Ω : List Obj) (o : Oper) (act : Act) (w : World) (r : AV) (Ω' : List Obj) (d al : Bool) : Prop :=
  ∃ (n : Next) (y : Value) (w' : World) (ρ' : List Loc), (execOp act.eval o).run P w = .ok n w' ∧ (n = .value y ∨ (n = .skip ∧ y = undef)) ∧ VR Im ρ' r y ∧ Step Im ρ Ω w Im ρ' Ω' w' d ∧ (al = true → n = .value y ∧ Same w w')

theorem new_loc {Im : Imm} {ρ : List Loc} {Ω : List Obj} {w : World} (h : Rel Im ρ Ω w) (l : Loc) : (ρ ++ [l])[Ω.length]? = some l := by rw [← h.len, List.getElem?_append_right (Nat.le_refl _)]; simp
theorem CV.cells_at {Im : Imm} {ρ : List Loc} {xs : List AV} {arr brr : Array Value} (h : CV Im ρ xs arr) : ∀ (i : Nat) a, xs[i]? = some a → ∃ v, (arr ++ brr)[i]? = some v ∧ VR Im ρ a v := fun i a hi => by
  obtain ⟨v, h1, h2⟩ := h.at hi
  refine ⟨v, ?_, h2⟩
  rw [Array.getElem?_append_left (heap_lt' h1)]
  exact h1
where heap_lt' {arr : Array Value} {i : Nat} {v : Value} (h : arr[i]? = some v) : i < arr.size := (Array.getElem?_eq_some_iff.1 h).1
theorem CV.one {Im : Imm} {ρ : List Loc} {xs : List AV} {arr : Array Value} (h : CV Im ρ xs arr) (ha : ∀ a ∈ xs, atom a = true) : ∀ v ∈ arr.toList, v.oneCell' = true := fun v hv => by
  obtain ⟨i, hi⟩ := List.mem_iff_getElem?.1 hv
  have hlt := (List.getElem?_eq_some_iff.1 hi).1
  rw [Array.length_toList] at hlt
  have hx : xs[i]? = some (xs[i]'(by rw [h.1]; exact hlt)) := List.getElem?_eq_getElem _
  obtain ⟨u, h1, h2⟩ := h.at hx
  rw [← Array.getElem?_toList, hi] at h1
  cases h1
  exact h2.one (ha _ (List.mem_of_getElem? hx))
theorem CV.append {Im : Imm} {ρ : List Loc} {xs ys : List AV} {arr brr : Array Value} (h : CV Im ρ xs arr) (h' : CV Im ρ ys brr) : CV Im ρ (xs ++ ys) (arr ++ brr) := by
  refine CV.mk (by simp [h.1, h'.1]) fun i a hi => ?_
  rw [List.getElem?_append] at hi
  split at hi
  · rename_i hlt
    obtain ⟨v, h1, h2⟩ := h.at hi
    exact ⟨v, by rw [Array.getElem?_append_left (by rw [← h.1]; exact hlt)]; exact h1, h2⟩
  · rename_i hge
    obtain ⟨v, h1, h2⟩ := h'.at hi
    exact ⟨v, by rw [Array.getElem?_append_right (by rw [← h.1]; omega), ← h.1]; exact h1, h2⟩
theorem all_mem {xs : List AV} (h : xs.all atom = true) : ∀ a ∈ xs, atom a = true := fun a ha => List.all_eq_true.1 h a ha

theorem reps_length (z : List AV) : ∀ n, (reps n z).length = n * z.length
  | 0 => by simp [reps]
  | n + 1 => by rw [reps, List.length_append, reps_length z n, Nat.succ_mul, Nat.add_comm]
theorem reps_get (z : List AV) (hz : 0 < z.length) : ∀ (n i : Nat), i < n * z.length → (reps n z)[i]? = z[i % z.length]?
  | 0, i, h => by simp at h
  | n + 1, i, h => by
    rw [reps, List.getElem?_append]
    split
    · rename_i hlt
      rw [Nat.mod_eq_of_lt hlt]
    · rename_i hge
      rw [reps_get z hz n (i - z.length) (by rw [Nat.succ_mul] at h; omega), ← Nat.mod_eq_sub_mod (by omega)]
theorem reps_mem {z : List AV} {p : AV → Prop} (h : ∀ a ∈ z, p a) : ∀ n, ∀ a ∈ reps n z, p a
  | 0, a, ha => by simp [reps] at ha
  | n + 1, a, ha => by
    rw [reps, List.mem_append] at ha
    rcases ha with ha | ha
    · exact h a ha
    · exact reps_mem h n a ha
theorem reps_cv {Im : Imm} {ρ : List Loc} {z : List AV} {zc : Array Value} (h : CV Im ρ z zc) (hz : 0 < z.length) (n : Nat) : CV Im ρ (reps n z) ((Array.range (n * z.length)).map (zc[· % zc.size]!)) := by
  refine CV.mk (by simp [reps_length]) fun i a hi => ?_
  have hlt := (List.getElem?_eq_some_iff.1 hi).1
  rw [reps_length] at hlt
  rw [reps_get z hz n i hlt] at hi
  obtain ⟨v, h1, h2⟩ := h.at hi
  refine ⟨v, ?_, h2⟩
  rw [Array.getElem?_map, Array.getElem?_range, if_pos hlt, Option.map_some, ← h.1]
  have hm := (Array.getElem?_eq_some_iff.1 h1).1
  rw [getElem!_pos zc (i % z.length) hm]
  rw [Array.getElem?_eq_getElem hm] at h1
  exact h1

theorem do_val {P : Program} {s : Sem Value} {y : Value} {w w' : World} (h : s.run P w = .ok y w') : (do pure (.value (← s)) : Sem Next).run P w = .ok (.value y) w' := by
  rw [Sem.run_bind, h]
  rfl
/-- A new block as an operation's value. -/
theorem new_yields {P : Program} {Im : Imm} {ρ : List Loc} {Ω : List Obj} {w : World} (hR : Rel Im ρ Ω w) {o : Oper} {act : Act} {w1 : World} (hw : w1 = w ∨ w1 = w.drew) {arr : Array Value} {T : TypeId} {fz : Nat × Nat} (hf1 : fz.2 ≤ fz.1 + 1) (hf2 : fz.1 < fz.2 → arr.size ≤ fz.1)
    {xs : List AV} (hx : ∀ a ∈ xs, atom a = true) (hs : xs.length ≤ arr.size) (hc : ∀ (i : Nat) a, xs[i]? = some a → ∃ v, arr[i]? = some v ∧ VR Im ρ a v) {y : Value} {r : AV} (hrun : (execOp act.eval o).run P w = .ok (.value y) (w1.alloc (.cells arr T fz)))
    (hr : ∀ ρ', ρ'[Ω.length]? = some (some (w.heap.size, 0, arr.size)) → VR Im ρ' r y) : YieldsE P Im ρ Ω o act w r (newO Ω xs) false true :=
  ⟨_, y, _, _, hrun, .inl rfl, hr _ (new_loc hR _), alloc_step hR (by rcases hw with rfl | rfl <;> rfl) (by rcases hw with rfl | rfl <;> rfl) (by rcases hw with rfl | rfl <;> rfl) (by rcases hw with rfl | rfl <;> rfl) hf1 hf2 hx hs hc, fun _ => ⟨rfl, fun b hb => (by
    show (w1.heap.push _)[b]? = _
    have e : w1.heap = w.heap := by rcases hw with rfl | rfl <;> rfl
    rw [e, Array.getElem?_push_lt hb, Array.getElem?_eq_getElem hb])⟩⟩
theorem zero_fr : ((0, 0) : Nat × Nat).2 ≤ ((0, 0) : Nat × Nat).1 + 1 := by decide
theorem box_ok {P : Program} {o : Oper} {t : TypeId} {x : Operand} (ho : o.op = .box t x) {ax : AX} (hx : cx x = some ax) {Im : Imm} {ρ : List Loc} {Ω : List Obj} {w : World} (hR : Rel Im ρ Ω w) {e : Env} {act : Act} (hE : EnvOK Im ρ e act) {r : AV} {Ω' : List Obj} {d : Bool} (h : ae e Ω (.box ax) = some (r, Ω', d)) :
    YieldsE P Im ρ Ω o act w r Ω' d true := by
  simp only [ae, Option.bind_eq_some_iff] at h
  obtain ⟨a, ha, h⟩ := h
  split at h
  · rename_i hat
    cases h
    have hcv := (ev_ok hE hx ha).cv hat
    refine new_yields (y := .pointer (some ⟨w.heap.size, 0, none⟩)) hR (.inl rfl) zero_fr (by simp) (all_mem hat) (Nat.le_of_eq hcv.1) (fun i a hi => hcv.at hi) (T := t) (fz := (0, 0)) ?_ (fun ρ' hl => .ptr _ _ _ hl)
    simp only [execOp, ho]
    exact do_val (by simp [Instr.box, newVar, newRow])
  · cases h
theorem alloc_ok {P : Program} {o : Oper} {t : TypeId} (ho : o.op = .alloc t) {z : List AV} (hz : cz P t = some z) {Im : Imm} {ρ : List Loc} {Ω : List Obj} {w : World} (hR : Rel Im ρ Ω w) {e : Env} {act : Act} {r : AV} {Ω' : List Obj} {d : Bool} (h : ae e Ω (.alloc z) = some (r, Ω', d)) :
    YieldsE P Im ρ Ω o act w r Ω' d true := by
  simp only [ae] at h
  cases h
  obtain ⟨i, v, hi, hv, hcv, hat, hfl⟩ := cz_ok hz Im ρ
  refine new_yields (y := .pointer (some ⟨w.heap.size, 0, none⟩)) hR (.inl rfl) zero_fr (by simp) hat (Nat.le_of_eq hcv.1) (fun i a hi => hcv.at hi) (T := t) (fz := (0, 0)) ?_ (fun ρ' hl => .ptr _ _ _ hl)
  simp only [execOp, ho]
  exact do_val (by simp [Instr.alloc, newVar, newRow, zeroValue, typeInfo, hi, hv])
theorem fillL_atoms : ∀ (as : List (Nat × Nat × AV)) (zero cs : List AV), fillL zero as = some cs → (∀ a ∈ zero, atom a = true) → ∀ a ∈ cs, atom a = true
  | [], zero, cs, h, hz => by cases h; exact hz
  | (off, size, x) :: as, zero, cs, h, hz => by
    simp only [fillL] at h
    split at h
    · rename_i hc
      refine fillL_atoms as _ cs h fun a ha => ?_
      obtain ⟨i, hi⟩ := List.mem_iff_getElem?.1 ha
      rw [putL_get _ _ _ _ (by omega)] at hi
      split at hi
      · exact List.all_eq_true.1 hc.2.2 _ (List.mem_of_getElem? hi)
      · exact hz _ (List.mem_of_getElem? hi)
    · cases h
theorem fillL_length : ∀ (as : List (Nat × Nat × AV)) (zero cs : List AV), fillL zero as = some cs → cs.length = zero.length
  | [], zero, cs, h => by cases h; rfl
  | (off, size, x) :: as, zero, cs, h => by
    simp only [fillL] at h
    split at h
    · rw [fillL_length as _ cs h, putL_length]
    · cases h
theorem size_info {P : Program} {t : TypeId} {n : Nat} (h : sizeT P t = some n) : ∃ i, P.info? t = some i ∧ i.size = n := by
  simp only [sizeT, Option.map_eq_some_iff] at h
  exact h
theorem row_ok {P : Program} {o : Oper} {t : TypeId} {len : Nat} {parts : Array (Nat × Operand)} (ho : o.op = .buildSlice t len parts) {ao : AO} (hc : compOp P o = some ao) {Im : Imm} {ρ : List Loc} {Ω : List Obj} {w : World} (hR : Rel Im ρ Ω w) {e : Env} {act : Act} (hE : EnvOK Im ρ e act) {r : AV} {Ω' : List Obj} {d : Bool} (h : ae e Ω ao = some (r, Ω', d)) :
    YieldsE P Im ρ Ω o act w r Ω' d true := by
  simp only [compOp, ho, Option.bind_eq_some_iff] at hc
  obtain ⟨td, hd, hc⟩ := hc
  split at hc
  case h_2 => cases hc
  rename_i el
  simp only [Option.bind_eq_some_iff] at hc
  obtain ⟨n, hn, z, hz, hc⟩ := hc
  split at hc
  case isFalse => cases hc
  rename_i hb
  obtain ⟨b1, b2, b3⟩ := hb
  simp only [Option.bind_eq_some_iff] at hc
  obtain ⟨ps, hps, hc⟩ := hc
  cases hc
  simp only [ae, Option.bind_eq_some_iff] at h
  obtain ⟨as, has, cs, hcs, h⟩ := h
  cases h
  obtain ⟨i, v, hi, hv, hcv, hat, hfl⟩ := cz_ok hz Im ρ
  obtain ⟨i', hi', hin⟩ := size_info hn
  rw [hi] at hi'
  cases hi'
  have hreps := reps_cv hcv (by omega) len
  obtain ⟨arr, hfill, hcv2⟩ := fill_ok hE (fun i => some (i * n, n)) _ _ _ _ _ _ hps has hcs hreps
  have hl := fillL_length _ _ _ hcs
  have hl2 := hcv2.1
  rw [reps_length] at hl
  refine new_yields (y := .slice (some ⟨w.heap.size, 0, none⟩) len len) hR (.inl rfl) zero_fr (by simp) (fillL_atoms _ _ _ hcs (reps_mem hat len)) (Nat.le_of_eq hcv2.1) (fun i a hi => hcv2.at hi) (T := el) (fz := (0, 0)) ?_ (fun ρ' hl' => VR.viewAt _ _ _ len _ hl' (Nat.le_refl _) (fun m hm => by cases hm; rfl) (by rw [← hl2, hl, b2]; omega) (fun hm => by cases hm) rfl)
  simp only [execOp, ho]
  refine do_val ?_
  have hle : ¬ (len * i.size > 2 ^ 24) := by rw [hin]; omega
  have hfill' : ∀ zz : Array Value, (len * i.size = 0 ∨ zz = v.cells) → Instr.fill (fun j => some (j * i.size, i.size)) ((Array.range (len * i.size)).map (zz[· % zz.size]!)) (parts.map fun (i, x) => (i, act.eval x)).toList = some arr := fun zz hzz => by
    rw [Array.toList_map, hin]
    have e : ((Array.range (len * n)).map (zz[· % zz.size]!)) = (Array.range (len * z.length)).map (v.cells[· % v.cells.size]!) := by
      rw [b2]
      rcases hzz with h0 | h0
      · rw [hin] at h0
        rw [h0, Array.range_zero']
        simp
      · rw [h0]
    rw [e]
    exact hfill
  unfold Instr.buildSlice
  by_cases h0 : len * i.size = 0
  · have hf := hfill' #[] (.inl h0)
    simp only [Sem.run_bind, run_underlying hd, Result.andThen_ok, sizeOf, typeInfo, run_program, hi, Sem.run_pure, hle, if_false, if_pos h0, hf, newRow, run_newObj]
    rfl
  · have hf := hfill' v.cells (.inr rfl)
    simp only [Sem.run_bind, run_underlying hd, Result.andThen_ok, sizeOf, typeInfo, zeroValue, run_program, hi, hv, Sem.run_pure, hle, if_false, if_neg h0, hf, newRow, run_newObj]
    rfl
theorem mks_ok {P : Program} {o : Oper} {t : TypeId} {l c : Operand} (ho : o.op = .makeSlice t l c) {ao : AO} (hc : compOp P o = some ao) {Im : Imm} {ρ : List Loc} {Ω : List Obj} {w : World} (hR : Rel Im ρ Ω w) {e : Env} {act : Act} (hE : EnvOK Im ρ e act) {r : AV} {Ω' : List Obj} {d : Bool} (h : ae e Ω ao = some (r, Ω', d)) :
    YieldsE P Im ρ Ω o act w r Ω' d true := by
  simp only [compOp, ho, Option.bind_eq_some_iff] at hc
  obtain ⟨al, hal, ac, hac, td, hd, hc⟩ := hc
  split at hc
  case h_2 => cases hc
  rename_i el
  simp only [Option.bind_eq_some_iff] at hc
  obtain ⟨i, hi, z, hz, hc⟩ := hc
  split at hc
  case isFalse => cases hc
  rename_i hb
  cases hc
  simp only [ae, Option.bind_eq_some_iff] at h
  obtain ⟨vl, hvl, vc, hvc, il, hil, ic, hic, h⟩ := h
  split at h
  case isFalse => cases h
  rename_i hq
  obtain ⟨q1, q2, q3, q4⟩ := hq
  cases h
  obtain ⟨i', v, hi', hv, hcv, hat, hfl⟩ := cz_ok hz Im ρ
  rw [hi] at hi'
  cases hi'
  obtain ⟨kl, hkl⟩ := asI_ok hil (ev_ok hE hal hvl)
  obtain ⟨kc, hkc⟩ := asI_ok hic (ev_ok hE hac hvc)
  have hreps := reps_cv hcv (by omega) ic.toNat
  have hmade : madeCells v.cells (ic.toNat * i.size) = (Array.range (ic.toNat * z.length)).map (v.cells[· % v.cells.size]!) := by rw [hb.2]; rfl
  rw [← hmade] at hreps
  have hbytes : (i.bytes : Int) * ic ≤ 281474976710656 := by
    have e1 : ic = (ic.toNat : Int) := by omega
    have e2 : ((ic.toNat * i.bytes : Nat) : Int) ≤ 140737488355328 := by omega
    rw [Int.mul_comm, e1, ← Int.natCast_mul]
    omega
  refine new_yields (y := .slice (some ⟨w.heap.size, 0, none⟩) il.toNat ic.toNat) hR (.inl rfl) zero_fr (by simp) (reps_mem hat _) (Nat.le_of_eq hreps.1) (fun i a hi => hreps.at hi) (T := el) (fz := (0, 0)) ?_ (fun ρ' hl' => VR.viewAt _ _ _ ic.toNat _ hl' (by omega) (fun m hm => by cases hm; rfl) (by rw [size_madeCells]; omega) (fun hm => by cases hm) rfl)
  simp only [execOp, ho, hkl, hkc]
  exact do_val (run_make w t el i v hd hi hv kl kc il ic q1 q2 hbytes (by omega))
theorem cvsb_ok {P : Program} {o : Oper} {s dt el : TypeId} {x : Operand} (ho : o.op = .convert s dt x) (hs : P.underlying s = some .string) (hd : P.underlying dt = some (.slice el)) (he : u8T P el = true) {ax : AX} (hx : cx x = some ax) {Im : Imm} {ρ : List Loc} {Ω : List Obj} {w : World} (hR : Rel Im ρ Ω w) {e : Env} {act : Act} (hE : EnvOK Im ρ e act) {r : AV} {Ω' : List Obj} {d : Bool} (h : ae e Ω (.cvsb ax) = some (r, Ω', d)) :
    YieldsE P Im ρ Ω o act w r Ω' d true := by
  simp only [ae, Option.bind_eq_some_iff] at h
  obtain ⟨a, ha, h⟩ := h
  split at h
  · rename_i st
    cases h
    have hv := (ev_ok hE hx ha).inv_v
    have hg := grownCap_ge w st.size 0 el
    have hsz : (bytesRow st (grownCap w st.size 0 el)).size = grownCap w st.size 0 el := by simp [bytesRow]; omega
    refine new_yields (y := .slice (some ⟨w.heap.size, 0, none⟩) st.size (grownCap w st.size 0 el)) hR (.inr rfl) (Nat.le_refl _) (fun _ => Nat.le_refl _) (fun a ha => ?_) ?_ (fun i a hi => ?_) (T := el) (fz := ((bytesRow st (grownCap w st.size 0 el)).size, (bytesRow st (grownCap w st.size 0 el)).size + 1)) ?_ (fun ρ' hl' => VR.viewAt _ _ _ (grownCap w st.size 0 el) _ hl' hg (fun m hm => by cases hm) (by omega) (fun hm => by omega) rfl)
    · simp only [strCells, List.mem_map] at ha
      obtain ⟨b, _, rfl⟩ := ha
      rfl
    · rw [hsz]
      simpa [strCells] using hg
    · simp only [strCells, List.getElem?_map, Option.map_eq_some_iff] at hi
      obtain ⟨b, hb, rfl⟩ := hi
      refine ⟨_, ?_, .v rfl⟩
      have hlt := (List.getElem?_eq_some_iff.1 hb).1
      rw [Array.length_toList] at hlt
      rw [Array.getElem?_toList] at hb
      unfold bytesRow
      rw [Array.getElem?_append_left (by simpa using hlt), Array.getElem?_map, hb]
      rfl
    · simp only [execOp, ho, hv]
      exact do_val (run_bytes_of_string w s dt el st hs hd (u8_under he))
  · cases h
theorem store_ok {P : Program} {o : Oper} {t : TypeId} {p x : Operand} (ho : o.op = .store t p x) {n : Nat} (hn : sizeT P t = some n) {ap ax : AX} (hp : cx p = some ap) (hx : cx x = some ax) {Im : Imm} {ρ : List Loc} {Ω : List Obj} {w : World} (hR : Rel Im ρ Ω w) {e : Env} {act : Act} (hE : EnvOK Im ρ e act) {r : AV} {Ω' : List Obj} {d : Bool} (h : ae e Ω (.store n ap ax) = some (r, Ω', d)) :
    YieldsE P Im ρ Ω o act w r Ω' d false := by
  simp only [ae, Option.bind_eq_some_iff, Option.map_eq_some_iff] at h
  obtain ⟨a, ha, b, hb, ⟨Ω1, d1⟩, hst, h⟩ := h
  cases h
  unfold aStore at hst
  split at hst
  · rename_i k off
    simp only [Option.bind_eq_some_iff] at hst
    obtain ⟨ob, hob, hst⟩ := hst
    split at hst
    · rename_i hq
      obtain ⟨q1, q2, q3⟩ := hq
      cases hst
      obtain ⟨hk, hl⟩ := getO_some hob
      have hcv := (ev_ok hE hx hb).cv q2
      generalize hu : act.eval p = u
      have hpu := ev_ok hE hp ha
      rw [hu] at hpu
      cases hpu with
      | ptr blk base s hr =>
        rcases hR.obj k ob hk hl with ⟨b', base', s', arr, T, fz, e1, e2, e3, e4, e5, e6, e7, f, e8, e9⟩ | ⟨e1, e2⟩
        · rw [hr] at e1
          cases e1
          refine ⟨.skip, undef, _, ρ, ?_, .inr ⟨rfl, rfl⟩, .dead, write_step hR hk hl hr e2 hcv q2 (by rw [q1]; exact q3), fun h => by cases h⟩
          have hsz : (act.eval x).cells.size = n := by rw [← hcv.1, q1]
          have := run_storeCells_put (P := P) (b := blk) (o := base + off) (vs := (act.eval x).cells) e2 (by rw [e5]; exact e4) (by rw [e5]; omega) (hcv.one (all_mem q2))
          simp only [execOp, ho, hu, Instr.storeAt, Instr.sureAddr, storeVar, pure_bind, Sem.run_bind, run_sizeOf' hn, Result.andThen_ok, hsz, ne_eq, not_true_eq_false, if_false, this, Sem.run_pure]
        · rw [hr] at e1
          cases e1
    · cases hst
  · cases hst
end Go.Proofs.Ytkaigdfklihlcaa.Sym
