/- The law BusRuns: what its loops do. -/
import Derived.Test.YthmmgpdniijkeaaBAct2
namespace Go.Proofs.Ythmmgpdniijkeaa.Bus
open Go Go.Proofs.Ythmmgpdniijkeaa.Sym Go.Proofs.Ythmmgpdniijkeaa.Tab Go.Proofs.Ythmmgpdniijkeaa.Args
set_option linter.unusedVariables false
set_option linter.unusedSimpArgs false
set_option maxHeartbeats 8000000
set_option maxRecDepth 20000
def Good (l : List Pc) : Prop := l.length ≤ 64 ∧ ∀ p ∈ l, p.b.size ≤ 255 ∧ 0 ≤ p.to ∧ p.to ≤ 4294967295
theorem Good.inn {b : Bs} (h : Good b.l) : b.In := ⟨h.1, fun p hp => (h.2 p hp).1⟩
theorem Good.ref {l : List Pc} {f : Bool} (h : Good l) : (⟨l, 0, f⟩ : Bs).Ref := ⟨⟨h.1, fun p hp => (h.2 p hp).1⟩, rfl, fun p hp => (h.2 p hp).2⟩
/-- What comes, and what stays, does not hang on the places behind. -/
theorem act_same (b : Bs) (a : Ac) : (b.act a).1 = ((⟨b.l, 0, b.fault⟩ : Bs).act a).1 ∧ (b.act a).2.l = ((⟨b.l, 0, b.fault⟩ : Bs).act a).2.l ∧ (b.act a).2.fault = ((⟨b.l, 0, b.fault⟩ : Bs).act a).2.fault := by
  have ht : ∀ i, (⟨b.l, 0, b.fault⟩ : Bs).there i = b.there i := fun _ => rfl
  have hg : ∀ i, (⟨b.l, 0, b.fault⟩ : Bs).get i = b.get i := fun _ => rfl
  have hadd : ∀ p, (b.add p).1 = ((⟨b.l, 0, b.fault⟩ : Bs).add p).1 ∧ (b.add p).2.l = ((⟨b.l, 0, b.fault⟩ : Bs).add p).2.l ∧ (b.add p).2.fault = ((⟨b.l, 0, b.fault⟩ : Bs).add p).2.fault := fun p => by
    unfold Bs.add
    simp only
    split <;> exact ⟨rfl, rfl, rfl⟩
  have hsend : ∀ x s, (b.send x s).1 = ((⟨b.l, 0, b.fault⟩ : Bs).send x s).1 ∧ (b.send x s).2.l = ((⟨b.l, 0, b.fault⟩ : Bs).send x s).2.l ∧ (b.send x s).2.fault = ((⟨b.l, 0, b.fault⟩ : Bs).send x s).2.fault := fun x s => by
    unfold Bs.send
    split
    · exact hadd _
    · exact ⟨rfl, rfl, rfl⟩
  have hdel : ∀ x s, (b.deliver x s).1 = ((⟨b.l, 0, b.fault⟩ : Bs).deliver x s).1 ∧ (b.deliver x s).2.l = ((⟨b.l, 0, b.fault⟩ : Bs).deliver x s).2.l ∧ (b.deliver x s).2.fault = ((⟨b.l, 0, b.fault⟩ : Bs).deliver x s).2.fault := fun x s => by
    unfold Bs.deliver
    rw [ht, hg]
    split
    · split <;> exact ⟨rfl, rfl, rfl⟩
    · exact ⟨rfl, rfl, rfl⟩
  unfold Bs.act
  split
  · obtain ⟨h1, h2, h3⟩ := hsend a.f2 a.f4
    exact ⟨by rw [h1], h2, h3⟩
  · exact hdel _ _
  · obtain ⟨h1, h2, h3⟩ := hdel a.f1 a.f2
    exact ⟨by rw [h1], h2, h3⟩
  · unfold Bs.drop
    rw [ht]
    split <;> exact ⟨rfl, rfl, rfl⟩
  · unfold Bs.twice
    rw [ht, hg]
    split
    · obtain ⟨h1, h2, h3⟩ := hadd (b.get a.f1)
      exact ⟨by rw [h1], h2, h3⟩
    · exact ⟨rfl, rfl, rfl⟩
  · unfold Bs.burst
    rw [ht, hg]
    split
    · split <;> exact ⟨rfl, rfl, rfl⟩
    · exact ⟨rfl, rfl, rfl⟩
  · unfold Bs.cut
    rw [ht, hg]
    split
    · split
      · exact ⟨rfl, rfl, rfl⟩
      · split <;> exact ⟨rfl, rfl, rfl⟩
    · exact ⟨rfl, rfl, rfl⟩
theorem good_set {l : List Pc} (h : Good l) {q : Pc} (hq : q.b.size ≤ 255 ∧ 0 ≤ q.to ∧ q.to ≤ 4294967295) (k : Nat) : Good (l.set k q) := by
  refine ⟨by rw [List.length_set]; exact h.1, fun p hp => ?_⟩
  rcases List.mem_or_eq_of_mem_set hp with hp | rfl
  · exact h.2 p hp
  · exact hq
theorem good_erase {l : List Pc} (h : Good l) (k : Nat) : Good (l.eraseIdx k) :=
  ⟨Nat.le_trans (List.length_eraseIdx_le l k) h.1, fun p hp => h.2 p (List.mem_of_mem_eraseIdx hp)⟩
theorem good_add {b : Bs} (h : Good b.l) {q : Pc} (hq : q.b.size ≤ 255 ∧ 0 ≤ q.to ∧ q.to ≤ 4294967295) : Good (b.add q).2.l := by
  unfold Bs.add
  split
  · exact h
  · rename_i hc
    refine ⟨by show (b.l ++ [q]).length ≤ 64; simp; omega, fun p hp => ?_⟩
    rcases List.mem_append.1 hp with hp | hp
    · exact h.2 p hp
    · rw [List.mem_singleton.1 hp]; exact hq
theorem good_get {b : Bs} (h : Good b.l) {i : Int} (c : b.there i = true) : (b.get i).b.size ≤ 255 ∧ 0 ≤ (b.get i).to ∧ (b.get i).to ≤ 4294967295 := h.2 _ (get_mem c)
theorem good_deliver {b : Bs} (h : Good b.l) (x y : Int) : Good (b.deliver x y).2.l := by
  unfold Bs.deliver
  split
  · rename_i hc
    have hg := good_get h hc.1
    have hs : Good (b.l.set x.toNat ((b.get x).less y)) := good_set (q := (b.get x).less y) h ⟨hg.1, wo_range _ hg.2 y⟩ _
    dsimp only
    split
    · exact good_erase hs _
    · exact hs
  · exact h
theorem act_good {b : Bs} (h : Good b.l) {a : Ac} (ha : AcIn a) : Good (b.act a).2.l := by
  unfold Bs.act
  split
  · unfold Bs.send
    split
    · rename_i _ hc
      exact good_add h ⟨((okSend_iff _ _).1 hc).2.2.2, wo_range _ ⟨by decide, by decide⟩ _⟩
    · exact h
  · exact good_deliver h _ _
  · exact good_deliver h _ _
  · unfold Bs.drop
    split
    · exact good_erase h _
    · exact h
  · unfold Bs.twice
    split
    · rename_i _ hc
      exact good_add h (good_get h hc)
    · exact h
  · unfold Bs.burst
    split
    · rename_i _ hc
      have hg := good_get h hc
      split
      · exact h
      · exact good_set (q := (b.get a.f1).hit (Bus.burst (b.get a.f1).b a.f2 a.f3)) h ⟨by show (Bus.burst _ _ _).size ≤ 255; rw [burst_size]; exact hg.1, hg.2⟩ _
    · exact h
  · unfold Bs.cut
    split
    · rename_i _ hc
      have hg := good_get h hc
      split
      · exact h
      · split
        · exact h
        · refine good_set (q := (b.get a.f1).hit ((b.get a.f1).b.extract 0 (((b.get a.f1).b.size : Int) - a.f2).toNat)) h ⟨?_, hg.2⟩ _
          show ((b.get a.f1).b.extract 0 _).size ≤ 255
          rw [ByteArray.size_extract]
          omega
    · exact h
/-- The two buses, side by side. -/
def stO (n : Bool) (b : Bs) (fl : Bool) : List Sym.Obj :=
  if n = true then [⟨true, true, true, [.v (.slice none 0 0), .v (.bool b.fault)]⟩, ⟨true, true, fl, [.v (.slice none 0 0), .v (.bool b.fault)]⟩]
  else match b.l with
    | [] => [⟨true, true, false, [.view 2 0 0 4 none, .v (.bool b.fault)]⟩, ⟨true, true, fl, [.v (.slice none 0 0), .v (.bool b.fault)]⟩, ⟨true, true, true, pcs b.all⟩]
    | p :: r => [⟨true, true, false, [.view 2 0 (p :: r).length 4 none, .v (.bool b.fault)]⟩, ⟨true, true, false, [.view 3 0 (p :: r).length 4 none, .v (.bool b.fault)]⟩, ⟨true, true, true, pcs b.all⟩, ⟨true, true, true, pcs (p :: r)⟩]
def envR (L : List Ac) (i : Nat) : Env := [(3, .ptr 0 0), (4, .ptr 1 0), (26, .shr L.length false (L.flatMap S32.av)), (27, .v (.int .i64 L.length)), (28, .v (.int .i64 i))]
theorem acs_at : ∀ {L : List Ac} {i : Nat} (h : i < L.length), ((L.flatMap S32.av).drop (i * 5)).take 5 = L[i].av
  | x :: L, 0, h => by simp [S32.av]
  | x :: L, i + 1, h => by
    have := acs_at (L := L) (i := i) (by simpa using h)
    rw [List.flatMap_cons, show (i + 1) * 5 = x.av.length + i * 5 by simp [S32.av]; omega, ← List.drop_drop, List.drop_left, this]
    rfl
theorem acs_len (L : List Ac) : (L.flatMap S32.av).length = L.length * 5 := by
  induction L with
  | nil => rfl
  | cons x L ih => rw [List.flatMap_cons, List.length_append, ih, List.length_cons]; simp [S32.av]; omega
end Go.Proofs.Ythmmgpdniijkeaa.Bus
