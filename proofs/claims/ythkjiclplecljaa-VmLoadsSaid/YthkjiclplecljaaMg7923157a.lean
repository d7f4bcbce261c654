/- The abstract machine, step by step: equations for simp. -/
import Derived.ChangeArms
import Derived.SizedLaws
import Derived.OpenShut
import Derived.DataReads
import Derived.Below
import Derived.Carry
import Derived.Test.YthkjiclplecljaaMgf771d1cd
namespace Go.Proofs.Ythkjiclplecljaa.Sym
open Go
noncomputable section
set_option linter.unusedVariables false
set_option linter.unusedSimpArgs false

/-- What is still to be done. -/
inductive It where
  | c (b : AC)
  | b (id : Nat)
  | l (live : List Nat) (b : AC) (n : Nat)
section
variable (C : CT) (lf : Nat)
def contK : List It → AE → St → Option (AE × St)
  | [], x, s => some (x, s)
  | .c b :: ks, x, s => match x with
    | .normal => (aexec C lf b s).bind fun p => contK ks p.1 p.2
    | x => contK ks x s
  | .b id :: ks, x, s => match x with
    | .exit j => if j = id then contK ks .normal s else contK ks (.exit j) s
    | x => contK ks x s
  | .l live b n :: ks, x, s => match x with
    | .normal => (loopN (aexec C lf b) live n s).bind fun p => contK ks p.1 p.2
    | x => contK ks x s
def Go (c : AC) (ks : List It) (s : St) : Option (AE × St) := (aexec C lf c s).bind fun p => contK C lf ks p.1 p.2
def Nx (ks : List It) (s : St) : Option (AE × St) := contK C lf ks .normal s
def Rt (ks : List It) (s : St) : Option (AE × St) := contK C lf ks .ret s
def Xt (id : Nat) (ks : List It) (s : St) : Option (AE × St) := contK C lf ks (.exit id) s
def Cd (v : Option AV) (a b : AC) (ks : List It) (s : St) : Option (AE × St) := match v with
  | some (.v (.bool c)) => if c = true then Go C lf a ks s else Go C lf b ks s
  | _ => none
def Lp (live : List Nat) (b : AC) (n : Nat) (ks : List It) (s : St) : Option (AE × St) := (loopN (aexec C lf b) live n s).bind fun p => contK C lf ks p.1 p.2
/-- At a loop's head, renumbered. -/
def Lh (s : Option St) (live : List Nat) (b : AC) (n : Nat) (ks : List It) : Option (AE × St) := s.bind fun s => Go C lf b (.l live b n :: ks) s
def Op (os : List AOper) (ks : List It) (s : St) : Option (AE × St) := (aops C os s).bind fun s => Nx C lf ks s
def Op1 (g : Option Bool) (o : AOper) (os : List AOper) (ks : List It) (s : St) : Option (AE × St) := match g with
  | some true => (aop C s.env s.ob o.op).bind fun p => Op C lf os ks { s with env := put s.env o.dst p.1, ob := p.2.1, d := max s.d p.2.2 }
  | some false => Op C lf os ks { s with env := put s.env o.dst .dead }
  | none => none
def Op2 (r : Option (AV × List Obj × Nat)) (dst : Option Nat) (os : List AOper) (ks : List It) (s : St) : Option (AE × St) := r.bind fun p => Op C lf os ks { s with env := put s.env dst p.1, ob := p.2.1, d := max s.d p.2.2 }
/-- Quiet operations; behind them operations that may act. -/
def Qp (m : Nat) (os : List AOper) (e : Env) (tl : List AOper) (ks : List It) (s : St) : Option (AE × St) := (aopsQ C m s.ob os e).bind fun e => Op C lf tl ks { s with env := e, d := max s.d 1 }
def Qp1 (m : Nat) (g : Option Bool) (o : AOper) (os : List AOper) (e : Env) (tl : List AOper) (ks : List It) (s : St) : Option (AE × St) := match g with
  | some true => (aopQ C m e s.ob o.op).bind fun a => Qp C lf m os (put e o.dst a) tl ks s
  | some false => Qp C lf m os (put e o.dst .dead) tl ks s
  | none => none
def Qp2 (r : Option AV) (m : Nat) (dst : Option Nat) (os : List AOper) (e : Env) (tl : List AOper) (ks : List It) (s : St) : Option (AE × St) := r.bind fun a => Qp C lf m os (put e dst a) tl ks s

/-- Operations in an order in which they may be taken. -/
def Om (os : List (QK × AOper)) (ks : List It) (s : St) : Option (AE × St) := (aopsM C os s).bind fun s => Nx C lf ks s
def Om1 (g : Option Bool) (q : QK) (o : AOper) (os : List (QK × AOper)) (ks : List It) (s : St) : Option (AE × St) := match g with
  | some true => (aopM C s.env s.ob q o.op).bind fun p => Om C lf os ks { s with env := put s.env o.dst p.1, ob := p.2.1, d := max s.d p.2.2 }
  | some false => Om C lf os ks { s with env := put s.env o.dst .dead }
  | none => none
def Om2 (r : Option (AV × List Obj × Nat)) (dst : Option Nat) (os : List (QK × AOper)) (ks : List It) (s : St) : Option (AE × St) := r.bind fun p => Om C lf os ks { s with env := put s.env dst p.1, ob := p.2.1, d := max s.d p.2.2 }
def Ot (r : Option St) (ks : List It) : Option (AE × St) := r.bind fun s => Nx C lf ks s
def Ot1 (g : Option Bool) (q : QK) (o : AOper) (t : AT) (s : St) : Option St := match g with
  | some true => (aopM C s.env s.ob q o.op).bind fun p => aexecT C t { s with env := put s.env o.dst p.1, ob := p.2.1, d := max s.d p.2.2 }
  | some false => aexecT C t { s with env := put s.env o.dst .dead }
  | none => none
def Ot2 (r : Option (AV × List Obj × Nat)) (dst : Option Nat) (t : AT) (s : St) : Option St := r.bind fun p => aexecT C t { s with env := put s.env dst p.1, ob := p.2.1, d := max s.d p.2.2 }
def Ot3 (r r' : Option St) (ds : List Nat) : Option St := r.bind fun r => r'.bind fun r' => if r.ob = r'.ob ∧ r.d = r'.d ∧ r.rt = r'.rt ∧ agreeK ds r.env r'.env then some r else none
variable {C : CT} {lf : Nat} {ks : List It} {s : St}
theorem go_skip : Go C lf .skip ks s = Nx C lf ks s := (rfl)
theorem go_ret : Go C lf .ret ks s = Rt C lf ks s := (rfl)
theorem go_exit {id : Nat} : Go C lf (.exit id) ks s = Xt C lf id ks s := (rfl)
theorem go_seq {a b : AC} : Go C lf (.seq a b) ks s = Go C lf a (.c b :: ks) s := by
  unfold Sym.Go
  rw [aexec]
  cases aexec C lf a s with
  | none => rfl
  | some p => obtain ⟨x, s'⟩ := p; cases x <;> rfl
theorem go_cond {x : AX} {a b : AC} : Go C lf (.cond x a b) ks s = Cd C lf (ev s.env x) a b ks s := by
  unfold Sym.Go Cd
  rw [aexec]
  cases ev s.env x with
  | none => rfl
  | some v =>
    rw [Option.bind_some]
    split
    · rename_i c
      cases c <;> rfl
    · rename_i h
      split
      · rename_i c hc
        cases hc
        exact absurd rfl (h c)
      · rfl
theorem cd_bool {c : Bool} {a b : AC} : Cd C lf (some (.v (.bool c))) a b ks s = if c = true then Go C lf a ks s else Go C lf b ks s := (rfl)
theorem cd_true {a b : AC} : Cd C lf (some (.v (.bool true))) a b ks s = Go C lf a ks s := (rfl)
theorem cd_false {a b : AC} : Cd C lf (some (.v (.bool false))) a b ks s = Go C lf b ks s := (rfl)
theorem go_block {id : Nat} {b : AC} : Go C lf (.block id b) ks s = Go C lf b (.b id :: ks) s := by
  unfold Sym.Go
  rw [aexec]
  cases aexec C lf b s with
  | none => rfl
  | some p =>
    obtain ⟨x, s'⟩ := p
    cases x with
    | exit j =>
      simp only [Option.bind_some, contK]
      split <;> rfl
    | _ => rfl
theorem go_loop {live : List Nat} {b : AC} : Go C lf (.loop live b) ks s = Lp C lf live b lf ks s := (rfl)
theorem lp_succ {live : List Nat} {b : AC} {n : Nat} : Lp C lf live b (n + 1) ks s = Lh C lf (canon live s) live b n ks := by
  unfold Lp Lh Sym.Go
  rw [loopN]
  cases canon live s with
  | none => rfl
  | some s1 =>
    rw [Option.bind_some, Option.bind_some]
    cases aexec C lf b s1 with
    | none => rfl
    | some p => obtain ⟨x, s'⟩ := p; cases x <;> rfl
theorem lh_some {live : List Nat} {b : AC} {n : Nat} : Lh C lf (some s) live b n ks = Go C lf b (.l live b n :: ks) s := (rfl)
theorem lh_as {live : List Nat} {b b' : AC} {n : Nat} (h : b = b') : Lh C lf (some s) live b n ks = Go C lf b' (.l live b n :: ks) s := by subst h; rfl
theorem go_as {b b' : AC} (h : b = b') : Go C lf b ks s = Go C lf b' ks s := by subst h; rfl
theorem go_drop {l : List Nat} : Go C lf (.drop l) ks s = Nx C lf ks (frzT l { s with env := dropR l s.env }) := (rfl)
theorem nx_nil : Nx C lf [] s = some (.normal, s) := (rfl)
theorem nx_c {b : AC} : Nx C lf (.c b :: ks) s = Go C lf b ks s := (rfl)
theorem nx_b {id : Nat} : Nx C lf (.b id :: ks) s = Nx C lf ks s := (rfl)
theorem nx_l {live : List Nat} {b : AC} {n : Nat} : Nx C lf (.l live b n :: ks) s = Lp C lf live b n ks s := (rfl)
theorem rt_nil : Rt C lf [] s = some (.ret, s) := (rfl)
theorem rt_c {b : AC} : Rt C lf (.c b :: ks) s = Rt C lf ks s := (rfl)
theorem rt_b {id : Nat} : Rt C lf (.b id :: ks) s = Rt C lf ks s := (rfl)
theorem rt_l {live : List Nat} {b : AC} {n : Nat} : Rt C lf (.l live b n :: ks) s = Rt C lf ks s := (rfl)
theorem xt_c {j : Nat} {b : AC} : Xt C lf j (.c b :: ks) s = Xt C lf j ks s := (rfl)
theorem xt_b {j id : Nat} : Xt C lf j (.b id :: ks) s = if j = id then Nx C lf ks s else Xt C lf j ks s := (rfl)
theorem xt_l {j : Nat} {live : List Nat} {b : AC} {n : Nat} : Xt C lf j (.l live b n :: ks) s = Xt C lf j ks s := (rfl)
theorem go_reg {os : List AOper} : Go C lf (.reg os) ks s = Op C lf os ks s := by
  unfold Sym.Go Op
  rw [aexec]
  cases aops C os s <;> rfl
theorem go_regm {os : List (QK × AOper)} : Go C lf (.regm os) ks s = Om C lf os ks { s with d := max s.d 1 } := by
  unfold Sym.Go Om
  rw [aexec]
  cases aopsM C os { s with d := max s.d 1 } <;> rfl
theorem om_nil : Om C lf [] ks s = Nx C lf ks s := (rfl)
theorem om_cons {q : QK} {o : AOper} {os : List (QK × AOper)} : Om C lf ((q, o) :: os) ks s = Om1 C lf (wants s.env o.g) q o os ks s := by
  unfold Om Om1
  rw [aopsM]
  cases wants s.env o.g with
  | none => rfl
  | some b =>
    cases b with
    | true =>
      simp only [Option.bind_some, if_true]
      cases aopM C s.env s.ob q o.op with
      | none => rfl
      | some p => rfl
    | false => rfl
theorem om1_true {q : QK} {o : AOper} {os : List (QK × AOper)} : Om1 C lf (some true) q o os ks s = Om2 C lf (aopM C s.env s.ob q o.op) o.dst os ks s := (rfl)
theorem om1_false {q : QK} {o : AOper} {os : List (QK × AOper)} : Om1 C lf (some false) q o os ks s = Om C lf os ks { s with env := put s.env o.dst .dead } := (rfl)
theorem om2_some {a : AV} {Ω : List Obj} {d : Nat} {dst : Option Nat} {os : List (QK × AOper)} : Om2 C lf (some (a, Ω, d)) dst os ks s = Om C lf os ks { s with env := put s.env dst a, ob := Ω, d := max s.d d } := (rfl)
theorem aopM_call {e : Env} {Ω : List Obj} {f : AX} {xs : List AX} : aopM C e Ω .m (.call f xs) = (ev e f).bind fun f => (evs e xs).bind fun as => aCallM C Ω f as := (rfl)
theorem aopM_false {e : Env} {Ω : List Obj} {o : AO} : aopM C e Ω .o o = aop C e Ω o := (rfl)
theorem go_regx {t : AT} : Go C lf (.regx t) ks s = Ot C lf (aexecT C t { s with d := max s.d 1 }) ks := by
  unfold Sym.Go Ot
  rw [aexec]
  cases aexecT C t { s with d := max s.d 1 } <;> rfl
theorem ot_some {s : St} : Ot C lf (some s) ks = Nx C lf ks s := (rfl)
theorem at_nil : aexecT C .nil s = some s := (rfl)
theorem at_op {q : QK} {o : AOper} {t : AT} : aexecT C (.op q o t) s = Ot1 C (wants s.env o.g) q o t s := by
  unfold Ot1
  rw [aexecT]
  cases wants s.env o.g with
  | none => rfl
  | some b => cases b <;> rfl
theorem at_alt {a b : AT} : aexecT C (.alt a b) s = Ot3 (aexecT C a s) (aexecT C b s) (dstsT a ++ dstsT b) := (rfl)
theorem ot1_true {q : QK} {o : AOper} {t : AT} : Ot1 C (some true) q o t s = Ot2 C (aopM C s.env s.ob q o.op) o.dst t s := (rfl)
theorem ot1_false {q : QK} {o : AOper} {t : AT} : Ot1 C (some false) q o t s = aexecT C t { s with env := put s.env o.dst .dead } := (rfl)
theorem ot2_some {a : AV} {Ω : List Obj} {d : Nat} {dst : Option Nat} {t : AT} : Ot2 C (some (a, Ω, d)) dst t s = aexecT C t { s with env := put s.env dst a, ob := Ω, d := max s.d d } := (rfl)
theorem ot3_some {r r' : St} {ds : List Nat} : Ot3 (some r) (some r') ds = if r.ob = r'.ob ∧ r.d = r'.d ∧ r.rt = r'.rt ∧ agreeK ds r.env r'.env then some r else none := (rfl)
theorem aopM_f {e : Env} {Ω : List Obj} {f : AX} {xs : List AX} : aopM C e Ω .f (.call f xs) = (ev e f).bind fun f => (evs e xs).bind fun as => (aCallF C Ω f as).map fun a => (a, Ω, 0) := (rfl)
theorem aopM_s {e : Env} {Ω : List Obj} {o : AO} : aopM C e Ω .s o = (aopQ C 0 e Ω o).map fun a => (a, Ω, 0) := (rfl)
theorem op_nil : Op C lf [] ks s = Nx C lf ks s := (rfl)
theorem op_cons {o : AOper} {os : List AOper} : Op C lf (o :: os) ks s = Op1 C lf (wants s.env o.g) o os ks s := by
  unfold Op Op1
  rw [aops]
  cases wants s.env o.g with
  | none => rfl
  | some b =>
    cases b with
    | true =>
      simp only [Option.bind_some, if_true]
      cases aop C s.env s.ob o.op with
      | none => rfl
      | some p => rfl
    | false => rfl
theorem op1_true {o : AOper} {os : List AOper} : Op1 C lf (some true) o os ks s = Op2 C lf (aop C s.env s.ob o.op) o.dst os ks s := (rfl)
theorem op1_false {o : AOper} {os : List AOper} : Op1 C lf (some false) o os ks s = Op C lf os ks { s with env := put s.env o.dst .dead } := (rfl)
theorem op2_some {a : AV} {Ω : List Obj} {d : Nat} {dst : Option Nat} {os : List AOper} : Op2 C lf (some (a, Ω, d)) dst os ks s = Op C lf os ks { s with env := put s.env dst a, ob := Ω, d := max s.d d } := (rfl)
theorem go_regq {os : List AOper} : Go C lf (.regq os) ks s = Qp C lf 1 os s.env [] ks s := by
  unfold Sym.Go Qp
  rw [aexec]
  cases aopsQ C 1 s.ob os s.env <;> rfl
theorem go_regt {n : Nat} {os : List AOper} : Go C lf (.regt n os) ks s = Qp C lf 0 (os.take n) s.env (os.drop n) ks s := by
  unfold Sym.Go Qp Op
  rw [aexec]
  cases aopsQ C 0 s.ob (os.take n) s.env with
  | none => rfl
  | some e =>
    simp only [Option.bind_some]
    cases aops C (os.drop n) { s with env := e, d := max s.d 1 } <;> rfl
theorem qp_nil {m : Nat} {e : Env} {tl : List AOper} : Qp C lf m [] e tl ks s = Op C lf tl ks { s with env := e, d := max s.d 1 } := (rfl)
theorem qp_cons {m : Nat} {o : AOper} {os : List AOper} {e : Env} {tl : List AOper} : Qp C lf m (o :: os) e tl ks s = Qp1 C lf m (wants e o.g) o os e tl ks s := by
  unfold Qp Qp1
  rw [aopsQ]
  cases wants e o.g with
  | none => rfl
  | some b =>
    cases b with
    | true =>
      simp only [Option.bind_some, if_true]
      cases aopQ C m e s.ob o.op <;> rfl
    | false => rfl
theorem qp1_true {m : Nat} {o : AOper} {os : List AOper} {e : Env} {tl : List AOper} : Qp1 C lf m (some true) o os e tl ks s = Qp2 C lf (aopQ C m e s.ob o.op) m o.dst os e tl ks s := (rfl)
theorem qp1_false {m : Nat} {o : AOper} {os : List AOper} {e : Env} {tl : List AOper} : Qp1 C lf m (some false) o os e tl ks s = Qp C lf m os (put e o.dst .dead) tl ks s := (rfl)
theorem qp2_some {a : AV} {m : Nat} {dst : Option Nat} {os : List AOper} {e : Env} {tl : List AOper} : Qp2 C lf (some a) m dst os e tl ks s = Qp C lf m os (put e dst a) tl ks s := (rfl)
/-- A region with one that writes, step by step. -/
def SxA (C : CT) (lf : Nat) (n m : Nat) (a x : AX) (ops : List AOper) (r : Option Env) (ks : List It) (s : St) : Option (AE × St) := r.bind fun e0 => (aStK C n m a x ops s e0).bind fun s' => Nx C lf ks s'
def SxB (C : CT) (lf : Nat) (n m : Nat) (a x : AX) (ops : List AOper) (a0 : Option AV) (ks : List It) (s : St) : Option (AE × St) := (a0.bind fun a0 => match a0 with
    | .ptr k _ => (getO s.ob k).bind fun o => aStX C n m a x ops s k o
    | _ => none).bind fun s' => Nx C lf ks s'
def SxC (C : CT) (lf : Nat) (n m : Nat) (a x : AX) (ops : List AOper) (k : Nat) (o : Option Obj) (ks : List It) (s : St) : Option (AE × St) := (o.bind fun o => aStX C n m a x ops s k o).bind fun s' => Nx C lf ks s'
def SxD (C : CT) (lf : Nat) (n m : Nat) (a x : AX) (ops : List AOper) (k : Nat) (Ωk : List Obj) (r : Option Env) (ks : List It) (s : St) : Option (AE × St) := (r.bind fun e1 => (ev e1 a).bind fun a1 => (ev e1 x).bind fun x1 => match a1 with
    | .ptr k' off => if k' = k then (aStore s.ob m (.ptr k' off) x1).bind fun p => (aopsQ C 1 Ωk (ops.drop (n + 1)) e1).map fun e2 => { s with env := e2, ob := p.1, d := max s.d (lev p.2) } else none
    | _ => none).bind fun s' => Nx C lf ks s'
def SxE (C : CT) (lf : Nat) (st : Option (List Obj × Bool)) (r : Option Env) (ks : List It) (s : St) : Option (AE × St) := (st.bind fun p => r.map fun e2 => { s with env := e2, ob := p.1, d := max s.d (lev p.2) }).bind fun s' => Nx C lf ks s'
def SxO (C : CT) (lf : Nat) (o : Option AOper) (n : Nat) (ops : List AOper) (ks : List It) (s : St) : Option (AE × St) := match o with
  | some ⟨none, none, .store m a x⟩ => SxA C lf n m a x ops (aopsQ C 1 s.ob (ops.take n) s.env) ks s
  | _ => none
theorem go_regs {n : Nat} {ops : List AOper} : Go C lf (.regs n ops) ks s = SxO C lf ops[n]? n ops ks s := by
  unfold Sym.Go SxO
  rw [aexec, aexecS]
  split
  · rename_i m a x h
    rw [h]
    simp only
    unfold SxA
    cases aopsQ C 1 s.ob (ops.take n) s.env with
    | none => rfl
    | some e0 =>
      simp only [Option.bind_some]
      cases aStK C n m a x ops s e0 <;> rfl
  · rename_i h
    split
    · rename_i m a x h2
      exact absurd h2 (h m a x)
    · rfl
theorem sxO {n m : Nat} {a x : AX} {ops : List AOper} : SxO C lf (some ⟨none, none, .store m a x⟩) n ops ks s = SxA C lf n m a x ops (aopsQ C 1 s.ob (ops.take n) s.env) ks s := (rfl)
theorem sxA {n m : Nat} {a x : AX} {ops : List AOper} {e0 : Env} : SxA C lf n m a x ops (some e0) ks s = SxB C lf n m a x ops (ev e0 a) ks s := (rfl)
theorem sxB {n m : Nat} {a x : AX} {ops : List AOper} {k off : Nat} : SxB C lf n m a x ops (some (.ptr k off)) ks s = SxC C lf n m a x ops k (getO s.ob k) ks s := (rfl)
theorem sxC {n m : Nat} {a x : AX} {ops : List AOper} {k : Nat} {o : Obj} : SxC C lf n m a x ops k (some o) ks s = SxD C lf n m a x ops k (kill s.ob k o) (aopsQ C 1 (kill s.ob k o) (ops.take n) s.env) ks s := (rfl)
def SxF (C : CT) (lf : Nat) (n m : Nat) (a1 x1 : Option AV) (ops : List AOper) (k : Nat) (Ωk : List Obj) (e1 : Env) (ks : List It) (s : St) : Option (AE × St) := (a1.bind fun a1 => x1.bind fun x1 => match a1 with
    | .ptr k' off => if k' = k then (aStore s.ob m (.ptr k' off) x1).bind fun p => (aopsQ C 1 Ωk (ops.drop (n + 1)) e1).map fun e2 => { s with env := e2, ob := p.1, d := max s.d (lev p.2) } else none
    | _ => none).bind fun s' => Nx C lf ks s'
theorem sxD {n m : Nat} {a x : AX} {ops : List AOper} {k : Nat} {Ωk : List Obj} {e1 : Env} : SxD C lf n m a x ops k Ωk (some e1) ks s = SxF C lf n m (ev e1 a) (ev e1 x) ops k Ωk e1 ks s := (rfl)
theorem sxF {n m : Nat} {ops : List AOper} {k off : Nat} {Ωk : List Obj} {e1 : Env} {x1 : AV} : SxF C lf n m (some (.ptr k off)) (some x1) ops k Ωk e1 ks s = SxE C lf (aStore s.ob m (.ptr k off) x1) (aopsQ C 1 Ωk (ops.drop (n + 1)) e1) ks s := by
  unfold SxF SxE
  simp only [Option.bind_some, if_true]
theorem sxE {Ω : List Obj} {b : Bool} {e2 : Env} : SxE C lf (some (Ω, b)) (some e2) ks s = Nx C lf ks { s with env := e2, ob := Ω, d := max s.d (lev b) } := (rfl)
/-- Quiet operations, step by step. -/
def Qq1 (C : CT) (m : Nat) (Ω : List Obj) (g : Option Bool) (o : AOper) (os : List AOper) (e : Env) : Option Env := match g with
  | some true => (aopQ C m e Ω o.op).bind fun a => aopsQ C m Ω os (put e o.dst a)
  | some false => aopsQ C m Ω os (put e o.dst .dead)
  | none => none
def Qq2 (C : CT) (m : Nat) (Ω : List Obj) (r : Option AV) (dst : Option Nat) (os : List AOper) (e : Env) : Option Env := r.bind fun a => aopsQ C m Ω os (put e dst a)
theorem qq_nil {m : Nat} {Ω : List Obj} {e : Env} : aopsQ C m Ω [] e = some e := (rfl)
theorem qq_cons {m : Nat} {Ω : List Obj} {o : AOper} {os : List AOper} {e : Env} : aopsQ C m Ω (o :: os) e = Qq1 C m Ω (wants e o.g) o os e := by
  unfold Qq1
  rw [aopsQ]
  cases wants e o.g with
  | none => rfl
  | some b => cases b <;> rfl
theorem qq1_true {m : Nat} {Ω : List Obj} {o : AOper} {os : List AOper} {e : Env} : Qq1 C m Ω (some true) o os e = Qq2 C m Ω (aopQ C m e Ω o.op) o.dst os e := (rfl)
theorem qq1_false {m : Nat} {Ω : List Obj} {o : AOper} {os : List AOper} {e : Env} : Qq1 C m Ω (some false) o os e = aopsQ C m Ω os (put e o.dst .dead) := (rfl)
theorem qq2_some {m : Nat} {Ω : List Obj} {a : AV} {dst : Option Nat} {os : List AOper} {e : Env} : Qq2 C m Ω (some a) dst os e = aopsQ C m Ω os (put e dst a) := (rfl)
end
section
variable {C : CT} {e : Env} {Ω : List Obj}
theorem qmap {r : Option AV} : (match r with | some a => some (a, Ω, 0) | none => none) = r.map fun a => (a, Ω, 0) := by cases r <;> rfl
theorem aop_mv {x : AX} : aop C e Ω (.mv x) = (aq e Ω (.mv x)).map fun a => (a, Ω, 0) := qmap (r := aq e Ω (.mv x))
theorem aopQ_mv {x : AX} {m_ : Nat} : aopQ C m_ e Ω (.mv x) = aq e Ω (.mv x) := (rfl)
theorem aop_pick {c : AX} {a : AX} {b : AX} : aop C e Ω (.pick c a b) = (aq e Ω (.pick c a b)).map fun a => (a, Ω, 0) := qmap (r := aq e Ω (.pick c a b))
theorem aopQ_pick {c : AX} {a : AX} {b : AX} {m_ : Nat} : aopQ C m_ e Ω (.pick c a b) = aq e Ω (.pick c a b) := (rfl)
theorem aop_bin {op : BinOp} {x : AX} {y : AX} : aop C e Ω (.bin op x y) = (aq e Ω (.bin op x y)).map fun a => (a, Ω, 0) := qmap (r := aq e Ω (.bin op x y))
theorem aopQ_bin {op : BinOp} {x : AX} {y : AX} {m_ : Nat} : aopQ C m_ e Ω (.bin op x y) = aq e Ω (.bin op x y) := (rfl)
theorem aop_eqb {neg : Bool} {x : AX} {y : AX} : aop C e Ω (.eqb neg x y) = (aq e Ω (.eqb neg x y)).map fun a => (a, Ω, 0) := qmap (r := aq e Ω (.eqb neg x y))
theorem aopQ_eqb {neg : Bool} {x : AX} {y : AX} {m_ : Nat} : aopQ C m_ e Ω (.eqb neg x y) = aq e Ω (.eqb neg x y) := (rfl)
theorem aop_eqp {neg : Bool} {x : AX} {y : AX} : aop C e Ω (.eqp neg x y) = (aq e Ω (.eqp neg x y)).map fun a => (a, Ω, 0) := qmap (r := aq e Ω (.eqp neg x y))
theorem aopQ_eqp {neg : Bool} {x : AX} {y : AX} {m_ : Nat} : aopQ C m_ e Ω (.eqp neg x y) = aq e Ω (.eqp neg x y) := (rfl)
theorem aop_eqs {neg : Bool} {x : AX} {y : AX} : aop C e Ω (.eqs neg x y) = (aq e Ω (.eqs neg x y)).map fun a => (a, Ω, 0) := qmap (r := aq e Ω (.eqs neg x y))
theorem aopQ_eqs {neg : Bool} {x : AX} {y : AX} {m_ : Nat} : aopQ C m_ e Ω (.eqs neg x y) = aq e Ω (.eqs neg x y) := (rfl)
theorem aop_eqst {neg : Bool} {ls : List (Nat × LK)} {x : AX} {y : AX} : aop C e Ω (.eqst neg ls x y) = (aq e Ω (.eqst neg ls x y)).map fun a => (a, Ω, 0) := qmap (r := aq e Ω (.eqst neg ls x y))
theorem aopQ_eqst {neg : Bool} {ls : List (Nat × LK)} {x : AX} {y : AX} {m_ : Nat} : aopQ C m_ e Ω (.eqst neg ls x y) = aq e Ω (.eqst neg ls x y) := (rfl)
theorem aop_un {op : UnOp} {x : AX} : aop C e Ω (.un op x) = (aq e Ω (.un op x)).map fun a => (a, Ω, 0) := qmap (r := aq e Ω (.un op x))
theorem aopQ_un {op : UnOp} {x : AX} {m_ : Nat} : aopQ C m_ e Ω (.un op x) = aq e Ω (.un op x) := (rfl)
theorem aop_load {m : Option Nat} {x : AX} : aop C e Ω (.load m x) = (aq e Ω (.load m x)).map fun a => (a, Ω, 0) := qmap (r := aq e Ω (.load m x))
theorem aopQ_load {m : Option Nat} {x : AX} {m_ : Nat} : aopQ C m_ e Ω (.load m x) = aq e Ω (.load m x) := (rfl)
theorem aop_fld {off : Nat} {m : Option Nat} {x : AX} : aop C e Ω (.fld off m x) = (aq e Ω (.fld off m x)).map fun a => (a, Ω, 0) := qmap (r := aq e Ω (.fld off m x))
theorem aopQ_fld {off : Nat} {m : Option Nat} {x : AX} {m_ : Nat} : aopQ C m_ e Ω (.fld off m x) = aq e Ω (.fld off m x) := (rfl)
theorem aop_fad {off : Nat} {x : AX} : aop C e Ω (.fad off x) = (aq e Ω (.fad off x)).map fun a => (a, Ω, 0) := qmap (r := aq e Ω (.fad off x))
theorem aopQ_fad {off : Nat} {x : AX} {m_ : Nat} : aopQ C m_ e Ω (.fad off x) = aq e Ω (.fad off x) := (rfl)
theorem aop_nilck {x : AX} : aop C e Ω (.nilck x) = (aq e Ω (.nilck x)).map fun a => (a, Ω, 0) := qmap (r := aq e Ω (.nilck x))
theorem aopQ_nilck {x : AX} {m_ : Nat} : aopQ C m_ e Ω (.nilck x) = aq e Ω (.nilck x) := (rfl)
theorem aop_ixs {esz : Nat} {x : AX} {i : AX} : aop C e Ω (.ixs esz x i) = (aq e Ω (.ixs esz x i)).map fun a => (a, Ω, 0) := qmap (r := aq e Ω (.ixs esz x i))
theorem aopQ_ixs {esz : Nat} {x : AX} {i : AX} {m_ : Nat} : aopQ C m_ e Ω (.ixs esz x i) = aq e Ω (.ixs esz x i) := (rfl)
theorem aop_ixa {len : Nat} {esz : Nat} {x : AX} {i : AX} : aop C e Ω (.ixa len esz x i) = (aq e Ω (.ixa len esz x i)).map fun a => (a, Ω, 0) := qmap (r := aq e Ω (.ixa len esz x i))
theorem aopQ_ixa {len : Nat} {esz : Nat} {x : AX} {i : AX} {m_ : Nat} : aopQ C m_ e Ω (.ixa len esz x i) = aq e Ω (.ixa len esz x i) := (rfl)
theorem aop_ixstr {x : AX} {i : AX} : aop C e Ω (.ixstr x i) = (aq e Ω (.ixstr x i)).map fun a => (a, Ω, 0) := qmap (r := aq e Ω (.ixstr x i))
theorem aopQ_ixstr {x : AX} {i : AX} {m_ : Nat} : aopQ C m_ e Ω (.ixstr x i) = aq e Ω (.ixstr x i) := (rfl)
theorem aop_ixv {len : Nat} {esz : Nat} {m : Option Nat} {x : AX} {i : AX} : aop C e Ω (.ixv len esz m x i) = (aq e Ω (.ixv len esz m x i)).map fun a => (a, Ω, 0) := qmap (r := aq e Ω (.ixv len esz m x i))
theorem aopQ_ixv {len : Nat} {esz : Nat} {m : Option Nat} {x : AX} {i : AX} {m_ : Nat} : aopQ C m_ e Ω (.ixv len esz m x i) = aq e Ω (.ixv len esz m x i) := (rfl)
theorem aop_ext {i : Nat} {x : AX} : aop C e Ω (.ext i x) = (aq e Ω (.ext i x)).map fun a => (a, Ω, 0) := qmap (r := aq e Ω (.ext i x))
theorem aopQ_ext {i : Nat} {x : AX} {m_ : Nat} : aopQ C m_ e Ω (.ext i x) = aq e Ω (.ext i x) := (rfl)
theorem aop_cvi {k : IntKind} {x : AX} : aop C e Ω (.cvi k x) = (aq e Ω (.cvi k x)).map fun a => (a, Ω, 0) := qmap (r := aq e Ω (.cvi k x))
theorem aopQ_cvi {k : IntKind} {x : AX} {m_ : Nat} : aopQ C m_ e Ω (.cvi k x) = aq e Ω (.cvi k x) := (rfl)
theorem aop_cvs {x : AX} : aop C e Ω (.cvs x) = (aq e Ω (.cvs x)).map fun a => (a, Ω, 0) := qmap (r := aq e Ω (.cvs x))
theorem aopQ_cvs {x : AX} {m_ : Nat} : aopQ C m_ e Ω (.cvs x) = aq e Ω (.cvs x) := (rfl)
theorem aop_len {x : AX} : aop C e Ω (.len x) = (aq e Ω (.len x)).map fun a => (a, Ω, 0) := qmap (r := aq e Ω (.len x))
theorem aopQ_len {x : AX} {m_ : Nat} : aopQ C m_ e Ω (.len x) = aq e Ω (.len x) := (rfl)
theorem aop_lens {x : AX} : aop C e Ω (.lens x) = (aq e Ω (.lens x)).map fun a => (a, Ω, 0) := qmap (r := aq e Ω (.lens x))
theorem aopQ_lens {x : AX} {m_ : Nat} : aopQ C m_ e Ω (.lens x) = aq e Ω (.lens x) := (rfl)
theorem aop_min {xs : List AX} : aop C e Ω (.min xs) = (aq e Ω (.min xs)).map fun a => (a, Ω, 0) := qmap (r := aq e Ω (.min xs))
theorem aopQ_min {xs : List AX} {m_ : Nat} : aopQ C m_ e Ω (.min xs) = aq e Ω (.min xs) := (rfl)
theorem aop_max {xs : List AX} : aop C e Ω (.max xs) = (aq e Ω (.max xs)).map fun a => (a, Ω, 0) := qmap (r := aq e Ω (.max xs))
theorem aopQ_max {xs : List AX} {m_ : Nat} : aopQ C m_ e Ω (.max xs) = aq e Ω (.max xs) := (rfl)
theorem aop_slstr {x : AX} {lo : Option AX} {hi : Option AX} : aop C e Ω (.slstr x lo hi) = (aq e Ω (.slstr x lo hi)).map fun a => (a, Ω, 0) := qmap (r := aq e Ω (.slstr x lo hi))
theorem aopQ_slstr {x : AX} {lo : Option AX} {hi : Option AX} {m_ : Nat} : aopQ C m_ e Ω (.slstr x lo hi) = aq e Ω (.slstr x lo hi) := (rfl)
theorem aop_sls {esz : Nat} {x : AX} {lo : Option AX} {hi : Option AX} {mx : Option AX} : aop C e Ω (.sls esz x lo hi mx) = (aq e Ω (.sls esz x lo hi mx)).map fun a => (a, Ω, 0) := qmap (r := aq e Ω (.sls esz x lo hi mx))
theorem aopQ_sls {esz : Nat} {x : AX} {lo : Option AX} {hi : Option AX} {mx : Option AX} {m_ : Nat} : aopQ C m_ e Ω (.sls esz x lo hi mx) = aq e Ω (.sls esz x lo hi mx) := (rfl)
theorem aop_build {zero : List AV} {parts : List (Nat × Nat × AX)} : aop C e Ω (.build zero parts) = (aq e Ω (.build zero parts)).map fun a => (a, Ω, 0) := qmap (r := aq e Ω (.build zero parts))
theorem aopQ_build {zero : List AV} {parts : List (Nat × Nat × AX)} {m_ : Nat} : aopQ C m_ e Ω (.build zero parts) = aq e Ω (.build zero parts) := (rfl)
theorem aop_mkf {g : Nat} {xs : List AX} : aop C e Ω (.mkf g xs) = (aq e Ω (.mkf g xs)).map fun a => (a, Ω, 0) := qmap (r := aq e Ω (.mkf g xs))
theorem aopQ_mkf {g : Nat} {xs : List AX} {m_ : Nat} : aopQ C m_ e Ω (.mkf g xs) = aq e Ω (.mkf g xs) := (rfl)
theorem aop_clr {n : Nat} {zero : List AV} {x : AX} : aop C e Ω (.clr n zero x) = (ae e Ω (.clr n zero x)).map fun p => (p.1, p.2.1, lev p.2.2) := (rfl)
theorem aop_cvbs {x : AX} : aop C e Ω (.cvbs x) = (aq e Ω (.cvbs x)).map fun a => (a, Ω, 0) := qmap (r := aq e Ω (.cvbs x))
theorem aopQ_cvbs {x : AX} {m_ : Nat} : aopQ C m_ e Ω (.cvbs x) = aq e Ω (.cvbs x) := (rfl)
theorem aop_box {x : AX} : aop C e Ω (.box x) = (ae e Ω (.box x)).map fun p => (p.1, p.2.1, lev p.2.2) := (rfl)
theorem aop_alloc {zero : List AV} : aop C e Ω (.alloc zero) = (ae e Ω (.alloc zero)).map fun p => (p.1, p.2.1, lev p.2.2) := (rfl)
theorem aop_row {esz : Nat} {n : Nat} {zero : List AV} {parts : List (Nat × Nat × AX)} : aop C e Ω (.row esz n zero parts) = (ae e Ω (.row esz n zero parts)).map fun p => (p.1, p.2.1, lev p.2.2) := (rfl)
theorem aop_store {n : Nat} {a : AX} {x : AX} : aop C e Ω (.store n a x) = (ae e Ω (.store n a x)).map fun p => (p.1, p.2.1, lev p.2.2) := (rfl)
theorem aop_mks {esz : Nat} {n : Nat} {zero : List AV} {l : AX} {c : AX} : aop C e Ω (.mks esz n zero l c) = (ae e Ω (.mks esz n zero l c)).map fun p => (p.1, p.2.1, lev p.2.2) := (rfl)
theorem aop_app {esz : Nat} {n : Nat} {x : AX} {y : AX} : aop C e Ω (.app esz n x y) = (ae e Ω (.app esz n x y)).map fun p => (p.1, p.2.1, lev p.2.2) := (rfl)
theorem aop_cpy {esz : Nat} {x : AX} {y : AX} : aop C e Ω (.cpy esz x y) = (ae e Ω (.cpy esz x y)).map fun p => (p.1, p.2.1, lev p.2.2) := (rfl)
theorem aop_cvsb {x : AX} : aop C e Ω (.cvsb x) = (ae e Ω (.cvsb x)).map fun p => (p.1, p.2.1, lev p.2.2) := (rfl)
theorem aop_call {f : AX} {xs : List AX} : aop C e Ω (.call f xs) = (ev e f).bind fun f => (evs e xs).bind fun as => aCall C Ω f as := (rfl)
theorem aopQ_call {m : Nat} {f : AX} {xs : List AX} : aopQ C m e Ω (.call f xs) = (ev e f).bind fun f => (evs e xs).bind fun as => aCallQ C m Ω f as := (rfl)
end
/-- A call's end. -/
def Fn (fn : AFn) (r : Option (AE × St)) : Option Res := match r with
  | some (.exit _, _) => none
  | some (_, s) => finish fn s
  | none => none
theorem acall_succ {T : Tb} {k f n : Nat} {args : List AV} {Ω : List Obj} {fn : AFn} (hf : T.tab f = some fn) (hn : args.length = fn.np) (hl : n ≤ Ω.length) : acall T (k + 1) f n args Ω = Fn fn (Go (acall T k) k fn.body [] ⟨args0 0 args, Ω, 0, List.range n⟩) := by
  simp only [acall, hf]
  rw [if_pos ⟨hn, hl⟩]
  unfold Sym.Go Fn contK
  cases aexec (acall T k) k fn.body ⟨args0 0 args, Ω, 0, List.range n⟩ with
  | none => rfl
  | some p => obtain ⟨x, s⟩ := p; cases x <;> rfl
def FnR (res : List RV) (frz up : Bool) (r : Option (AE × St)) : Option Res := Fn ⟨0, .skip, res, frz, up⟩ r
theorem acall_go {T : Tb} {k f n np : Nat} {args : List AV} {Ω : List Obj} {body : AC} {res : List RV} {frz up : Bool} (hf : T.tab f = some ⟨np, body, res, frz, up⟩) (hn : args.length = np) (hl : n ≤ Ω.length) : acall T (k + 1) f n args Ω = FnR res frz up (Go (acall T k) k body [] ⟨args0 0 args, Ω, 0, List.range n⟩) := acall_succ hf hn hl
/-- The results of a call's end. -/
def Rf (up : Bool) (v : AV) (Ω : List Obj) (d : Nat) (o : Option (List Nat)) : Option Res := o.bind fun ord => some ⟨ren (pos ord) v, sub Ω ord (!up), if up = true then 2 else d⟩
def Rk (b up : Bool) (v : AV) (Ω : List Obj) (rt : List Nat) (d : Nat) : Option Res := if b = true then Rf up v Ω d (reach Ω 400 (dedup (rt ++ refs v) []) []) else none
def Rs (frz up : Bool) (r : Option (List AV)) (Ω : List Obj) (rt : List Nat) (d : Nat) : Option Res := r.bind fun l =>
  if frz = true then Rk (okv (one (frzM Ω l).1)) up (one (frzM Ω l).1) (frzM Ω l).2 rt d else Rk (okv (one l)) up (one l) Ω rt d
def Rz (up : Bool) (p : List AV × List Obj) (rt : List Nat) (d : Nat) : Option Res := Rk (okv (one p.1)) up (one p.1) p.2 rt d
theorem fn_end {res : List RV} {frz up : Bool} {s : St} : finish ⟨0, .skip, res, frz, up⟩ s = Rs frz up (aRes s.env s.ob res) s.ob s.rt s.d := by
  unfold finish Rs
  cases aRes s.env s.ob res with
  | none => rfl
  | some l => cases frz <;> rfl
theorem fn_ret {res : List RV} {frz up : Bool} {s : St} : FnR res frz up (some (.ret, s)) = Rs frz up (aRes s.env s.ob res) s.ob s.rt s.d := fn_end
theorem fn_normal {res : List RV} {frz up : Bool} {s : St} : FnR res frz up (some (.normal, s)) = Rs frz up (aRes s.env s.ob res) s.ob s.rt s.d := fn_end
theorem rs_keep {up : Bool} {l : List AV} {Ω : List Obj} {rt : List Nat} {d : Nat} : Rs false up (some l) Ω rt d = Rk (okv (one l)) up (one l) Ω rt d := (rfl)
theorem rs_frz {up : Bool} {l : List AV} {Ω : List Obj} {rt : List Nat} {d : Nat} : Rs true up (some l) Ω rt d = Rz up (frzM Ω l) rt d := (rfl)
theorem rz_mk {up : Bool} {l : List AV} {Ω : List Obj} {rt : List Nat} {d : Nat} : Rz up (l, Ω) rt d = Rk (okv (one l)) up (one l) Ω rt d := (rfl)
theorem rk_true {up : Bool} {v : AV} {Ω : List Obj} {rt : List Nat} {d : Nat} : Rk true up v Ω rt d = Rf up v Ω d (reach Ω 400 (dedup (rt ++ refs v) []) []) := (rfl)
theorem rf_some {up : Bool} {v : AV} {Ω : List Obj} {d : Nat} {ord : List Nat} : Rf up v Ω d (some ord) = some ⟨ren (pos ord) v, sub Ω ord (!up), if up = true then 2 else d⟩ := (rfl)
theorem btf : (true == false) = false := (rfl)
theorem bft : (false == true) = false := (rfl)
theorem btt : (true == true) = true := (rfl)
theorem bff : (false == false) = true := (rfl)
theorem nft : (false != true) = true := (rfl)
theorem ntf : (true != false) = true := (rfl)
theorem max12 : max 1 2 = 2 := (rfl)
theorem max21 : max 2 1 = 2 := (rfl)
theorem reps_v {n : Nat} {x : Value} : reps n [.v x] = List.replicate n (.v x) := by
  induction n with
  | zero => rfl
  | succ n ih => rw [reps, ih]; rfl
theorem all_rep {n : Nat} {x : Value} : (List.replicate n (AV.v x)).all flat0 = true := by simp [flat0]
theorem all_rep' {n : Nat} {x : Value} : (List.replicate n (AV.v x)).all atom = true := by simp [atom]
theorem all_strF {s : ByteArray} : (strCells s).all flat0 = true := List.all_eq_true.2 fun a ha => by
  simp only [strCells, List.mem_map] at ha
  obtain ⟨b, _, rfl⟩ := ha
  rfl
theorem all_strA {s : ByteArray} : (strCells s).all atom = true := List.all_eq_true.2 fun a ha => by
  simp only [strCells, List.mem_map] at ha
  obtain ⟨b, _, rfl⟩ := ha
  rfl
theorem w64 {x : Int} (h1 : -9223372036854775808 ≤ x) (h2 : x ≤ 9223372036854775807) : IntKind.i64.wrap x = x := by
  rw [IntKind.wrap_i64]
  omega
theorem idx_ne {a b : Nat} {l : List Nat} (h : (b == a) = false) : List.idxOf a (b :: l) = List.idxOf a l + 1 := by rw [List.idxOf_cons, h]; rfl
/-- Bytes in cells. -/
def bytesV (l : List Int) : List AV := l.map fun x => .v (.int .u8 x)
def putI (l : List Int) (i : Nat) : List Int → List Int
  | [] => l
  | c :: cs => putI (l.set i c) (i + 1) cs
def numsOf (s : ByteArray) : List Int := s.data.toList.map fun b => (b.toNat : Int)
theorem bytesV_length {l : List Int} : (bytesV l).length = l.length := List.length_map ..
theorem all_bytesF {l : List Int} : (bytesV l).all flat0 = true := by simp [bytesV, flat0]
theorem all_bytesA {l : List Int} : (bytesV l).all atom = true := by simp [bytesV, atom]
theorem strCells_bytes {s : ByteArray} : strCells s = bytesV (numsOf s) := by simp [strCells, bytesV, numsOf]
theorem toNums_bytes {l : List Int} : toNums (bytesV l) = some l := by
  induction l with
  | nil => rfl
  | cons x l ih => show (toNums (bytesV l)).bind _ = _; rw [ih]; rfl
theorem bytesV_drop {l : List Int} {n : Nat} : (bytesV l).drop n = bytesV (l.drop n) := (List.map_drop ..).symm
theorem bytesV_take {l : List Int} {n : Nat} : (bytesV l).take n = bytesV (l.take n) := (List.map_take ..).symm
theorem putL_bytes {l m : List Int} {i : Nat} : putL (bytesV l) i (bytesV m) = bytesV (putI l i m) := by
  induction m generalizing l i with
  | nil => rfl
  | cons x m ih =>
    show putL ((bytesV l).set i (.v (.int .u8 x))) (i + 1) (bytesV m) = bytesV (putI (l.set i x) (i + 1) m)
    rw [← ih]
    congr 1
    simp [bytesV, List.map_set]
theorem natLit {n : Nat} : ((no_index (OfNat.ofNat n) : Nat) : Int) = OfNat.ofNat n := (rfl)
theorem wu8 {x : Int} (h1 : 0 ≤ x) (h2 : x ≤ 255) : IntKind.u8.wrap x = x := by
  have h : IntKind.u8.wrap x = x % 256 := by simp [IntKind.wrap, IntKind.bits, IntKind.signed]
  omega
theorem wu16 {x : Int} (h1 : 0 ≤ x) (h2 : x ≤ 65535) : IntKind.u16.wrap x = x := by
  have h : IntKind.u16.wrap x = x % 65536 := by simp [IntKind.wrap, IntKind.bits, IntKind.signed]
  omega
theorem wu32 {x : Int} (h1 : 0 ≤ x) (h2 : x ≤ 4294967295) : IntKind.u32.wrap x = x := by
  have h : IntKind.u32.wrap x = x % 4294967296 := by simp [IntKind.wrap, IntKind.bits, IntKind.signed]
  omega
theorem wu64 {x : Int} (h1 : 0 ≤ x) (h2 : x ≤ 18446744073709551615) : IntKind.u64.wrap x = x := by
  have h : IntKind.u64.wrap x = x % 18446744073709551616 := by simp [IntKind.wrap, IntKind.bits, IntKind.signed]
  omega
theorem none_beq {a : Nat} : ((none : Option Nat) == some a) = false := (rfl)
theorem emptyS : (⟨#[]⟩ : ByteArray) = ByteArray.empty := (rfl)
theorem range1 : List.range 1 = [0] := (rfl)
theorem range2 : List.range 2 = [0, 1] := (rfl)
theorem range3 : List.range 3 = [0, 1, 2] := (rfl)
theorem range4 : List.range 4 = [0, 1, 2, 3] := (rfl)
/-- The equations, all together. -/
theorem eqs : type_of% (And.intro (And.intro (And.intro (And.intro (And.intro (And.intro (And.intro (@go_skip) (And.intro (@go_ret) (@go_exit))) (And.intro (And.intro (@go_seq) (@go_cond)) (And.intro (@cd_true) (@cd_false)))) (And.intro (And.intro (And.intro (@cd_bool) (@go_block)) (And.intro (@go_loop) (@nx_nil))) (And.intro (And.intro (@nx_c) (@nx_b)) (And.intro (@nx_l) (@rt_nil))))) (And.intro (And.intro (And.intro (@rt_c) (And.intro (@rt_b) (@rt_l))) (And.intro (And.intro (@xt_c) (@xt_b)) (And.intro (@xt_l) (@go_reg)))) (And.intro (And.intro (And.intro (@op_nil) (@op_cons)) (And.intro (@op1_true) (@op1_false))) (And.intro (And.intro (@op2_some) (@go_regq)) (And.intro (@go_regt) (@qp_nil)))))) (And.intro (And.intro (And.intro (And.intro (@qp_cons) (And.intro (@qp1_true) (@qp1_false))) (And.intro (And.intro (@qp2_some) (@aop_call)) (And.intro (@aopQ_call) (@aop_mv)))) (And.intro (And.intro (And.intro (@aop_pick) (@aop_bin)) (And.intro (@aop_eqb) (@aop_eqp))) (And.intro (And.intro (@aop_eqs) (@aop_eqst)) (And.intro (@aop_un) (@aop_load))))) (And.intro (And.intro (And.intro (@aop_fld) (And.intro (@aop_fad) (@aop_nilck))) (And.intro (And.intro (@aop_ixs) (@aop_ixa)) (And.intro (@aop_ixstr) (@aop_ixv)))) (And.intro (And.intro (And.intro (@aop_ext) (@aop_cvi)) (And.intro (@aop_cvs) (@aop_len))) (And.intro (And.intro (@aop_lens) (@aop_min)) (And.intro (@aop_max) (@aop_slstr))))))) (And.intro (And.intro (And.intro (And.intro (And.intro (@aop_sls) (And.intro (@aop_build) (@aop_cvbs))) (And.intro (And.intro (@aop_mkf) (@aop_box)) (And.intro (@aop_alloc) (@aop_row)))) (And.intro (And.intro (And.intro (@aop_store) (@aop_mks)) (And.intro (@aop_app) (@aop_cpy))) (And.intro (And.intro (@aop_cvsb) (@aop_clr)) (And.intro (@aopQ_mv) (@aopQ_pick))))) (And.intro (And.intro (And.intro (@aopQ_bin) (And.intro (@aopQ_eqb) (@aopQ_eqp))) (And.intro (And.intro (@aopQ_eqs) (@aopQ_eqst)) (And.intro (@aopQ_un) (@aopQ_load)))) (And.intro (And.intro (And.intro (@aopQ_fld) (@aopQ_fad)) (And.intro (@aopQ_nilck) (@aopQ_ixs))) (And.intro (And.intro (@aopQ_ixa) (@aopQ_ixstr)) (And.intro (@aopQ_ixv) (@aopQ_ext)))))) (And.intro (And.intro (And.intro (And.intro (@aopQ_cvi) (And.intro (@aopQ_cvs) (@aopQ_len))) (And.intro (And.intro (@aopQ_lens) (@aopQ_min)) (And.intro (@aopQ_max) (@aopQ_slstr)))) (And.intro (And.intro (And.intro (@aopQ_sls) (@aopQ_build)) (And.intro (@aopQ_cvbs) (@aopQ_mkf))) (And.intro (And.intro (@fn_ret) (@fn_normal)) (And.intro (@rs_keep) (@rs_frz))))) (And.intro (And.intro (And.intro (And.intro (@rz_mk) (@rk_true)) (And.intro (@rf_some) (@reps_v))) (And.intro (And.intro (@all_rep) (@all_rep')) (And.intro (@all_strF) (@all_strA)))) (And.intro (And.intro (And.intro (@max12) (@max21)) (And.intro (@btf) (@bft))) (And.intro (And.intro (@btt) (@bff)) (And.intro (@idx_ne) (@bytesV_length)))))))) (And.intro (And.intro (And.intro (And.intro (And.intro (And.intro (@all_bytesF) (And.intro (@all_bytesA) (@toNums_bytes))) (And.intro (And.intro (@bytesV_drop) (@bytesV_take)) (And.intro (@putL_bytes) (@strCells_bytes)))) (And.intro (And.intro (And.intro (@natLit) (@w64)) (And.intro (@wu8) (@wu16))) (And.intro (And.intro (@wu32) (@wu64)) (And.intro (@range1) (@range2))))) (And.intro (And.intro (And.intro (@range3) (And.intro (@range4) (@lp_succ))) (And.intro (And.intro (@Int.natCast_zero) (@Int.natCast_one)) (And.intro (@bne_self_eq_false.{0}) (@go_regs)))) (And.intro (And.intro (And.intro (@go_regm) (@om_nil)) (And.intro (@om_cons) (@om1_true))) (And.intro (And.intro (@om1_false) (@om2_some)) (And.intro (@aopM_call) (@aopM_false)))))) (And.intro (And.intro (And.intro (And.intro (@sxA) (And.intro (@sxB) (@sxC))) (And.intro (And.intro (@nft) (@ntf)) (And.intro (@sxD) (@sxE)))) (And.intro (And.intro (And.intro (@sxF) (@sxO)) (And.intro (@qq_nil) (@qq_cons))) (And.intro (And.intro (@qq1_true) (@qq1_false)) (And.intro (@qq2_some) (@List.getElem?_cons_zero.{0}))))) (And.intro (And.intro (And.intro (And.intro (@none_beq) (@emptyS)) (And.intro (@Option.some_beq_some.{0}) (@Option.getD_some.{0}))) (And.intro (And.intro (@Option.getD_none.{0}) (@Option.bind_some.{0, 0})) (And.intro (@Option.map_some.{0, 0}) (@Option.bind_none.{0, 0})))) (And.intro (And.intro (And.intro (@Option.map_none.{0, 0}) (@Bool.false_eq_true)) (And.intro (@beq_self_eq_true.{0}) (@Bool.and_true))) (And.intro (And.intro (@Bool.true_and) (@Bool.and_false)) (And.intro (@Bool.false_and) (@Bool.or_true))))))) (And.intro (And.intro (And.intro (And.intro (And.intro (@Bool.true_or) (And.intro (@Bool.or_false) (@Bool.false_or))) (And.intro (And.intro (@Bool.not_true) (@Bool.not_false)) (And.intro (@List.getElem?_cons_succ.{0}) (@List.getElem?_nil.{0})))) (And.intro (And.intro (And.intro (@List.length_cons.{0}) (@List.length_nil.{0})) (And.intro (@List.all_cons.{0}) (@List.all_nil.{0}))) (And.intro (And.intro (@List.map_cons.{0, 0}) (@List.map_nil.{0, 0})) (And.intro (@List.flatMap_cons.{0, 0}) (@List.flatMap_nil.{0, 0}))))) (And.intro (And.intro (And.intro (@List.append_nil.{0}) (And.intro (@List.nil_append.{0}) (@List.cons_append.{0}))) (And.intro (And.intro (@List.contains_nil.{0}) (@List.contains_cons.{0})) (And.intro (@List.take_zero.{0}) (@List.drop_zero.{0})))) (And.intro (And.intro (And.intro (@List.take_succ_cons.{0}) (@List.drop_succ_cons.{0})) (And.intro (@List.set_cons_zero.{0}) (@List.set_cons_succ.{0}))) (And.intro (And.intro (@List.getD_cons_zero.{0}) (@List.getD_cons_succ.{0})) (And.intro (@List.idxOf_cons_self.{0}) (@List.range_zero)))))) (And.intro (And.intro (And.intro (And.intro (@List.isEmpty_nil.{0}) (And.intro (@List.isEmpty_cons.{0}) (@decide_true))) (And.intro (And.intro (@decide_false) (@and_self)) (And.intro (@true_and) (@and_true)))) (And.intro (And.intro (And.intro (@false_and) (@and_false)) (And.intro (@Nat.zero_add) (@Nat.add_zero))) (And.intro (And.intro (@Nat.max_self) (@Nat.zero_max)) (And.intro (@Nat.max_zero) (@Nat.le_refl))))) (And.intro (And.intro (And.intro (And.intro (@not_true_eq_false) (@not_false_eq_true)) (And.intro (@beq_iff_eq.{0}) (@Nat.sub_zero))) (And.intro (And.intro (@Nat.zero_mul) (@Nat.mul_zero)) (And.intro (@Nat.mul_one) (@Nat.one_mul)))) (And.intro (And.intro (And.intro (@List.take_nil.{0}) (@List.drop_nil.{0})) (And.intro (@Option.isNone_none.{0}) (@Option.isNone_some.{0}))) (And.intro (And.intro (@Int.natCast_nonneg) (@Int.toNat_natCast)) (And.intro (@Nat.zero_le) (@Nat.lt_irrefl))))))))) := And.intro (And.intro (And.intro (And.intro (And.intro (And.intro (And.intro (@go_skip) (And.intro (@go_ret) (@go_exit))) (And.intro (And.intro (@go_seq) (@go_cond)) (And.intro (@cd_true) (@cd_false)))) (And.intro (And.intro (And.intro (@cd_bool) (@go_block)) (And.intro (@go_loop) (@nx_nil))) (And.intro (And.intro (@nx_c) (@nx_b)) (And.intro (@nx_l) (@rt_nil))))) (And.intro (And.intro (And.intro (@rt_c) (And.intro (@rt_b) (@rt_l))) (And.intro (And.intro (@xt_c) (@xt_b)) (And.intro (@xt_l) (@go_reg)))) (And.intro (And.intro (And.intro (@op_nil) (@op_cons)) (And.intro (@op1_true) (@op1_false))) (And.intro (And.intro (@op2_some) (@go_regq)) (And.intro (@go_regt) (@qp_nil)))))) (And.intro (And.intro (And.intro (And.intro (@qp_cons) (And.intro (@qp1_true) (@qp1_false))) (And.intro (And.intro (@qp2_some) (@aop_call)) (And.intro (@aopQ_call) (@aop_mv)))) (And.intro (And.intro (And.intro (@aop_pick) (@aop_bin)) (And.intro (@aop_eqb) (@aop_eqp))) (And.intro (And.intro (@aop_eqs) (@aop_eqst)) (And.intro (@aop_un) (@aop_load))))) (And.intro (And.intro (And.intro (@aop_fld) (And.intro (@aop_fad) (@aop_nilck))) (And.intro (And.intro (@aop_ixs) (@aop_ixa)) (And.intro (@aop_ixstr) (@aop_ixv)))) (And.intro (And.intro (And.intro (@aop_ext) (@aop_cvi)) (And.intro (@aop_cvs) (@aop_len))) (And.intro (And.intro (@aop_lens) (@aop_min)) (And.intro (@aop_max) (@aop_slstr))))))) (And.intro (And.intro (And.intro (And.intro (And.intro (@aop_sls) (And.intro (@aop_build) (@aop_cvbs))) (And.intro (And.intro (@aop_mkf) (@aop_box)) (And.intro (@aop_alloc) (@aop_row)))) (And.intro (And.intro (And.intro (@aop_store) (@aop_mks)) (And.intro (@aop_app) (@aop_cpy))) (And.intro (And.intro (@aop_cvsb) (@aop_clr)) (And.intro (@aopQ_mv) (@aopQ_pick))))) (And.intro (And.intro (And.intro (@aopQ_bin) (And.intro (@aopQ_eqb) (@aopQ_eqp))) (And.intro (And.intro (@aopQ_eqs) (@aopQ_eqst)) (And.intro (@aopQ_un) (@aopQ_load)))) (And.intro (And.intro (And.intro (@aopQ_fld) (@aopQ_fad)) (And.intro (@aopQ_nilck) (@aopQ_ixs))) (And.intro (And.intro (@aopQ_ixa) (@aopQ_ixstr)) (And.intro (@aopQ_ixv) (@aopQ_ext)))))) (And.intro (And.intro (And.intro (And.intro (@aopQ_cvi) (And.intro (@aopQ_cvs) (@aopQ_len))) (And.intro (And.intro (@aopQ_lens) (@aopQ_min)) (And.intro (@aopQ_max) (@aopQ_slstr)))) (And.intro (And.intro (And.intro (@aopQ_sls) (@aopQ_build)) (And.intro (@aopQ_cvbs) (@aopQ_mkf))) (And.intro (And.intro (@fn_ret) (@fn_normal)) (And.intro (@rs_keep) (@rs_frz))))) (And.intro (And.intro (And.intro (And.intro (@rz_mk) (@rk_true)) (And.intro (@rf_some) (@reps_v))) (And.intro (And.intro (@all_rep) (@all_rep')) (And.intro (@all_strF) (@all_strA)))) (And.intro (And.intro (And.intro (@max12) (@max21)) (And.intro (@btf) (@bft))) (And.intro (And.intro (@btt) (@bff)) (And.intro (@idx_ne) (@bytesV_length)))))))) (And.intro (And.intro (And.intro (And.intro (And.intro (And.intro (@all_bytesF) (And.intro (@all_bytesA) (@toNums_bytes))) (And.intro (And.intro (@bytesV_drop) (@bytesV_take)) (And.intro (@putL_bytes) (@strCells_bytes)))) (And.intro (And.intro (And.intro (@natLit) (@w64)) (And.intro (@wu8) (@wu16))) (And.intro (And.intro (@wu32) (@wu64)) (And.intro (@range1) (@range2))))) (And.intro (And.intro (And.intro (@range3) (And.intro (@range4) (@lp_succ))) (And.intro (And.intro (@Int.natCast_zero) (@Int.natCast_one)) (And.intro (@bne_self_eq_false.{0}) (@go_regs)))) (And.intro (And.intro (And.intro (@go_regm) (@om_nil)) (And.intro (@om_cons) (@om1_true))) (And.intro (And.intro (@om1_false) (@om2_some)) (And.intro (@aopM_call) (@aopM_false)))))) (And.intro (And.intro (And.intro (And.intro (@sxA) (And.intro (@sxB) (@sxC))) (And.intro (And.intro (@nft) (@ntf)) (And.intro (@sxD) (@sxE)))) (And.intro (And.intro (And.intro (@sxF) (@sxO)) (And.intro (@qq_nil) (@qq_cons))) (And.intro (And.intro (@qq1_true) (@qq1_false)) (And.intro (@qq2_some) (@List.getElem?_cons_zero.{0}))))) (And.intro (And.intro (And.intro (And.intro (@none_beq) (@emptyS)) (And.intro (@Option.some_beq_some.{0}) (@Option.getD_some.{0}))) (And.intro (And.intro (@Option.getD_none.{0}) (@Option.bind_some.{0, 0})) (And.intro (@Option.map_some.{0, 0}) (@Option.bind_none.{0, 0})))) (And.intro (And.intro (And.intro (@Option.map_none.{0, 0}) (@Bool.false_eq_true)) (And.intro (@beq_self_eq_true.{0}) (@Bool.and_true))) (And.intro (And.intro (@Bool.true_and) (@Bool.and_false)) (And.intro (@Bool.false_and) (@Bool.or_true))))))) (And.intro (And.intro (And.intro (And.intro (And.intro (@Bool.true_or) (And.intro (@Bool.or_false) (@Bool.false_or))) (And.intro (And.intro (@Bool.not_true) (@Bool.not_false)) (And.intro (@List.getElem?_cons_succ.{0}) (@List.getElem?_nil.{0})))) (And.intro (And.intro (And.intro (@List.length_cons.{0}) (@List.length_nil.{0})) (And.intro (@List.all_cons.{0}) (@List.all_nil.{0}))) (And.intro (And.intro (@List.map_cons.{0, 0}) (@List.map_nil.{0, 0})) (And.intro (@List.flatMap_cons.{0, 0}) (@List.flatMap_nil.{0, 0}))))) (And.intro (And.intro (And.intro (@List.append_nil.{0}) (And.intro (@List.nil_append.{0}) (@List.cons_append.{0}))) (And.intro (And.intro (@List.contains_nil.{0}) (@List.contains_cons.{0})) (And.intro (@List.take_zero.{0}) (@List.drop_zero.{0})))) (And.intro (And.intro (And.intro (@List.take_succ_cons.{0}) (@List.drop_succ_cons.{0})) (And.intro (@List.set_cons_zero.{0}) (@List.set_cons_succ.{0}))) (And.intro (And.intro (@List.getD_cons_zero.{0}) (@List.getD_cons_succ.{0})) (And.intro (@List.idxOf_cons_self.{0}) (@List.range_zero)))))) (And.intro (And.intro (And.intro (And.intro (@List.isEmpty_nil.{0}) (And.intro (@List.isEmpty_cons.{0}) (@decide_true))) (And.intro (And.intro (@decide_false) (@and_self)) (And.intro (@true_and) (@and_true)))) (And.intro (And.intro (And.intro (@false_and) (@and_false)) (And.intro (@Nat.zero_add) (@Nat.add_zero))) (And.intro (And.intro (@Nat.max_self) (@Nat.zero_max)) (And.intro (@Nat.max_zero) (@Nat.le_refl))))) (And.intro (And.intro (And.intro (And.intro (@not_true_eq_false) (@not_false_eq_true)) (And.intro (@beq_iff_eq.{0}) (@Nat.sub_zero))) (And.intro (And.intro (@Nat.zero_mul) (@Nat.mul_zero)) (And.intro (@Nat.mul_one) (@Nat.one_mul)))) (And.intro (And.intro (And.intro (@List.take_nil.{0}) (@List.drop_nil.{0})) (And.intro (@Option.isNone_none.{0}) (@Option.isNone_some.{0}))) (And.intro (And.intro (@Int.natCast_nonneg) (@Int.toNat_natCast)) (And.intro (@Nat.zero_le) (@Nat.lt_irrefl))))))))
end
/-- What the machine's functions are, for simp. -/
theorem eqd : type_of% (And.intro (And.intro (And.intro (And.intro (And.intro (And.intro (And.intro (@Sym.wants.eq_def) (@Sym.get.eq_1)) (And.intro (@Sym.get.eq_2) (@Sym.ev.eq_def))) (And.intro (And.intro (@Sym.evs.eq_1) (@Sym.evs.eq_2)) (And.intro (@Sym.evO.eq_def) (@Sym.evP.eq_1)))) (And.intro (And.intro (And.intro (@Sym.evP.eq_2) (@Sym.put.eq_def)) (And.intro (@Sym.lev.eq_def) (@Sym.aq.eq_def))) (And.intro (And.intro (@Sym.ae.eq_def) (@Sym.aBin.eq_def)) (And.intro (@Sym.aInt.eq_def) (@Sym.isShift.eq_def))))) (And.intro (And.intro (And.intro (And.intro (@Sym.aEqB.eq_def) (@Sym.aEqP.eq_def)) (And.intro (@Sym.aEqS.eq_def) (@Sym.leavesEq.eq_1))) (And.intro (And.intro (@Sym.leavesEq.eq_2) (@Sym.leafEq.eq_def)) (And.intro (@Sym.aUn.eq_def) (@Sym.rd.eq_def)))) (And.intro (And.intro (And.intro (@Sym.aLoad.eq_def) (@Sym.aField.eq_def)) (And.intro (@Sym.aFad.eq_def) (@Sym.aNilck.eq_def))) (And.intro (And.intro (@Sym.asI.eq_def) (@Sym.aIxS.eq_def)) (And.intro (@Sym.aIxA.eq_def) (@Sym.aIxV.eq_def)))))) (And.intro (And.intro (And.intro (And.intro (And.intro (@Sym.aExt.eq_def) (@Sym.aPick.eq_def)) (And.intro (@Sym.aCvi.eq_def) (@Sym.aCvs.eq_def))) (And.intro (And.intro (@Sym.aLen.eq_def) (@Sym.aLenS.eq_def)) (And.intro (@Sym.aMin2.eq_def) (@Sym.aMax2.eq_def)))) (And.intro (And.intro (And.intro (@Sym.aFold.eq_def) (@Sym.aFoldL.eq_1)) (And.intro (@Sym.aFoldL.eq_2) (@Sym.bnd.eq_def))) (And.intro (And.intro (@Sym.aSlStr.eq_def) (@Sym.aSlS.eq_def)) (And.intro (@Sym.fillL.eq_1) (@Sym.fillL.eq_2))))) (And.intro (And.intro (And.intro (And.intro (@Sym.newO.eq_def) (@Sym.kill.eq_def)) (And.intro (@Sym.aStore.eq_def) (@Sym.putL.eq_1))) (And.intro (And.intro (@Sym.putL.eq_2) (@Sym.getO.eq_def)) (And.intro (@Sym.cellsOf.eq_def) (@Sym.elems.eq_def)))) (And.intro (And.intro (And.intro (@Sym.elemsS.eq_def) (@Sym.aApp.eq_def)) (And.intro (@Sym.aCpy.eq_def) (@Sym.aClr.eq_def))) (And.intro (And.intro (@Sym.reps.eq_1) (@Sym.reps.eq_2)) (And.intro (@Sym.aCallQ.eq_def) (And.intro (@Sym.finishCall.eq_def) (@Sym.refs.eq_def)))))))) (And.intro (And.intro (And.intro (And.intro (And.intro (And.intro (@Sym.refs1.eq_def) (@Sym.refs0.eq_def)) (And.intro (@Sym.okv.eq_def) (@Sym.ok1.eq_def))) (And.intro (And.intro (@Sym.atom.eq_def) (@Sym.flat0.eq_def)) (And.intro (@Sym.dedup.eq_1) (@Sym.dedup.eq_2)))) (And.intro (And.intro (And.intro (@Sym.renO.eq_def) (@Sym.ren.eq_def)) (And.intro (@Sym.ren1.eq_def) (@Sym.ren0.eq_def))) (And.intro (And.intro (@Sym.gmap.eq_def) (@Sym.mergeOld.eq_1)) (And.intro (@Sym.mergeOld.eq_2) (@Sym.mergeNew.eq_def))))) (And.intro (And.intro (And.intro (And.intro (@Sym.mergeO.eq_def) (@Sym.allFresh.eq_def)) (And.intro (@Sym.det.eq_def) (@Sym.det0.eq_def))) (And.intro (And.intro (@Sym.canon.eq_def) (@Sym.keepEnv.eq_1)) (And.intro (@Sym.keepEnv.eq_2) (@Sym.aRes.eq_1)))) (And.intro (And.intro (And.intro (@Sym.aRes.eq_2) (@Sym.aRes.eq_3)) (And.intro (@Sym.one.eq_def) (@Sym.frzM.eq_1))) (And.intro (And.intro (@Sym.frzM.eq_2) (@Sym.frz1.eq_def)) (And.intro (@Sym.frz0.eq_def) (And.intro (@Sym.frzL.eq_1) (@Sym.frzL.eq_2))))))) (And.intro (And.intro (And.intro (And.intro (And.intro (@Sym.args0.eq_1) (@Sym.args0.eq_2)) (And.intro (@Sym.dead0.eq_def) (@Sym.aCallM.eq_def))) (And.intro (And.intro (@aopM_s) (@aopM_f)) (And.intro (@Sym.aCallF.eq_def) (@go_regx)))) (And.intro (And.intro (And.intro (And.intro (@go_drop) (And.intro (@Sym.frzT.eq_1) (And.intro (@Sym.frzT.eq_2) (And.intro (@Sym.frzT.eq_3) (And.intro (@Sym.frzE.eq_def) (@Sym.frzC.eq_def)))))) (@Sym.dropR.eq_1)) (And.intro (@Sym.dropR.eq_2) (@Sym.dropE.eq_1))) (And.intro (And.intro (@Sym.dropE.eq_2) (@ot_some)) (And.intro (@at_nil) (@at_op))))) (And.intro (And.intro (And.intro (And.intro (@at_alt) (@ot1_true)) (And.intro (@ot1_false) (@ot2_some))) (And.intro (And.intro (@ot3_some) (@Sym.agreeK.eq_1)) (And.intro (@Sym.agreeK.eq_2) (@Sym.dstsT.eq_1)))) (And.intro (And.intro (And.intro (@Sym.dstsT.eq_2) (@Sym.dstsT.eq_3)) (And.intro (@Option.toList_some.{0}) (@Option.toList_none.{0}))) (And.intro (And.intro (@if_true.{1}) (@if_false.{1})) (And.intro (@ite_true.{1}) (And.intro (@ite_false.{1}) (@ne_eq.{1}))))))))) := (And.intro (And.intro (And.intro (And.intro (And.intro (And.intro (And.intro (@Sym.wants.eq_def) (@Sym.get.eq_1)) (And.intro (@Sym.get.eq_2) (@Sym.ev.eq_def))) (And.intro (And.intro (@Sym.evs.eq_1) (@Sym.evs.eq_2)) (And.intro (@Sym.evO.eq_def) (@Sym.evP.eq_1)))) (And.intro (And.intro (And.intro (@Sym.evP.eq_2) (@Sym.put.eq_def)) (And.intro (@Sym.lev.eq_def) (@Sym.aq.eq_def))) (And.intro (And.intro (@Sym.ae.eq_def) (@Sym.aBin.eq_def)) (And.intro (@Sym.aInt.eq_def) (@Sym.isShift.eq_def))))) (And.intro (And.intro (And.intro (And.intro (@Sym.aEqB.eq_def) (@Sym.aEqP.eq_def)) (And.intro (@Sym.aEqS.eq_def) (@Sym.leavesEq.eq_1))) (And.intro (And.intro (@Sym.leavesEq.eq_2) (@Sym.leafEq.eq_def)) (And.intro (@Sym.aUn.eq_def) (@Sym.rd.eq_def)))) (And.intro (And.intro (And.intro (@Sym.aLoad.eq_def) (@Sym.aField.eq_def)) (And.intro (@Sym.aFad.eq_def) (@Sym.aNilck.eq_def))) (And.intro (And.intro (@Sym.asI.eq_def) (@Sym.aIxS.eq_def)) (And.intro (@Sym.aIxA.eq_def) (@Sym.aIxV.eq_def)))))) (And.intro (And.intro (And.intro (And.intro (And.intro (@Sym.aExt.eq_def) (@Sym.aPick.eq_def)) (And.intro (@Sym.aCvi.eq_def) (@Sym.aCvs.eq_def))) (And.intro (And.intro (@Sym.aLen.eq_def) (@Sym.aLenS.eq_def)) (And.intro (@Sym.aMin2.eq_def) (@Sym.aMax2.eq_def)))) (And.intro (And.intro (And.intro (@Sym.aFold.eq_def) (@Sym.aFoldL.eq_1)) (And.intro (@Sym.aFoldL.eq_2) (@Sym.bnd.eq_def))) (And.intro (And.intro (@Sym.aSlStr.eq_def) (@Sym.aSlS.eq_def)) (And.intro (@Sym.fillL.eq_1) (@Sym.fillL.eq_2))))) (And.intro (And.intro (And.intro (And.intro (@Sym.newO.eq_def) (@Sym.kill.eq_def)) (And.intro (@Sym.aStore.eq_def) (@Sym.putL.eq_1))) (And.intro (And.intro (@Sym.putL.eq_2) (@Sym.getO.eq_def)) (And.intro (@Sym.cellsOf.eq_def) (@Sym.elems.eq_def)))) (And.intro (And.intro (And.intro (@Sym.elemsS.eq_def) (@Sym.aApp.eq_def)) (And.intro (@Sym.aCpy.eq_def) (@Sym.aClr.eq_def))) (And.intro (And.intro (@Sym.reps.eq_1) (@Sym.reps.eq_2)) (And.intro (@Sym.aCallQ.eq_def) (And.intro (@Sym.finishCall.eq_def) (@Sym.refs.eq_def)))))))) (And.intro (And.intro (And.intro (And.intro (And.intro (And.intro (@Sym.refs1.eq_def) (@Sym.refs0.eq_def)) (And.intro (@Sym.okv.eq_def) (@Sym.ok1.eq_def))) (And.intro (And.intro (@Sym.atom.eq_def) (@Sym.flat0.eq_def)) (And.intro (@Sym.dedup.eq_1) (@Sym.dedup.eq_2)))) (And.intro (And.intro (And.intro (@Sym.renO.eq_def) (@Sym.ren.eq_def)) (And.intro (@Sym.ren1.eq_def) (@Sym.ren0.eq_def))) (And.intro (And.intro (@Sym.gmap.eq_def) (@Sym.mergeOld.eq_1)) (And.intro (@Sym.mergeOld.eq_2) (@Sym.mergeNew.eq_def))))) (And.intro (And.intro (And.intro (And.intro (@Sym.mergeO.eq_def) (@Sym.allFresh.eq_def)) (And.intro (@Sym.det.eq_def) (@Sym.det0.eq_def))) (And.intro (And.intro (@Sym.canon.eq_def) (@Sym.keepEnv.eq_1)) (And.intro (@Sym.keepEnv.eq_2) (@Sym.aRes.eq_1)))) (And.intro (And.intro (And.intro (@Sym.aRes.eq_2) (@Sym.aRes.eq_3)) (And.intro (@Sym.one.eq_def) (@Sym.frzM.eq_1))) (And.intro (And.intro (@Sym.frzM.eq_2) (@Sym.frz1.eq_def)) (And.intro (@Sym.frz0.eq_def) (And.intro (@Sym.frzL.eq_1) (@Sym.frzL.eq_2))))))) (And.intro (And.intro (And.intro (And.intro (And.intro (@Sym.args0.eq_1) (@Sym.args0.eq_2)) (And.intro (@Sym.dead0.eq_def) (@Sym.aCallM.eq_def))) (And.intro (And.intro (@aopM_s) (@aopM_f)) (And.intro (@Sym.aCallF.eq_def) (@go_regx)))) (And.intro (And.intro (And.intro (And.intro (@go_drop) (And.intro (@Sym.frzT.eq_1) (And.intro (@Sym.frzT.eq_2) (And.intro (@Sym.frzT.eq_3) (And.intro (@Sym.frzE.eq_def) (@Sym.frzC.eq_def)))))) (@Sym.dropR.eq_1)) (And.intro (@Sym.dropR.eq_2) (@Sym.dropE.eq_1))) (And.intro (And.intro (@Sym.dropE.eq_2) (@ot_some)) (And.intro (@at_nil) (@at_op))))) (And.intro (And.intro (And.intro (And.intro (@at_alt) (@ot1_true)) (And.intro (@ot1_false) (@ot2_some))) (And.intro (And.intro (@ot3_some) (@Sym.agreeK.eq_1)) (And.intro (@Sym.agreeK.eq_2) (@Sym.dstsT.eq_1)))) (And.intro (And.intro (And.intro (@Sym.dstsT.eq_2) (@Sym.dstsT.eq_3)) (And.intro (@Option.toList_some.{0}) (@Option.toList_none.{0}))) (And.intro (And.intro (@if_true.{1}) (@if_false.{1})) (And.intro (@ite_true.{1}) (And.intro (@ite_false.{1}) (@ne_eq.{1})))))))))
theorem eqe : type_of% (And.intro (And.intro (@Sym.aCall.eq_def) (And.intro (@Sym.reach.eq_1) (@Sym.reach.eq_2))) (And.intro (@Sym.reach.eq_3) (And.intro (@Sym.pos.eq_def) (@Sym.sub.eq_def)))) := (And.intro (And.intro (@Sym.aCall.eq_def) (And.intro (@Sym.reach.eq_1) (@Sym.reach.eq_2))) (And.intro (@Sym.reach.eq_3) (And.intro (@Sym.pos.eq_def) (@Sym.sub.eq_def))))
end Go.Proofs.Ythkjiclplecljaa.Sym

/- What a law is given, as the abstract machine has it. -/
namespace Go.Proofs.Ythkjiclplecljaa.Sym
open Go
set_option linter.unusedVariables false
set_option linter.unusedSimpArgs false

/-- All blocks that are there. -/
def ImOf (w : World) : Imm := fun b => match w.heap[b]? with
  | some (.cells arr _ _) => some arr
  | _ => none
theorem cell_im {w : World} {a : Addr} {v : Value} (h : w.cell? a = some v) : ∃ arr, ImOf w a.block = some arr ∧ arr[a.off]? = some v ∧ a.spot = none := by
  have hs := World.cell?_spot h
  unfold World.cell? at h
  unfold ImOf
  split at h
  · rename_i c T fz hb
    rw [hb]
    rw [hs] at h
    exact ⟨c, rfl, by simpa using h, hs⟩
  · cases h
theorem rel_im (w : World) (hg : GlobIn (ImOf w)) : Rel (ImOf w) [] [] w where
  len := rfl
  im := fun b arr h => by
    unfold ImOf at h
    split at h
    · rename_i c T fz hb
      cases h
      exact ⟨T, fz, hb⟩
    · cases h
  obj := fun k o h => by simp at h
  atoms := fun k o h => by simp at h
  flat := fun k o h => by simp at h
  sep := fun k k' o o' b s1 s2 b' s1' s2' h => by simp at h
  gl := hg

/-- Cells. -/
structure VC (Im : Imm) (as : List AV) (cs : List Value) : Prop where
  len : as.length = cs.length
  at_ : ∀ (i : Nat) a, as[i]? = some a → atom a = true
  val : ∀ (i : Nat) a, as[i]? = some a → ∃ x, cs[i]? = some x ∧ VR Im [] a x
theorem VC.append {Im : Imm} {as bs : List AV} {cs ds : List Value} (h : VC Im as cs) (h' : VC Im bs ds) : VC Im (as ++ bs) (cs ++ ds) := by
  refine ⟨by rw [List.length_append, List.length_append, h.len, h'.len], fun i a hi => ?_, fun i a hi => ?_⟩
  · rw [List.getElem?_append] at hi
    split at hi
    · exact h.at_ _ _ hi
    · exact h'.at_ _ _ hi
  · rw [List.getElem?_append] at hi ⊢
    rw [← h.len]
    split at hi
    · rename_i hlt
      rw [if_pos hlt]
      exact h.val _ _ hi
    · rename_i hlt
      rw [if_neg hlt]
      exact h'.val _ _ hi
theorem VC.one {Im : Imm} {a : AV} {x : Value} (ha : atom a = true) (h : VR Im [] a x) : VC Im [a] [x] := by
  refine ⟨rfl, fun i b hi => ?_, fun i b hi => ?_⟩
  all_goals
    cases i with
    | zero => simp at hi; subst hi; first | exact ha | exact ⟨x, rfl, h⟩
    | succ i => simp at hi
theorem VC.head {Im : Imm} {a : AV} {x : Value} (h : VC Im [a] [x]) : VR Im [] a x := by
  obtain ⟨y, hy, hv⟩ := h.val 0 a rfl
  cases hy
  exact hv
theorem VC.agg {Im : Imm} {as : List AV} {cs : Array Value} (h : VC Im as cs.toList) : VR Im [] (.agg as) (.agg cs) := by
  refine .agg cs (fun i => (cs[i]?).getD undef) (by rw [h.len]; simp) (fun i a hi => ?_) (fun i a hi => ?_)
  all_goals
    obtain ⟨x, hx, hv⟩ := h.val i a hi
    rw [Array.getElem?_toList] at hx
    rw [hx]
  · rfl
  · exact hv

/-- What a value of a type reads as: something of α, with so many cells. -/
structure Rd {α : Type} (P : Program) (t : TypeId) (n : Nat) (av : α → List AV) (Q : α → Prop) : Prop where mk ::
  sz : ∀ v, (av v).length = n
  out : ∀ {H : Type} (enc : TypeId × Value → H) (w : World) (fuel : Nat) (held : Bool) (cs : List Value) (x : DataW H × List MemPlace),
    DataW.trod enc P w 0 (fun _ => true) held fuel t cs = some x → (∀ n, n ∈ x.1.weights P t → n ≤ 140737488351232) → ∃ v, VC (ImOf w) (av v) cs ∧ Q v
theorem rd_int {P : Program} {t : TypeId} {k : IntKind} (ht : P.underlying t = some (.int k)) : Rd P t 1 (fun v => [.v (.int k v)]) (fun v => (Lit.int k v).wf = true) := ⟨fun _ => rfl,
  fun {H} enc w fuel held cs x hx _ => by
    obtain ⟨n, rfl, rfl, hw⟩ := DataW.trod_int ht hx
    exact ⟨n, .one rfl (.v rfl), hw⟩⟩
theorem rd_imp {α : Type} {P : Program} {t : TypeId} {n : Nat} {av : α → List AV} {Q Q' : α → Prop} (h : Rd P t n av Q) (hq : ∀ v, Q v → Q' v) : Rd P t n av Q' := ⟨h.sz, fun {H} enc w fuel held cs x hx hw => by
  obtain ⟨v, h1, h2⟩ := h.out enc w fuel held cs x hx hw
  exact ⟨v, h1, hq v h2⟩⟩
theorem list_of' {α : Type} (p : Nat → α → Prop) : ∀ n, (∀ i, i < n → ∃ v, p i v) → ∃ l : List α, l.length = n ∧ ∀ (i : Nat) v, l[i]? = some v → p i v
  | 0, _ => ⟨[], rfl, fun i v h => by simp at h⟩
  | n + 1, h => by
    obtain ⟨l, h1, h2⟩ := list_of' p n (fun i hi => h i (by omega))
    obtain ⟨v, hv⟩ := h n (by omega)
    refine ⟨l ++ [v], by rw [List.length_append, h1]; rfl, fun i u hu => ?_⟩
    rcases Nat.lt_or_ge i l.length with hi | hi
    · rw [List.getElem?_append_left hi] at hu
      exact h2 i u hu
    · rw [List.getElem?_append_right hi] at hu
      have hi' : i - l.length = 0 := by
        rcases Nat.eq_zero_or_pos (i - l.length) with z | z
        · exact z
        · rw [List.getElem?_eq_none (by simp; omega)] at hu
          cases hu
      rw [hi'] at hu
      have e : i = n := by omega
      subst e
      obtain rfl : v = u := by simpa using hu
      exact hv
theorem all_mem' {H : Type} {P : Program} {e : TypeId} {d : DataW H} {n : Nat} : ∀ {l : List (DataW H)}, d ∈ l → n ∈ d.weights P e → n ∈ DataW.weightsAll P e l
  | [], h, _ => by cases h
  | x :: r, h, hn => by
    simp only [DataW.weightsAll, List.mem_append]
    rcases List.mem_cons.1 h with rfl | h
    · exact Or.inl hn
    · exact Or.inr (all_mem' h hn)
/-- The cell of an element, in a row of elements. -/
theorem flat_get {α : Type} {n : Nat} {av : α → List AV} (hn : 0 < n) (hs : ∀ v, (av v).length = n) : ∀ (l : List α) (i : Nat) (a : AV), (l.flatMap av)[i]? = some a → ∃ v, l[i / n]? = some v ∧ (av v)[i % n]? = some a
  | [], i, a, h => by simp at h
  | v :: l, i, a, h => by
    rw [List.flatMap_cons, List.getElem?_append, hs] at h
    split at h
    · rename_i hi
      rw [Nat.div_eq_of_lt hi, Nat.mod_eq_of_lt hi]
      exact ⟨v, rfl, h⟩
    · rename_i hi
      obtain ⟨u, h1, h2⟩ := flat_get hn hs l (i - n) a h
      have e : i = (i - n) + n := by omega
      rw [e, Nat.add_div_right _ hn, Nat.add_mod_right]
      exact ⟨u, by simpa using h1, h2⟩
theorem rd_slice {α : Type} {P : Program} {t e : TypeId} {n : Nat} {av : α → List AV} {Q : α → Prop} (ht : P.underlying t = some (.slice e)) (he : Rd P e n av Q) (hc : P.cellsOf e = n) (hby : decide (0 < P.bytesOf e ∧ 0 < n) = true) :
    Rd P t 1 (fun l : List α => [.shr l.length false (l.flatMap av)]) (fun l => l.length ≤ 140737488351232 ∧ ∀ (i : Nat) x, l[i]? = some x → Q x) := ⟨fun _ => rfl,
  fun {H} enc w fuel held cs x hx hw => by
    obtain ⟨hby1, hn0⟩ := of_decide_eq_true hby
    rcases DataW.trod_slice ht hx with ⟨rfl, rfl⟩ | ⟨a, len, cap, elems, rest, m, _, rfl, rfl, hb, hl, hm, hlen, hel, hsp, _⟩
    · exact ⟨[], .one rfl (.shr0 none), by simp, fun i x h => by simp at h⟩
    · have hw1 : ∀ i, (hi : i < len) → ∀ m, m ∈ (elems[i]'(by omega)).1.weights P e → m ≤ 140737488351232 := fun i hi m hm => hw m (by
        simp only [DataW.weights, ht, List.mem_cons, List.mem_append]
        exact Or.inr (Or.inl (all_mem' (List.mem_map.2 ⟨_, List.getElem_mem (by omega), rfl⟩) hm)))
      have hw0 := hw ((elems.map (·.1)).length * P.bytesOf e + (rest.map (·.1)).length * P.bytesOf e) (by
        simp only [DataW.weights, ht, List.mem_cons]
        exact Or.inl (Nat.add_mul _ _ _).symm)
      obtain ⟨l, h1, h2⟩ := list_of' (fun i v => ∃ c, w.cells? 0 (a.add (i * P.cellsOf e)) (P.cellsOf e) = some c ∧ VC (ImOf w) (av v) c ∧ Q v) len (fun i hi => by
        have h := hel i hi
        rw [List.getElem?_eq_getElem (by omega)] at h
        obtain ⟨c, hc1, hc2⟩ := Option.bind_eq_some_iff.1 h
        obtain ⟨v, hv, hq⟩ := he.out enc w m held c _ hc2 (hw1 i hi)
        exact ⟨v, c, hc1, hv, hq⟩)
      refine ⟨l, ?_, ?_, fun i x hx => ?_⟩
      · -- the block
        have first : 0 < cap → ∃ arr, ImOf w a.block = some arr ∧ a.spot = none := fun hcap => by
          have hcell : ∃ c, w.cells? 0 (a.add (0 * P.cellsOf e)) (P.cellsOf e) = some c := by
            rcases Nat.eq_zero_or_pos len with z | z
            · obtain ⟨r1, r2⟩ := hsp rfl
              have h := r2 0 (by omega)
              rw [List.getElem?_eq_getElem (by omega)] at h
              obtain ⟨c, hc1, _⟩ := Option.bind_eq_some_iff.1 h
              rw [z] at hc1
              exact ⟨c, by simpa using hc1⟩
            · have h := hel 0 z
              rw [List.getElem?_eq_getElem (by omega)] at h
              obtain ⟨c, hc1, _⟩ := Option.bind_eq_some_iff.1 h
              exact ⟨c, hc1⟩
          obtain ⟨c, hc1⟩ := hcell
          obtain ⟨_, hcl, hcc⟩ := World.cells?_some hc1
          have h3 := hcc 0 (by omega)
          rw [List.getElem?_eq_getElem (by omega)] at h3
          obtain ⟨arr, e1, _, e3⟩ := cell_im h3
          have e0 : (a.add (0 * P.cellsOf e)).add 0 = a := by simp [Addr.add]
          rw [e0] at e1 e3
          exact ⟨arr, e1, e3⟩
        refine .one rfl ?_
        rcases Nat.eq_zero_or_pos cap with z | z
        · obtain rfl : len = 0 := by omega
          obtain rfl : l = [] := List.eq_nil_of_length_eq_zero h1
          rw [z]
          exact .shr0 (some a)
        · obtain ⟨arr, ha1, ha2⟩ := first z
          obtain ⟨ab, ao, as⟩ := a
          simp only at ha1 ha2
          subst ha2
          have cellAt : ∀ (i : Nat) b, (l.flatMap av)[i]? = some b → atom b = true ∧ ∃ x, arr[ao + i]? = some x ∧ VR (ImOf w) [] b x := fun i b hi => by
            obtain ⟨v, hv1, hv2⟩ := flat_get hn0 he.sz l i b hi
            obtain ⟨c, hc1, hc2, _⟩ := h2 _ v hv1
            obtain ⟨_, hcl, hcc⟩ := World.cells?_some hc1
            obtain ⟨y, hy1, hy2⟩ := hc2.val _ b hv2
            refine ⟨hc2.at_ _ b hv2, y, ?_, hy2⟩
            have h3 := hcc (i % n) (by rw [hc]; exact Nat.mod_lt _ hn0)
            rw [hy1] at h3
            obtain ⟨arr', e1, e2, e3⟩ := cell_im h3
            have o1 : (((⟨ab, ao, none⟩ : Addr).add (i / n * P.cellsOf e)).add (i % n)) = ⟨ab, ao + i, none⟩ := by
              have : i / n * n + i % n = i := by rw [Nat.mul_comm]; exact Nat.div_add_mod i n
              rw [hc]
              unfold Addr.add
              by_cases z1 : i / n * n = 0 <;> by_cases z2 : i % n = 0 <;> simp [z1, z2] <;> omega
            rw [o1] at e1 e2
            simp only at e1 e2
            rw [ha1] at e1
            cases e1
            exact e2
          rw [← h1]
          refine .shr ab ao cap arr (fun i => (arr[ao + i]?).getD undef) ha1 (by omega) (fun h => by cases h) (fun i b hi => (cellAt i b hi).1) (fun i b hi => ?_) (fun i b hi => ?_)
          · obtain ⟨_, x, hx, _⟩ := cellAt i b hi
            rw [hx]
            rfl
          · obtain ⟨_, x, hx, hv⟩ := cellAt i b hi
            rw [hx]
            exact hv
      · rw [List.length_map] at hw0
        have := Nat.le_mul_of_pos_right elems.length hby1
        rw [h1, ← hlen]
        omega
      · obtain ⟨_, _, _, hq⟩ := h2 i x hx
        exact hq⟩

structure RdF {α : Type} (P : Program) (tl : List (TypeId × Nat)) (off n : Nat) (av : α → List AV) (Q : α → Prop) : Prop where mk ::
  sz : ∀ v, (av v).length = n
  out : ∀ {H : Type} (enc : TypeId × Value → H) (w : World) (fuel : Nat) (held : Bool) (cs : List Value) (xs : List (DataW H × List MemPlace)),
    cs.length = off + n → xs.length = tl.length →
    (∀ (i : Nat) (f : TypeId × Nat), tl[i]? = some f → DataW.trod enc P w 0 (fun _ => true) held fuel f.1 ((cs.drop f.2).take (P.cellsOf f.1)) = xs[i]?) →
    (∀ n, n ∈ DataW.weightsEach P (tl.map (·.1)) (xs.map (·.1)) → n ≤ 140737488351232) → ∃ v, VC (ImOf w) (av v) (cs.drop off) ∧ Q v
theorem rdF_one {α : Type} {P : Program} (t : TypeId) (off : Nat) {n : Nat} {av : α → List AV} {Q : α → Prop} (h : Rd P t n av Q) (hc : P.cellsOf t = n) : RdF P [(t, off)] off n av Q := ⟨h.sz,
  fun {H} enc w fuel held cs xs hl hx ht hw => by
    match xs, hx with
    | [x], _ =>
      have h0 := ht 0 (t, off) rfl
      rw [List.take_of_length_le (by rw [List.length_drop]; show _ ≤ P.cellsOf t; omega)] at h0
      exact h.out enc w fuel held _ _ h0 (fun n hn => hw n (by simpa [DataW.weightsEach] using hn))⟩
theorem rdF_cons {α β : Type} {P : Program} (t : TypeId) (off : Nat) {tl : List (TypeId × Nat)} {n1 n2 : Nat} {av1 : α → List AV} {av2 : β → List AV} {Q1 : α → Prop} {Q2 : β → Prop} (h : Rd P t n1 av1 Q1) (hc : P.cellsOf t = n1)
    (hr : RdF P tl (off + n1) n2 av2 Q2) : RdF P ((t, off) :: tl) off (n1 + n2) (fun v : α × β => av1 v.1 ++ av2 v.2) (fun v => Q1 v.1 ∧ Q2 v.2) := ⟨fun v => by rw [List.length_append, h.sz, hr.sz],
  fun {H} enc w fuel held cs xs hl hx ht hw => by
    match xs, hx with
    | x :: xr, hx =>
      have h0 : DataW.trod enc P w 0 (fun _ => true) held fuel t ((cs.drop off).take (P.cellsOf t)) = some x := ht 0 (t, off) rfl
      rw [hc] at h0
      obtain ⟨v1, hk1, hq1⟩ := h.out enc w fuel held _ _ h0 (fun n hn => hw n (by simp only [List.map_cons, DataW.weightsEach, List.mem_append]; exact Or.inl hn))
      obtain ⟨v2, hk2, hq2⟩ := hr.out enc w fuel held cs xr (by omega) (by simpa using hx) (fun i g hg => ht (i + 1) g hg) (fun n hn => hw n (by simp only [List.map_cons, DataW.weightsEach, List.mem_append]; exact Or.inr hn))
      refine ⟨(v1, v2), ?_, hq1, hq2⟩
      have := hk1.append hk2
      rw [← List.drop_drop, List.take_append_drop] at this
      exact this⟩
theorem rd_struct {α β : Type} {P : Program} {t : TypeId} {fs : Array Field} {tl : List (TypeId × Nat)} {n : Nat} {av : α → List AV} {av' : β → List AV} {Q : α → Prop} {Q' : β → Prop} (hf : RdF P tl 0 n av Q) (ht : P.underlying t = some (.struct fs)) (htl : fs.toList.map (fun f => (f.type, f.offset)) = tl) (g : α → β) (hs : ∀ v, (av' v).length = n) (hav : ∀ v, av' (g v) = av v) (hq : ∀ v, Q v → Q' (g v)) (hc : P.cellsOf t = n) :
    Rd P t n av' Q' := ⟨hs,
  fun {H} enc w fuel held cs x hx hw => by
    obtain ⟨xs, m, _, rfl, hl, hxl, h⟩ := DataW.trod_struct ht hx
    subst htl
    obtain ⟨v, hk, hq1⟩ := hf.out enc w m held cs xs (by omega) (by simpa using hxl) (fun i f hi => by
      rw [List.getElem?_map] at hi
      obtain ⟨g, hg, rfl⟩ := Option.map_eq_some_iff.1 hi
      exact h i g (by simpa using hg)) (fun m hm => hw m (by simp only [DataW.weights, ht]; simpa [List.map_map, Function.comp_def] using hm))
    exact ⟨g v, by rw [hav]; exact hk, hq v hq1⟩⟩
/-- An argument. -/
theorem arg_rd {α : Type} {P : Program} {t : TypeId} {n : Nat} {av : α → List AV} {Q : α → Prop} (h : Rd P t n av Q) {H : Type} {enc : TypeId × Value → H} {w : World} {held : Bool} {v : Value} {x : DataW H} {ps : List MemPlace} {ts : List TypeId} {ds : List (DataW H)} {j : Nat}
    (hx : DataW.Trod enc P w 0 (fun _ => true) held t v x ps) (hw : (DataW.weightsEach P ts ds).all (· ≤ reachBytes) = true) (ht : ts[j]? = some t) (hd : ds[j]? = some x) : ∃ u : α, VC (ImOf w) (av u) v.cells.toList ∧ Q u := by
  obtain ⟨fuel, hf⟩ := hx
  exact h.out enc w fuel held _ _ hf (fun n hn => by
    have := List.all_eq_true.1 hw n (DataW.weights_mem_each ht hd n hn)
    exact (of_decide_eq_true this : n ≤ reachBytes))
theorem rng_i64 {v : Int} (h : (Lit.int .i64 v).wf = true) : -9223372036854775808 ≤ v ∧ v ≤ 9223372036854775807 := by
  simp only [Lit.wf, Bool.and_eq_true, decide_eq_true_eq] at h
  exact h
/-- What a law's call gives, told as it is asked for. -/
theorem law_calls {P : Program} {T : Tb} (hC : ∀ k, CallsOK P (acall T k)) {k f : Nat} {args : List AV} {ob : List Obj} {d : Nat} {vals : List Value} {w : World} (h : acall T k f 0 args [] = some ⟨.v (.bool true), ob, d⟩) (hv : VRs (ImOf w) [] args vals) (hg : GlobIn (ImOf w) := by intro g h; cases h) :
    Calls P f vals.toArray w fun e w' => e = .returned (.bool true) ∧ Go.RowKit.Below w.heap.size w w' := by
  refine (hC k f 0 args [] _ h (ImOf w) [] w vals (rel_im w hg) (fun o ho => by simp at ho) (Nat.le_refl _) hv).2.mono ?_
  rintro e w' ⟨x, Im', ρ', rfl, hb⟩
  have hx : x = .bool true := by
    have := hb.val
    cases this
    rfl
  subst hx
  refine ⟨rfl, hb.fr.os, hb.fr.tape, hb.fr.output, hb.fr.size, fun b hlt => hb.fr.block b hlt ?_⟩
  rintro ⟨_, k, o, s1, s2, ho, _⟩
  simp at ho
end Go.Proofs.Ythkjiclplecljaa.Sym
