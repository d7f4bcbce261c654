/- From the program's operations to those of the abstract machine. -/
import Derived.Test.YtkaigdfklihlcaaSymB
import Derived.StillTail
import Derived.Deep.Quiet
namespace Go.Proofs.Ytkaigdfklihlcaa.Sym
open Go
set_option linter.unusedVariables false

def cVal : Value → Option AV
  | .agg cs => if cs.toList.all pl = true then some (.agg (cs.toList.map .v)) else none
  | .func (.func f) first captured => if first.isEmpty && captured.isEmpty then some (.fn f []) else none
  | v => if pl v = true then some (.v v) else none
def cx : Operand → Option AX
  | .tmp t => some (.t t)
  | .const v => (cVal v).map .c
  | .func f => some (.c (.fn f []))
  | .global _ => none
def cxs : List Operand → Option (List AX)
  | [] => some []
  | x :: xs => (cx x).bind fun a => (cxs xs).bind fun as => some (a :: as)
def cxo : Option Operand → Option (Option AX)
  | none => some none
  | some x => (cx x).map some
/-- A zero value's cells. -/
def cz (P : Program) (t : TypeId) : Option (List AV) := (P.info? t).bind fun i => i.zero.bind fun z => if z.cells.toList.all pl = true then some (z.cells.toList.map .v) else none
def isAggT (P : Program) (t : TypeId) : Option Bool := (P.underlying t).map fun
  | .struct _ | .array _ _ => true
  | _ => false
def loadM (P : Program) (t : TypeId) : Option (Option Nat) := (isAggT P t).bind fun b => if b = true then (P.info? t).map fun i => some i.size else some none
def sizeT (P : Program) (t : TypeId) : Option Nat := (P.info? t).map (·.size)
def cparts (place : Nat → Option (Nat × Nat)) : List (Nat × Operand) → Option (List (Nat × Nat × AX))
  | [] => some []
  | (i, x) :: r => (place i).bind fun p => (cx x).bind fun a => (cparts place r).bind fun as => some ((p.1, p.2, a) :: as)
def leavesF (P : Program) (go : TypeId → Option (List (Nat × LK))) : List Field → Option (List (Nat × LK))
  | [] => some []
  | f :: fs => if f.name = "_" then leavesF P go fs else (go f.type).bind fun a => (sizeT P f.type).bind fun n => (leavesF P go fs).bind fun b =>
      if a.all (fun l => decide (l.1 < n)) = true then some (a.map (fun l => (f.offset + l.1, l.2)) ++ b) else none
def leavesT (P : Program) : Nat → TypeId → Option (List (Nat × LK))
  | 0, _ => none
  | d + 1, t => (P.underlying t).bind fun
    | .bool => some [(0, .b)]
    | .int _ => some [(0, .i)]
    | .string => some [(0, .s)]
    | .struct fs => if P.stoodInHeld t = true then none else leavesF P (leavesT P d) fs.toList
    | _ => none
def u8T (P : Program) (t : TypeId) : Bool := P.underlying t matches some (.int .u8)
def eqLike : BinOp → Bool
  | .eql | .neq => true
  | _ => false

def isSrc : TypeDesc → Bool
  | .slice _ | .string => true
  | _ => false
def compOp (P : Program) (o : Oper) : Option AO :=
  match o.op with
  | .move x | .assign x => (cx x).map .mv
  | .pick c a b => (cx c).bind fun c => (cx a).bind fun a => (cx b).bind fun b => some (.pick c a b)
  | .binOp op t x y _ => (cx x).bind fun x => (cx y).bind fun y => (P.underlying t).bind fun
      | .int _ | .string => some (.bin op x y)
      | .bool => if eqLike op = true then some (.eqb (op == .neq) x y) else none
      | .pointer _ => if eqLike op = true then some (.eqp (op == .neq) x y) else none
      | .slice _ => if eqLike op = true then some (.eqs (op == .neq) x y) else none
      | .struct _ => if (eqLike op && !P.eqGuardType P.depth t) = true then (leavesT P 50 t).bind fun ls => some (.eqst (op == .neq) ls x y) else none
      | _ => none
  | .unOp op _ x => (cx x).map (.un op)
  | .load t x => (loadM P t).bind fun m => (cx x).bind fun x => some (.load m x)
  | .store t a x => (sizeT P t).bind fun n => (cx a).bind fun a => (cx x).bind fun x => some (.store n a x)
  | .field t x f => (P.underlying t).bind fun
      | .struct fs => (fs[f]?).bind fun f => (loadM P f.type).bind fun m => (cx x).bind fun x => some (.fld f.offset m x)
      | _ => none
  | .fieldAddr t x f => (P.underlying t).bind fun
      | .struct fs => (fs[f]?).bind fun f => (sizeT P f.type).bind fun n => if n = 0 then none else (cx x).bind fun x => some (.fad f.offset x)
      | _ => none
  | .nilCheck x => (cx x).map .nilck
  | .indexAddr t x i => (cx x).bind fun x => (cx i).bind fun i => (P.underlying t).bind fun
      | .slice e => (sizeT P e).bind fun n => some (.ixs n x i)
      | .array len e => (sizeT P e).bind fun n => some (.ixa len n x i)
      | _ => none
  | .index t x i => (cx x).bind fun x => (cx i).bind fun i => (P.underlying t).bind fun
      | .string => some (.ixstr x i)
      | .array len e => (sizeT P e).bind fun n => (loadM P e).bind fun m => some (.ixv len n m x i)
      | _ => none
  | .extract x i => (cx x).map (.ext i)
  | .makeFunc f first captured => match f with
      | .func f => if first.isEmpty = true then (cxs captured.toList).map (.mkf f) else none
      | _ => none
  | .convert s d x => (cx x).bind fun x => (P.underlying s).bind fun su => (P.underlying d).bind fun du =>
      match su, du with
      | .int _, .int k => some (.cvi k x)
      | .string, .string => some (.cvs x)
      | .string, .slice e => if u8T P e = true then some (.cvsb x) else none
      | .slice e, .string => if u8T P e = true then some (.cvbs x) else none
      | _, _ => none
  | .slice t x lo hi mx => (cx x).bind fun x => (cxo lo).bind fun lo => (cxo hi).bind fun hi => (cxo mx).bind fun mx => (P.underlying t).bind fun
      | .string => if mx.isNone = true then some (.slstr x lo hi) else none
      | .slice e => (sizeT P e).bind fun n => if mx.isSome = true ∧ hi.isNone = true then none else some (.sls n x lo hi mx)
      | _ => none
  | .build t parts => (cz P t).bind fun z => (P.underlying t).bind fun
      | .struct fs => (cparts (fun i => (fs[i]?).bind fun f => (sizeT P f.type).map fun n => (f.offset, n)) parts.toList).bind fun ps => if fs.toList.all (fun f => (sizeT P f.type).isSome) = true then some (.build z ps) else none
      | .array _ e => (sizeT P e).bind fun n => (cparts (fun i => some (i * n, n)) parts.toList).bind fun ps => some (.build z ps)
      | _ => none
  | .buildSlice t len parts => (P.underlying t).bind fun
      | .slice e => (sizeT P e).bind fun n => (cz P e).bind fun z => if 0 < n ∧ z.length = n ∧ len * n ≤ 2 ^ 24 then (cparts (fun i => some (i * n, n)) parts.toList).bind fun ps => some (.row n len z ps) else none
      | _ => none
  | .box _ x => (cx x).map .box
  | .alloc t => (cz P t).map .alloc
  | .makeSlice t l c => (cx l).bind fun l => (cx c).bind fun c => (P.underlying t).bind fun
      | .slice e => (P.info? e).bind fun i => (cz P e).bind fun z => if 0 < i.size ∧ z.length = i.size then some (.mks i.size i.bytes z l c) else none
      | _ => none
  | .call c => (cxs c.args.toList).bind fun xs => match c.callee with
      | .value f => (cx f).bind fun f => some (.call f xs)
      | .invoke _ _ => none
      | .builtin b => match b, c.argTypes.toList, xs with
        | .len, t :: _, [x] => (P.underlying t).bind fun
            | .string => some (.lens x)
            | .slice _ => some (.len x)
            | _ => none
        | .min, _, xs => some (.min xs)
        | .max, _, xs => some (.max xs)
        | .append, t :: t' :: _, [x, y] => (P.underlying t).bind fun
            | .slice e => (P.info? e).bind fun i => (cz P e).bind fun z => (P.underlying t').bind fun u =>
                if 0 < i.size ∧ z.length = i.size ∧ isSrc u = true then some (.app i.size i.bytes x y) else none
            | _ => none
        | .copy, t :: _, [x, y] => (P.underlying t).bind fun
            | .slice e => (sizeT P e).bind fun n => some (.cpy n x y)
            | _ => none
        | .clear, t :: _, [x] => (P.underlying t).bind fun
            | .slice e => (sizeT P e).bind fun n => (cz P e).bind fun z => if 0 < n ∧ z.length = n then some (.clr n z x) else none
            | _ => none
        | _, _, _ => none
  | _ => none

def compG (ops : Array Oper) (g : Option (Nat × Bool)) : Option (Option (Nat × Bool)) := match g with
  | none => some none
  | some (j, b) => ((ops[j]?).bind (·.dst)).map fun d => some (d, b)
def compOps (P : Program) (N : Nat) (ops : Array Oper) : List Oper → Option (List AOper)
  | [] => some []
  | o :: r => (compOp P o).bind fun a => (compG ops o.guard).bind fun g => (compOps P N ops r).bind fun l => if o.dst.all (fun d => decide (d < N)) = true then some (⟨o.dst, g, a⟩ :: l) else none
/-- Does an operation act, or is it a call of one of these? -/
def heavy (hv : List Nat) : AO → Bool
  | .box _ | .alloc _ | .row _ _ _ _ | .store _ _ _ | .mks _ _ _ _ _ | .app _ _ _ _ | .cpy _ _ _ | .cvsb _ | .clr _ _ _ => true
  | .call (.c (.fn f _)) _ => hv.contains f
  | _ => false
/-- What comes behind i, at whatever remove. -/
def depGo (i : Nat) : List Oper → List Bool → List Bool
  | [], acc => acc
  | o :: os, acc => depGo i os (acc ++ [o.after.any fun x => Region.binds .any x && (x.on == i || acc.getD x.on false)])
def depOf (ops : Array Oper) (i : Nat) : List Bool := depGo i ops.toList []
/-- May it be taken first? -/
def okFirst (ops : Array Oper) (cls : List Nat) (listed : Array Bool) (i : Nat) : Bool :=
  (decide (cls.getD i 0 = 1) || decide (cls.getD i 0 = 2) || decide (cls.getD i 0 = 5)) && Region.free .any ops listed i && (decide (cls.getD i 0 = 2) ||
    (let d := depOf ops i; (List.range ops.size).all fun e => decide (1 ≤ cls.getD e 0) || listed.getD e true || d.getD e false))
def permGo (ops : Array Oper) (cls : List Nat) : Nat → Array Bool → Option (List Nat)
  | 0, listed => if (Region.ready .any ops listed).isEmpty = true then some [] else none
  | f + 1, listed => match (Region.ready .any ops listed).find? (fun i => okFirst ops cls listed i) with
    | some i => (permGo ops cls f (listed.setIfInBounds i true)).map (i :: ·)
    | none => match Region.ready .any ops listed with
      | [k] => (permGo ops cls f (listed.setIfInBounds k true)).map (k :: ·)
      | _ => none
/-- Code; for each loop the temporaries that are live at its head. -/
def compC (P : Program) (N : Nat) (hv : List Nat) : Code → List (List Nat) → Option (AC × List (List Nat))
  | .skip, an => some (.skip, an)
  | .ret, an => some (.ret, an)
  | .exit id, an => some (.exit id, an)
  | .seq a b, an => (compC P N hv a an).bind fun (a', an) => (compC P N hv b an).bind fun (b', an) => some (.seq a' b', an)
  | .cond x a b, an => (cx x).bind fun x => (compC P N hv a an).bind fun (a', an) => (compC P N hv b an).bind fun (b', an) => some (.cond x a' b', an)
  | .block id b, an => (compC P N hv b an).bind fun (b', an) => some (.block id b', an)
  | .loop b, l :: an => (compC P N hv b an).bind fun (b', an) => some (.loop l b', an)
  | .region _ ops draw, an => (compOps P N ops ops.toList).bind fun l =>
      if draw = false then some (.reg l, an)
      else if (Region.lexB .any ops && l.all fun o => !heavy hv o.op) = true then some (.regq l, an)
      else match if hv.contains 1000000 = true then none else (List.range ops.size).find? fun n => (l.take n).all (fun o => !heavy hv o.op) && Region.lexTailB .any ops n with
        | some n => some (.regt n l, an)
        | none => match permGo ops (l.map fun o => clsV hv o.op) ops.size (Array.replicate ops.size false) with
          | some π => if (Region.noSelect ops && π.all (fun i => decide (i < l.length))) = true then some (.regm (π.map fun i => (qk (clsV hv (l.getD i ⟨none, none, .mv (.t 0)⟩).op), l.getD i ⟨none, none, .mv (.t 0)⟩)), an) else none
          | none => if Region.lexB .any ops = true then some (.regs (l.findIdx fun o => heavy hv o.op) l, an) else none
  | _, _ => none
def compR (P : Program) : List ResultVar → Option (List RV)
  | [] => some []
  | .tmp i :: r => (compR P r).bind fun l => some (.t i :: l)
  | .cell i t :: r => (loadM P t).bind fun m => (compR P r).bind fun l => some (.cell i m :: l)
/-- A function: its code as the abstract machine has it. -/
def compF (P : Program) (F : Func) (an : List (List Nat)) (frz up : Bool) (hv : List Nat) : Option AFn :=
  F.body.bind fun c => (compC P F.ntmps hv c an).bind fun (b, rest) => (compR P F.results.toList).bind fun rs =>
    if rest.isEmpty = true ∧ (F.name == "runtime.NumGoroutine") = false ∧ F.params.size + F.nfree ≤ F.ntmps then some ⟨F.params.size + F.nfree, b, rs, frz, up⟩ else none
end Go.Proofs.Ytkaigdfklihlcaa.Sym
